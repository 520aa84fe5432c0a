/- Contracts: the reference's draws of a bool, of a text. -/
import Derived.Test.YtdpkldapobbnpaaGreatDoorLits
import Derived.Test.YtdpkldapobbnpaaGreatDoorShuf
import Derived.Test.YtdpkldapobbnpaaGreatDoorBase
namespace Go.Proofs.YtdpkldapobbnpaaGreatDoor
set_option linter.unusedVariables false
set_option linter.unusedSimpArgs false
open Go.RowKit
theorem offq {p : Nat} {w w' : World} (h : OffF [p] w w') {b o : Nat} (hb : b ≠ p) (hl : b < w.heap.size) {v : Value} (hv : w.cell? ⟨b, o, none⟩ = some v) : w'.cell? ⟨b, o, none⟩ = some v :=
 (World.cell?_of_block (a := ⟨b, o, none⟩) (h.block b hl (by simpa using hb))).trans hv
theorem offfr {p : Nat} {w w' : World} (h : OffF [p] w w') {b : Nat} (hb : b ≠ p) (hl : b < w.heap.size) (hv : ∀ o, w.frozen? ⟨b, o, none⟩ = false) : ∀ o, w'.frozen? ⟨b, o, none⟩ = false := fun o =>
 (World.frozen?_of_block (a := ⟨b, o, none⟩) (h.block b hl (by simpa using hb))).trans (hv o)
theorem offzn {p lo hi : Nat} {w w' : World} (h : OffF [p] w w') (hp : p < lo ∨ hi ≤ p) (hh : hi ≤ w.heap.size) : Zone lo hi w w' := fun b h1 h2 => h.block b (by omega) (by simp; omega)
def PostCB (p : Nat) (w : World) (e : Ending) (w' : World) : Prop := ∃ r : Bool, e = .returned (.bool r) ∧ CurOk p w' ∧ OffF [p] w w'
def PostCS (p : Nat) (xs : List ByteArray) (w : World) (e : Ending) (w' : World) : Prop := ∃ s, e = .returned (.string s) ∧ s ∈ xs ∧ CurOk p w' ∧ OffF [p] w w'
section
variable (w : World)
theorem l01Once_any (p : Nat) (h : CurOk p w) (n : Int) (h0 : 0 < n) (h1 : n ≤ 256) :
  Calls Tryz.prog 74 #[.pointer (some ⟨p, 0, none⟩), .int .i64 n] w (PostCB p w) := by
 go_enter Tryz.func74, Tryz.ntmps74
 go_wp2_with fail
 refine (l01Below_any _ p h n h0 h1).mono ?_
 rintro e w1 ⟨r, rfl, ⟨hr0, hr1⟩, hc, ho⟩
 clear h
 go_wp2
 go_ret
 exact ⟨_, rfl, hc, ho⟩
theorem l01Pick_any {z : Bool} {lo hi : Nat} (p : Nat) (h : CurOk p w) (v : Value) (xs : List ByteArray) (hx : Rd z lo hi w [v] xs) (hl : 0 < xs.length) (hl2 : xs.length ≤ 256) (hp : p < lo ∨ hi ≤ p) (hh : hi ≤ w.heap.size) :
  Calls Tryz.prog 76 #[.pointer (some ⟨p, 0, none⟩), v] w (PostCS p xs w) := by
 obtain ⟨ao, n, cap, rfl, hn, -⟩ := hx.shape
 subst hn
 go_enter Tryz.func76, Tryz.ntmps76
 go_wp2_with fail
 refine (l01Below_any _ p h xs.length (by omega) (by omega)).mono ?_
 rintro e w1 ⟨r, rfl, ⟨hr0, hr1⟩, hc, ho⟩
 obtain ⟨m, rfl⟩ := Int.eq_ofNat_of_zero_le hr0
 obtain ⟨b, off, s, rfl, hs, c0, -⟩ := (hx.keep (offzn ho hp hh)).str_at (i := m) (by omega)
 have hm : (m : Int) < (xs.length : Int) := by omega
 have HS := Lib.hid (List.mem_of_getElem? hs.out)
 clear h hx hs
 go_wp2
 go_ret
 exact ⟨s, rfl, HS.out, hc, ho⟩
end
end Go.Proofs.YtdpkldapobbnpaaGreatDoor
