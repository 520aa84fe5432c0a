/- Bytes in memory; what a law draws from its code. -/
import Derived.Test.YtdpkldapobbnpaaGreatDoorOpens
import Derived.Test.YtdpkldapobbnpaaGreatDoorBase
namespace Go.Proofs.YtdpkldapobbnpaaGreatDoor
set_option linter.unusedVariables false
set_option linter.unusedSimpArgs false
open Go.RowKit Go.ChangeShapes Go.WideShapes
instance : FlatRep UInt8 where
 sz := 1
 rep _ _ cs x fp := cs = [.int .u8 x.toNat] ∧ fp = []
 weak h := h
 flat h := ⟨h.2, fun _ _ => ⟨h.1, rfl⟩⟩
 det h k := h.1.trans k.1.symm
 len h := by rw [h.1]; rfl
 one h := by rw [h.1]; intro c hc; simp at hc; subst hc; rfl
 lt h := by rw [h.2]; intro b hb; cases hb
 keep h _ := h
instance : Inhabited UInt8 := ⟨0⟩
theorem Rd.byte_at {z : Bool} {lo hi : Nat} {w : World} {xs : List UInt8} {ao : Option Addr} {n cap : Nat} (h : Rd z lo hi w [.slice ao n cap] xs) {i : Nat} (hi' : i < n) :
  ∃ (b off : Nat) (x : Int), ao = some ⟨b, off, none⟩ ∧ w.cell? ⟨b, off + i, none⟩ = some (.int .u8 x) ∧ 0 ≤ x ∧ x ≤ 255 ∧ b < w.heap.size ∧ b < hi := by
 obtain ⟨b, off, x, cs, e, hx, ⟨fp, ⟨rfl, _⟩, _⟩, _, h1, h2, h3, hc, hf⟩ := h.at hi'
 have := x.toNat_lt
 exact ⟨b, off, x.toNat, e, by have := hc 0 (.int .u8 x.toNat) rfl; simpa [Rep.sz] using this, by omega, by omega, h3, h2⟩
theorem opens_byte {P : Program} {t : TypeId} (ht : P.underlying t = some (.int .u8)) : Opens P t UInt8 := by
 intro H enc w spare held fuel cs x h
 obtain ⟨n, rfl, _, hw⟩ := DataW.trod_int ht h
 have hn : 0 ≤ n ∧ n ≤ 255 := by simp only [Lit.wf, IntKind.min, IntKind.max, IntKind.signed, IntKind.bits] at hw; simp at hw; omega
 refine ⟨UInt8.ofNat n.toNat, [], ?_, rfl⟩
 have : (UInt8.ofNat n.toNat).toNat = n.toNat := by simp; omega
 rw [this]
 have : ((n.toNat : Nat) : Int) = n := by omega
 rw [this]
theorem opBytes : Opens Tryz.prog 31 (List UInt8) := opens_slice Tryz.underlying31 (by kernel_rfl) (by decide) (opens_byte Tryz.underlying5)
def PostR (w : World) (lo hi : Int) (e : Ending) (w' : World) : Prop := ∃ r : Int, e = .returned (.int .i64 r) ∧ (lo ≤ r ∧ r ≤ hi) ∧ Below w.heap.size w w'
end Go.Proofs.YtdpkldapobbnpaaGreatDoor
