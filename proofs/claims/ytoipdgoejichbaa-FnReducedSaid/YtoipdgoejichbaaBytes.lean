/- Bytes in memory; what a law draws from its code. -/
import Derived.Test.YtoipdgoejichbaaOpens
import Derived.Test.YtoipdgoejichbaaBase
namespace Go.Proofs.Ytoipdgoejichbaa
set_option linter.unusedVariables false
set_option linter.unusedSimpArgs false
open Go.RowKit Go.ChangeShapes Go.WideShapes

instance : FlatRep UInt8 where
  sz := 1
  rep _ _ cs x fp := cs = [.int .u8 x.toNat] ∧ fp = []
  weak h := h
  flat h := ⟨h.2, fun _ _ => ⟨h.1, rfl⟩⟩
  det h k := h.1.trans k.1.symm
  len h := by rw [h.1]; rfl
  one h := by rw [h.1]; intro c hc; simp at hc; subst hc; rfl
  lt h := by rw [h.2]; intro b hb; cases hb
  keep h _ := h
instance : Inhabited UInt8 := ⟨0⟩

theorem Rd.byte_at {z : Bool} {lo hi : Nat} {w : World} {xs : List UInt8} {ao : Option Addr} {n cap : Nat} (h : Rd z lo hi w [.slice ao n cap] xs) {i : Nat} (hi' : i < n) :
    ∃ (b off : Nat) (x : Int), ao = some ⟨b, off, none⟩ ∧ w.cell? ⟨b, off + i, none⟩ = some (.int .u8 x) ∧ 0 ≤ x ∧ x ≤ 255 ∧ b < w.heap.size ∧ b < hi := by
  obtain ⟨b, off, x, cs, e, hx, ⟨fp, ⟨rfl, _⟩, _⟩, _, h1, h2, h3, hc, hf⟩ := h.at hi'
  have := x.toNat_lt
  exact ⟨b, off, x.toNat, e, by have := hc 0 (.int .u8 x.toNat) rfl; simpa [Rep.sz] using this, by omega, by omega, h3, h2⟩

theorem opens_byte {P : Program} {t : TypeId} (ht : P.underlying t = some (.int .u8)) : Opens P t UInt8 := by
  intro H enc w spare held fuel cs x h
  obtain ⟨n, rfl, _, hw⟩ := DataW.trod_int ht h
  have hn : 0 ≤ n ∧ n ≤ 255 := by simp only [Lit.wf, IntKind.min, IntKind.max, IntKind.signed, IntKind.bits] at hw; simp at hw; omega
  refine ⟨UInt8.ofNat n.toNat, [], ?_, rfl⟩
  have : (UInt8.ofNat n.toNat).toNat = n.toNat := by simp; omega
  rw [this]
  have : ((n.toNat : Nat) : Int) = n := by omega
  rw [this]
theorem opBytes : Opens Try.prog 29 (List UInt8) := opens_slice Try.underlying29 (by kernel_rfl) (by decide) (opens_byte Try.underlying5)

/-- Some number in a range comes back. -/
def PostR (w : World) (lo hi : Int) (e : Ending) (w' : World) : Prop := ∃ r : Int, e = .returned (.int .i64 r) ∧ (lo ≤ r ∧ r ≤ hi) ∧ Below w.heap.size w w'

set_option maxHeartbeats 1000000 in
theorem at_any {z : Bool} {lo hi : Nat} (w : World) (v : Value) (xs : List UInt8) (h : Rd z lo hi w [v] xs) (hl : xs.length ≤ 1048576) (i : Int) (h0 : 0 ≤ i) (h1 : i ≤ 1000000) :
    Calls Try.prog 14 #[v, .int .i64 i] w (PostR w 0 255) := by
  obtain ⟨ao, n, cap, rfl, rfl, hnc, hcm, hnone⟩ := h.shape
  clear hnone
  unfold maxLen at *
  obtain ⟨m, rfl⟩ := Int.eq_ofNat_of_zero_le h0
  by_cases hlt : m < xs.length
  · obtain ⟨b, off, x, rfl, hc, hx1, hx2, _⟩ := h.byte_at hlt
    clear h
    have hI : (m : Int) < (xs.length : Int) := by omega
    go_enter Try.func14, Try.ntmps14
    go_wp2
    go_ret
    exact ⟨_, rfl, ⟨hx1, hx2⟩, bwT⟩
  · clear h
    have hI : ¬ (m : Int) < (xs.length : Int) := by omega
    obtain ⟨L, hL⟩ : ∃ L, L = xs.length := ⟨_, rfl⟩
    rw [← hL] at hl hI hnc ⊢
    clear hL hlt
    have w1 : wrap64 ((m : Int) * 37) = (m : Int) * 37 := IntWalk.wrap64_in _ (by omega)
    have w2 : wrap64 ((L : Int) * 11) = (L : Int) * 11 := IntWalk.wrap64_in _ (by omega)
    have w3 : wrap64 ((m : Int) * 37 + (L : Int) * 11) = (m : Int) * 37 + (L : Int) * 11 := IntWalk.wrap64_in _ (by omega)
    go_enter Try.func14, Try.ntmps14
    go_wp2
    go_ret
    refine ⟨_, rfl, ?_, bwT⟩
    have := Int.tmod_eq_emod_of_nonneg (a := (m : Int) * 37 + (L : Int) * 11) (b := 256) (by omega)
    omega
end Go.Proofs.Ytoipdgoejichbaa
