/- Contracts of the laws' marks on kin types. -/
import Derived.Test.YtoipdgoejichbaaBase
namespace Go.Proofs.Ytoipdgoejichbaa
set_option linter.unusedVariables false
set_option linter.unusedSimpArgs false
open Go.RowKit

set_option maxHeartbeats 1000000 in
theorem markKinType_any (w : World) (a b : Value) (t : Kin) (fp : List Nat) (h : Rep.rep true w [a, b] t fp) (hn : fp.Nodup) (k : Int) (hk0 : 0 ≤ k) (hk1 : k + 2 * t.2.length ≤ 1000000000) :
    Calls Try.prog 25 #[.agg #[a, b], .int .i64 k] w (PostMark fp w [a, b] ((t.1, marksStp k t.2.length) : Kin) (k + 2 * t.2.length)) := by
  obtain ⟨x, y⟩ := t
  obtain ⟨c1, c2, f1, f2, e, rfl, ⟨rfl, hI, rfl⟩, h2⟩ := h
  simp only [List.cons_append, List.nil_append, List.cons.injEq] at e
  obtain ⟨rfl, rfl⟩ := e
  dsimp only at hk1 h2 hI ⊢
  have HI := Lib.hid hI
  clear hn hI
  go_enter Try.func25, Try.ntmps25
  go_wp2_with fail
  refine (markStepS_any _ _ _ f2 (Rep.keep h2 (fun b hb => Below.heap_alloc _ _ _ (Rep.lt h2 b hb))) _ hk0 (by omega)).mono ?_
  rintro e w1 ⟨rfl, hr1, ho1⟩
  have HR := Lib.hid (show Rep.rep true w1 [.int .i64 x, b] ((x, marksStp k y.length) : Kin) ([] ++ f2) from ⟨[_], [b], [], f2, rfl, rfl, ⟨rfl, HI.out, rfl⟩, hr1⟩)
  have HO := Lib.hid (show OffF ([] ++ f2) w w1 from ((OffF.refl _ _).alloc _).trans ho1)
  clear hr1 ho1 h2
  go_wp2
  go_ret
  exact ⟨rfl, HR.out, HO.out⟩
end Go.Proofs.Ytoipdgoejichbaa
