/- Contracts of the reference: EgoOfType, SexOfType; MakeType of eight steps at most. Written by nfo_gen.py. -/
import Derived.Test.YtoipdgoejichbaaDrwT
import Derived.Test.YtoipdgoejichbaaTypS
import Derived.Test.YtoipdgoejichbaaAlwS
namespace Go.Proofs.Ytoipdgoejichbaa
set_option linter.unusedVariables false
set_option linter.unusedSimpArgs false
open Go.RowKit

theorem sexOfS8 {z : Bool} {lo hi : Nat} (w : World) (a b : Value) (t : Kin) (h : Rd z lo hi w [a, b] t) (ht : isKin t = true) (R : Int) (hR : R = sexOf t) : Calls Try.prog 33 #[.agg #[a, b]] w (PostI w R) := by
  obtain ⟨rfl, hI, hb⟩ := h.kin
  obtain ⟨ao, n, cap, rfl, hn, hnc, hcm, hnone⟩ := hb.shape
  have HT := Lib.hid h
  have HK := Lib.hid ht
  have HR := Lib.hid hR
  clear h hb hI hn hnc hcm hnone ht hR
  go_enter Try.func33, Try.ntmps33
  go_wp2_with fail
  refine (isTypeS_b _ _ _ t (HT.out.below bwT) true HK.out.symm).mono ?_
  rintro e1 w1 ⟨rfl, hbw1⟩
  have hpw1 : Below w.heap.size w w1 := Below.after bwT hbw1 szT
  have sw1 := hpw1.size
  have hBw1 : Below w.heap.size w w1 := hpw1
  have l_tt : w.heap.size < w1.heap.size := by have := hbw1.size; simp at this; omega
  have q_tt0 : w1.cell? ⟨w.heap.size, 0, none⟩ = some (.int .i64 t.1) := oldc hbw1 ltT (by simp [go_sem])
  have q_tt1 : w1.cell? ⟨w.heap.size, 1, none⟩ = some (.slice ao n cap) := oldc hbw1 ltT (by simp [go_sem])
  clear hbw1 hpw1
  go_wp2_with fail
  refine (lastS_any _ _ _ t (HT.out.below bwT) HK.out R HR.out).mono ?_
  rintro e2 w2 ⟨rfl, hbw2⟩
  have hpw2 : Below w1.heap.size w1 w2 := Below.after bwT hbw2 szT
  have sw2 := hpw2.size
  have hBw2 : Below w.heap.size w w2 := Below.trans hBw1 (Below.mono hpw2 hBw1.size)
  have q_tt0 := oldc hpw2 l_tt q_tt0
  have q_tt1 := oldc hpw2 l_tt q_tt1
  have l_tt := Nat.lt_of_lt_of_le l_tt sw2
  clear hbw2 hpw2
  go_wp2
  go_ret
  exact ⟨rfl, hBw2⟩
theorem egoOfS8 {z : Bool} {lo hi : Nat} (w : World) (a b : Value) (t : Kin) (h : Rd z lo hi w [a, b] t) (ht : isKin t = true) (R : Int) (hR : R = egoOf t) : Calls Try.prog 32 #[.agg #[a, b]] w (PostI w R) := by
  obtain ⟨rfl, hI, hb⟩ := h.kin
  obtain ⟨ao, n, cap, rfl, hn, hnc, hcm, hnone⟩ := hb.shape
  have HT := Lib.hid h
  have HK := Lib.hid ht
  have HR := Lib.hid hR
  clear h hb hI hn hnc hcm hnone ht hR
  go_enter Try.func32, Try.ntmps32
  go_wp2_with fail
  refine (isTypeS_b _ _ _ t (HT.out.below bwT) true HK.out.symm).mono ?_
  rintro e3 w3 ⟨rfl, hbw3⟩
  have hpw3 : Below w.heap.size w w3 := Below.after bwT hbw3 szT
  have sw3 := hpw3.size
  have hBw3 : Below w.heap.size w w3 := hpw3
  have l_tt : w.heap.size < w3.heap.size := by have := hbw3.size; simp at this; omega
  have q_tt0 : w3.cell? ⟨w.heap.size, 0, none⟩ = some (.int .i64 t.1) := oldc hbw3 ltT (by simp [go_sem])
  have q_tt1 : w3.cell? ⟨w.heap.size, 1, none⟩ = some (.slice ao n cap) := oldc hbw3 ltT (by simp [go_sem])
  clear hbw3 hpw3
  go_wp2_with fail
  refine (egoS_any _ _ _ t (HT.out.below bwT) R HR.out).mono ?_
  rintro e4 w4 ⟨rfl, hbw4⟩
  have hpw4 : Below w3.heap.size w3 w4 := Below.after bwT hbw4 szT
  have sw4 := hpw4.size
  have hBw4 : Below w.heap.size w w4 := Below.trans hBw3 (Below.mono hpw4 hBw3.size)
  have q_tt0 := oldc hpw4 l_tt q_tt0
  have q_tt1 := oldc hpw4 l_tt q_tt1
  have l_tt := Nat.lt_of_lt_of_le l_tt sw4
  clear hbw4 hpw4
  go_wp2
  go_ret
  exact ⟨rfl, hBw4⟩
set_option maxRecDepth 20000 in
set_option maxHeartbeats 4000000 in
theorem makeType8_any {z : Bool} {lo hi : Nat} (w : World) (v : Value) (code : List UInt8) (h : Rd z lo hi w [v] code) (hl : code.length ≤ 1048576) :
    Calls Try.prog 28 #[v, .int .i64 8] w (PostMT 8 w) := by
  go_enter Try.func28, Try.ntmps28
  go_wp2_with fail
  refine (l01New_any _ _ code (h.below bwT) hl).mono ?_
  rintro e w1 ⟨p, rfl, hp, hC, hb1⟩
  have s1 : w.heap.size < w1.heap.size := by have := hb1.size; simp at this; omega
  have hp1 : w.heap.size < p := by simp at hp; omega
  have hB1 : Below w.heap.size w w1 := Below.after bwT hb1 (by simp)
  have r0 : w1.cell? ⟨w.heap.size, 0, none⟩ = some (.int .i64 0) := oldc hb1 (by simp) (by simp [go_sem])
  have r1 : w1.cell? ⟨w.heap.size, 1, none⟩ = some (.slice none 0 0) := oldc hb1 (by simp) (by simp [go_sem])
  have rf : ∀ o, w1.frozen? ⟨w.heap.size, o, none⟩ = false := fun o => (hb1.frozen (p := ⟨w.heap.size, o, none⟩) (by simp)).trans (by simp [go_sem])
  clear h hb1
  go_wp2_with fail
  all_goals
    refine (l3Draw_any _ p hC 8 (by omega)).mono ?_
    rintro e w2 ⟨v2, ⟨e0, l⟩, rfl, hO, hX, -, hF⟩
    have hB2 : Below w.heap.size w w2 := hB1.trans (hF.toBelow (by omega) (fun b hb => by simp at hb; omega))
    have s2 := hF.size
    have r0 := offq hF (by omega) (by omega) r0
    have r1 := offq hF (by omega) (by omega) r1
    have rf := offfr hF (by omega) (by omega) rf
    obtain ⟨_, ao, n, cap, _, rfl⟩ := shapeKin hO.rd
    have HO := Lib.hid hO
    clear hO hF hC
    have ne1 : ¬ w.heap.size = w2.heap.size := by omega
    have ne2 : ¬ w2.heap.size = w.heap.size := by omega
    have sw2 : w.heap.size < w2.heap.size := by omega
    have HS := Lib.hid (show ∀ x, x = e0 ∨ x = 1 ∨ x = 2 → Ow w1.heap.size w2.heap.size w2 [.int .i64 x, .slice ao n cap] ((x, l) : Kin) from fun x hx => by
      obtain ⟨fp, hr, hz, hn⟩ := HO.out
      obtain ⟨v0, ev, hI, hr2⟩ := repKin_inv hr
      simp only [List.cons.injEq, and_true, true_and] at ev
      subst ev
      refine ⟨fp, repKin_mk ?_ hr2, fun b hb => ⟨by have := (hz b hb).1; omega, (hz b hb).2⟩, hn⟩
      have := (isKin_facts hX.out.1).1
      unfold I64; dsimp only at this; omega)
    by_cases he : e0 = 0
    · subst he
      obtain ⟨r, hr⟩ : ∃ r, r = isKin ((1, l) : Kin) := ⟨_, rfl⟩
      have HR := Lib.hid hr
      clear hr
      go_wp2_with fail
      refine (isTypeS_b _ _ _ (1, l) ((HS.out 1 (.inr (.inl rfl))).rd.below bwT) r HR.out).mono ?_
      rintro e w3 ⟨rfl, hb3⟩
      have t0 : w3.cell? ⟨w2.heap.size, 0, none⟩ = some (.int .i64 1) := oldc hb3 (by simp) (by simp [go_sem])
      have t1 : w3.cell? ⟨w2.heap.size, 1, none⟩ = some (.slice ao n cap) := oldc hb3 (by simp) (by simp [go_sem])
      have tf : ∀ o, w3.frozen? ⟨w2.heap.size, o, none⟩ = false := fun o => (hb3.frozen (p := ⟨w2.heap.size, o, none⟩) (by simp)).trans (by simp [go_sem])
      have hb23 : Below w2.heap.size w2 w3 := Below.after bwT hb3 (by simp)
      have r0 := oldc hb23 sw2 r0
      have r1 := oldc hb23 sw2 r1
      have rf : ∀ o, w3.frozen? ⟨w.heap.size, o, none⟩ = false := fun o => (hb23.frozen (p := ⟨w.heap.size, o, none⟩) sw2).trans (rf o)
      have s3 := hb3.size
      have sw3 : w2.heap.size < w3.heap.size := by simp at s3; omega
      have hB3 : Below w.heap.size w w3 := hB2.trans (hb23.mono hB2.size)
      clear hb3
      cases r
      · have HX2 := Lib.hid (show isKin ((2, l) : Kin) = true ∧ l.length ≤ 8 from ⟨kin_ego hX.out.1 HR.out.symm, hX.out.2⟩)
        go_wp2
        refine bodyPost_ret (v := .agg #[.int .i64 2, .slice ao n cap]) (by simp [results, Try.results28, go_sem, *]) rfl ⟨_, (2, l), rfl, ?_, Lib.hid ⟨HX2.out.1, HX2.out.2, .inr rfl⟩, bwT⟩
        exact (((HS.out 2 (.inr (.inr rfl))).below hb23).keep zgT).mono (by omega) (by simp; omega)
      · have HX2 := Lib.hid (show isKin ((1, l) : Kin) = true ∧ l.length ≤ 8 from ⟨HR.out.symm, hX.out.2⟩)
        go_wp2
        refine bodyPost_ret (v := .agg #[.int .i64 1, .slice ao n cap]) (by simp [results, Try.results28, go_sem, *]) rfl ⟨_, (1, l), rfl, ?_, Lib.hid ⟨HX2.out.1, HX2.out.2, .inl rfl⟩, bwT⟩
        exact (((HS.out 1 (.inr (.inl rfl))).below hb23).keep zgT).mono (by omega) (by simp; omega)
    · have he2 : (e0 == 0) = false := by simpa using he
      have HX2 := Lib.hid (show isKin ((e0, l) : Kin) = true ∧ l.length ≤ 8 ∧ (e0 = 1 ∨ e0 = 2) from ⟨hX.out.1, hX.out.2, by have := (isKin_facts hX.out.1).1; dsimp only at this; omega⟩)
      clear he
      go_wp2
      refine bodyPost_ret (v := .agg #[.int .i64 e0, .slice ao n cap]) (by simp [results, Try.results28, go_sem, *]) rfl ⟨_, (e0, l), rfl, ?_, HX2, bwT⟩
      exact ((HS.out e0 (.inl rfl)).keep zgT).mono (by omega) (by simp)
end Go.Proofs.Ytoipdgoejichbaa
