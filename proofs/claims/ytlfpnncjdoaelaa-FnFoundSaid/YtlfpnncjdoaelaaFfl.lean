/- For the law FnFound: rules left out of valid rules are valid; the contract of NormalForm. -/
import Derived.Test.YtlfpnncjdoaelaaFnfL
import Derived.Test.YtlfpnncjdoaelaaFnrW
namespace Go.Proofs.Ytlfpnncjdoaelaa
set_option linter.unusedVariables false
set_option linter.unusedSimpArgs false
open Go.RowKit

theorem areRules_sub {rs rs' : List Rul} (h : areRules rs = true) (hs : rs'.Sublist rs) : areRules rs' = true := by
  obtain ⟨h1, h2, h3⟩ := areRules_facts h
  unfold areRules
  simp only [Bool.and_eq_true, decide_eq_true_eq, List.all_eq_true]
  exact ⟨Nat.le_trans hs.length_le h1, fun r hr => h2 r (hs.subset hr), (hs.map _).nodup h3⟩
theorem pickR_sub {cat : List Rul} : ∀ {l : List Int} {a : Nat}, AscF a cat.length l → (pickR cat l).Sublist (cat.drop a)
  | [], a, _ => by unfold pickR; simp
  | x :: l, a, h => by
    obtain ⟨k, rfl, h1, h2, h3⟩ := h.uncons
    have ih := pickR_sub h3
    have e : pickR cat ((k : Int) :: l) = cat[k]'h2 :: pickR cat l := by
      unfold pickR
      rw [List.filterMap_cons]
      simp [List.getElem?_eq_getElem h2]
    rw [e]
    have hd : cat.drop k = (cat.drop a).drop (k - a) := by rw [List.drop_drop]; congr 1; omega
    have h4 : (cat.drop k).Sublist (cat.drop a) := by rw [hd]; exact List.drop_sublist _ _
    rw [List.drop_eq_getElem_cons h2] at h4
    exact (ih.cons_cons _).trans h4
theorem pickR_ok {cat : List Rul} {l : List Int} (h : areRules cat = true) (ha : AscF 0 cat.length l) : areRules (pickR cat l) = true := areRules_sub h (by simpa using pickR_sub ha)
theorem AscF.sub {a n : Nat} {l l' : List Int} (h : AscF a n l) (hs : l'.Sublist l) : AscF a n l' := ⟨fun k hk => h.1 k (hs.subset hk), h.2.sublist hs⟩
set_option maxRecDepth 20000 in
set_option maxHeartbeats 4000000 in
theorem normalFormI_k {z z1 : Bool} {lo hi lo1 hi1 : Nat} (w : World) (v a b : Value) (rs : List Rul) (t : Kin) (h : Rd z lo hi w [v] rs) (h' : Rd z1 lo1 hi1 w [a, b] t) (hr : areRules rs = true) (ht : isKin t = true) :
    Calls Try.prog 30 #[v, .agg #[a, b]] w (PostOw2 w (nf rs t)) := by
  obtain ⟨ao, n, cap, rfl, -⟩ := h.shape
  have HZ := Lib.hid h
  have HT := Lib.hid h'
  obtain ⟨rfl, -, hb⟩ := h'.kin
  obtain ⟨sao, sn, scap, rfl, -⟩ := hb.shape
  have H1 := Lib.hid hr.symm
  have H2 := Lib.hid ht.symm
  have HA := Lib.hid (areRules_facts hr).2.1
  have HK := Lib.hid ht
  obtain ⟨X, hX⟩ : ∃ X, X = nf rs t := ⟨_, rfl⟩
  rw [← hX]
  have HX := Lib.hid hX
  clear h h' hr ht hb hX
  go_enter Try.func30, Try.ntmps30
  go_wp2_with fail
  refine (areRulesI_b _ _ rs (HZ.out.below bwT) true H1.out).mono ?_
  rintro e1 w1 ⟨rfl, hbw1⟩
  have hpw1 : Below w.heap.size w w1 := Below.after bwT hbw1 szT
  have sw1 := hpw1.size
  have hBw1 : Below w.heap.size w w1 := hpw1
  have l_t : w.heap.size < w1.heap.size := by have := hbw1.size; simp at this; omega
  have q_t0 : w1.cell? ⟨w.heap.size, 0, none⟩ = some (.int .i64 t.1) := oldc hbw1 ltT (by simp [go_sem])
  have q_t1 : w1.cell? ⟨w.heap.size, 1, none⟩ = some (.slice sao sn scap) := oldc hbw1 ltT (by simp [go_sem])
  have l_o : w.heap.size + 1 < w1.heap.size := by have := hbw1.size; simp at this; omega
  have q_o0 : w1.cell? ⟨w.heap.size + 1, 0, none⟩ = some (.int .i64 0) := oldc hbw1 ltT (by simp [go_sem])
  have q_o1 : w1.cell? ⟨w.heap.size + 1, 1, none⟩ = some (.slice none 0 0) := oldc hbw1 ltT (by simp [go_sem])
  have f_o : ∀ o, w1.frozen? ⟨w.heap.size + 1, o, none⟩ = false := fun o => (hbw1.frozen (p := ⟨w.heap.size + 1, o, none⟩) ltT).trans (by simp [go_sem])
  clear hbw1 hpw1
  go_wp2_with fail
  refine (isTypeI_b _ _ _ t (HT.out.below bwT) true H2.out).mono ?_
  rintro e2 w2 ⟨rfl, hbw2⟩
  have hpw2 : Below w1.heap.size w1 w2 := Below.after bwT hbw2 szT
  have sw2 := hpw2.size
  have hBw2 : Below w.heap.size w w2 := Below.trans hBw1 (Below.mono hpw2 hBw1.size)
  replace q_t0 := oldc hpw2 l_t q_t0
  replace q_t1 := oldc hpw2 l_t q_t1
  replace q_o0 := oldc hpw2 l_o q_o0
  replace q_o1 := oldc hpw2 l_o q_o1
  replace f_o : ∀ o, w2.frozen? ⟨w.heap.size + 1, o, none⟩ = false := fun o => (hpw2.frozen (p := ⟨w.heap.size + 1, o, none⟩) l_o).trans (f_o o)
  replace l_o := Nat.lt_of_lt_of_le l_o sw2
  replace l_t := Nat.lt_of_lt_of_le l_t sw2
  clear hbw2 hpw2
  have hl2 : w.heap.size + 1 < (w2).heap.size := l_o
  go_wp2_with fail
  refine (nfI_any _ _ _ _ rs t (HZ.out.below bwT) (HT.out.below bwT) HA.out HK.out).mono ?_
  rintro e3 w3 ⟨na, nb, rfl, hov, hbw3⟩
  have hpw3 : Below w2.heap.size w2 w3 := Below.after bwT hbw3 szT
  have sw3 := hpw3.size
  have hBw3 : Below w.heap.size w w3 := Below.trans hBw2 (Below.mono hpw3 hBw2.size)
  replace q_t0 := oldc hpw3 l_t q_t0
  replace q_t1 := oldc hpw3 l_t q_t1
  replace q_o0 := oldc hpw3 l_o q_o0
  replace q_o1 := oldc hpw3 l_o q_o1
  replace f_o : ∀ o, w3.frozen? ⟨w.heap.size + 1, o, none⟩ = false := fun o => (hpw3.frozen (p := ⟨w.heap.size + 1, o, none⟩) l_o).trans (f_o o)
  replace l_o := Nat.lt_of_lt_of_le l_o sw3
  replace l_t := Nat.lt_of_lt_of_le l_t sw3
  clear hbw3 hpw3
  rw [← HX.out] at hov
  obtain ⟨rfl, -, hts⟩ := hov.rd.kin
  obtain ⟨nao, nn, ncap, rfl, -⟩ := hts.shape
  have HOV := Lib.hid hov
  clear hov hts HX
  go_wp2
  exact bodyPost_ret (v := .agg #[.int .i64 X.1, .slice nao nn ncap]) (by simp [results, go_sem, *]) rfl ⟨_, _, rfl, (HOV.out.keep zmT).mono (by omega) (by simp), bwT⟩
end Go.Proofs.Ytlfpnncjdoaelaa
