/- Contract: steps replaced (impl.replacedAt). Written by repl_gen.py. -/
import Derived.Test.YtdjnogcljmaapaaFitI
import Derived.Test.YtdjnogcljmaapaaPart
namespace Go.Proofs.Ytdjnogcljmaapaa
set_option linter.unusedVariables false
set_option linter.unusedSimpArgs false
open Go.RowKit

set_option maxRecDepth 20000 in
set_option maxHeartbeats 16000000 in
theorem replI_any {z z1 : Bool} {lo hi lo1 hi1 : Nat} (w : World) (u0 u1 u2 u3 u4 a b : Value) (r : Rul) (t : Kin) (h : Rd z lo hi w [u0, u1, u2, u3, u4] r) (h' : Rd z1 lo1 hi1 w [a, b] t) (hr : isRule r = true) (ht : isKin t = true) (i : Nat) (hi0 : i + r.2.2.2.1.length ≤ t.2.length) :
    Calls Try.prog 140 #[.agg #[u0, u1, u2, u3, u4], .agg #[a, b], .int .i64 i] w (PostOw2 w (replT r t i)) := by
  obtain ⟨nm, sx, pl, fr, tw⟩ := r
  obtain ⟨vfr, vtw, e1, gnm, gsx, gpl, hfr, htw⟩ := Rd.dRul h
  simp only [List.cons.injEq, and_true] at e1
  obtain ⟨rfl, rfl, rfl, rfl, rfl⟩ := e1
  obtain ⟨fao, fn, fcap, rfl, hfn, hfc, hfm, -⟩ := hfr.shape
  obtain ⟨tao, tn, tcap, rfl, htn, htc, htm, -⟩ := htw.shape
  subst hfn htn
  have HT := Lib.hid h'
  obtain ⟨rfl, hI, hb⟩ := h'.kin
  obtain ⟨e, ts⟩ := t
  dsimp only at hb hi0 hI
  obtain ⟨sao, sn, scap, rfl, hsn, hsc, hsm, hsnone⟩ := hb.shape
  unfold maxLen at hfm htm hsm
  have hf4 : 1 ≤ fr.length ∧ fr.length ≤ 4 := (isRule_facts hr).2.2.2.1
  have ht4 : tw.length ≤ 4 := (rule_steps hr).2.2
  have hs8 : ts.length ≤ 8 := (isKin_facts ht).2.1
  have hei := egoOf_in ht
  obtain ⟨L, hL⟩ : ∃ L, L = ts.length := ⟨_, rfl⟩
  subst hsn
  rw [← hL] at hs8 hi0 hsc ⊢
  have hb2 := hb
  rw [← hL] at hb2
  obtain ⟨sb, soff, hsao⟩ : ∃ sb soff, sao = some ⟨sb, soff, none⟩ := by
    obtain ⟨bb, oo, _, _, e5, _⟩ := hb2.stp_at (i := 0) (by omega)
    exact ⟨bb, oo, e5⟩
  subst hsao
  have HB := Lib.hid hb2
  have HTK := Lib.hid (hb2.takeS (i := i) (by omega))
  have HW := Lib.hid htw
  have HL := Lib.hid hL
  obtain ⟨j, hj⟩ : ∃ j, j = i + fr.length := ⟨_, rfl⟩
  have HJ := Lib.hid hj
  have hj0 : (i : Int) + (fr.length : Int) = (j : Int) := by omega
  have hjL : j ≤ L := by omega
  have hiL : i < L := by omega
  have hj1 : 1 ≤ j := by omega
  have hijc : i ≤ scap := by omega
  have hjc : j ≤ scap := by omega
  have hlt1 : (ts.take i).length = i := by rw [List.length_take]; omega
  have hlt2 : (ts.drop j).length = L - j := by rw [List.length_drop, hL]
  have HLT1 := Lib.hid hlt1
  have HLT2 := Lib.hid hlt2
  rw [← hL] at HT
  clear h h' hr ht hI hb hb2 hL hfr htw gnm gsx gpl hj hlt1 hlt2 hsnone hi0
  obtain ⟨eg, hlet_eg⟩ : ∃ r, r = egoOf (e, ts) := ⟨_, rfl⟩
  have HEG := Lib.hid hlet_eg
  clear hlet_eg
  have HEI := Lib.hid (show I64 eg by have := HEG.out; unfold I64; omega)
  clear hei
  go_enter Try.func140, Try.ntmps140
  go_wp2_with fail
  refine (egoI_any _ _ _ (e, ts) (HT.out.below (by repeat' (first | (with_reducible exact Below.refl _ _) | (with_reducible assumption) | (with_reducible refine Below.alloc ?_ (by first | omega | (simp; omega) | simp) _) | (with_reducible refine Below.setCell ?_ (by first | omega | (simp; omega) | simp) _) | (with_reducible refine Below.drew ?_) | (with_reducible refine below_drewN ?_ _)))) eg HEG.out).mono ?_
  rintro e1 w1 ⟨rfl, hbw1⟩
  have hpw1 : Below w.heap.size w w1 := Below.after (by repeat' (first | (with_reducible exact Below.refl _ _) | (with_reducible assumption) | (with_reducible refine Below.alloc ?_ (by first | omega | (simp; omega) | simp) _) | (with_reducible refine Below.setCell ?_ (by first | omega | (simp; omega) | simp) _) | (with_reducible refine Below.drew ?_) | (with_reducible refine below_drewN ?_ _))) hbw1 (by first | omega | (simp only [World.size_alloc, World.size_setCell, World.size_drew] at *; omega) | (simp; omega) | simp)
  have sw1 := hpw1.size
  have hBw1 : Below w.heap.size w w1 := hpw1
  have l_r : w.heap.size < w1.heap.size := by have := hbw1.size; simp at this; omega
  have q_r0 : w1.cell? ⟨w.heap.size, 0, none⟩ = some (.string nm) := oldc hbw1 (by first | omega | (simp; omega) | (simp; done)) (by simp [go_sem])
  have q_r1 : w1.cell? ⟨w.heap.size, 1, none⟩ = some (.int .i64 sx) := oldc hbw1 (by first | omega | (simp; omega) | (simp; done)) (by simp [go_sem])
  have q_r2 : w1.cell? ⟨w.heap.size, 2, none⟩ = some (.int .i64 pl) := oldc hbw1 (by first | omega | (simp; omega) | (simp; done)) (by simp [go_sem])
  have q_r3 : w1.cell? ⟨w.heap.size, 3, none⟩ = some (.slice fao fr.length fcap) := oldc hbw1 (by first | omega | (simp; omega) | (simp; done)) (by simp [go_sem])
  have q_r4 : w1.cell? ⟨w.heap.size, 4, none⟩ = some (.slice tao tw.length tcap) := oldc hbw1 (by first | omega | (simp; omega) | (simp; done)) (by simp [go_sem])
  have l_t : w.heap.size + 1 < w1.heap.size := by have := hbw1.size; simp at this; omega
  have q_t0 : w1.cell? ⟨w.heap.size + 1, 0, none⟩ = some (.int .i64 e) := oldc hbw1 (by first | omega | (simp; omega) | (simp; done)) (by simp [go_sem])
  have q_t1 : w1.cell? ⟨w.heap.size + 1, 1, none⟩ = some (.slice (some ⟨sb, soff, none⟩) L scap) := oldc hbw1 (by first | omega | (simp; omega) | (simp; done)) (by simp [go_sem])
  have l_o : w.heap.size + 1 + 1 < w1.heap.size := by have := hbw1.size; simp at this; omega
  have q_o0 : w1.cell? ⟨w.heap.size + 1 + 1, 0, none⟩ = some (.int .i64 0) := oldc hbw1 (by first | omega | (simp; omega) | (simp; done)) (by simp [go_sem])
  have q_o1 : w1.cell? ⟨w.heap.size + 1 + 1, 1, none⟩ = some (.slice none 0 0) := oldc hbw1 (by first | omega | (simp; omega) | (simp; done)) (by simp [go_sem])
  have f_o : ∀ o, w1.frozen? ⟨w.heap.size + 1 + 1, o, none⟩ = false := fun o => (hbw1.frozen (p := ⟨w.heap.size + 1 + 1, o, none⟩) (by first | omega | (simp; omega) | (simp; done))).trans (by simp [go_sem])
  clear hbw1 hpw1
  obtain ⟨W1, hW1⟩ : ∃ W : World, W = w1 := ⟨_, rfl⟩
  subst hW1
  have hBW1 : Below w.heap.size w W1 := hBw1
  obtain ⟨W2, hW2⟩ : ∃ W : World, W = W1.alloc (.cells #[.int .i64 eg, .slice none 0 0] 36) := ⟨_, rfl⟩
  have hB12 : Below W1.heap.size W1 W2 := by subst hW2; exact (by repeat' (first | (with_reducible exact Below.refl _ _) | (with_reducible assumption) | (with_reducible refine Below.alloc ?_ (by first | omega | (simp; omega) | simp) _) | (with_reducible refine Below.setCell ?_ (by first | omega | (simp; omega) | simp) _) | (with_reducible refine Below.drew ?_) | (with_reducible refine below_drewN ?_ _)))
  have x0 : W2.cell? ⟨W1.heap.size, 0, none⟩ = some (.int .i64 eg) := by subst hW2; simp [go_sem]
  have x1 : W2.cell? ⟨W1.heap.size, 1, none⟩ = some (.slice none 0 0) := by subst hW2; simp [go_sem]
  have xf : ∀ o, W2.frozen? ⟨W1.heap.size, o, none⟩ = false := by subst hW2; intro o; simp [go_sem]
  have sz2 : W2.heap.size = W1.heap.size + 1 := by subst hW2; simp
  have lx : W1.heap.size < W2.heap.size := by omega
  go_upto_region 2 with fail
  rw [← hW2]
  clear hW2
  have hBW2 : Below w.heap.size w W2 := hBW1.trans (hB12.mono hBW1.size)
  have p_r3 := oldc hB12 l_r q_r3
  have p_r4 := oldc hB12 l_r q_r4
  have p_t1 := oldc hB12 l_t q_t1
  have p_o0 := oldc hB12 l_o q_o0
  have p_o1 := oldc hB12 l_o q_o1
  have p_f : ∀ o, W2.frozen? ⟨w.heap.size + 1 + 1, o, none⟩ = false := fun o => (hB12.frozen (p := ⟨w.heap.size + 1 + 1, o, none⟩) l_o).trans (f_o o)
  clear q_r0 q_r1 q_r2 q_r3 q_r4 q_t0 q_t1 q_o0 q_o1 f_o
  refine wp_region_held_drew (S := (fun w' => w'.cell? ⟨w.heap.size + 1, 1, none⟩ = some (.slice (some ⟨sb, soff, none⟩) L scap))) (by kernel_rfl) ?_ (fun hHeld => ?_)
  · first | exact trivial | ((try dsimp only); go_keep)
  refine wpAnyH_take (i := 0) (oi := _) (v := ?_) (by simp only [List.getElem?_toArray, List.getElem?_cons_succ, List.getElem?_cons_zero]; rfl) (by kernel_rfl) (by kernel_rfl) (by kernel_rfl) (by exact fun _ _ _ h => h) (Or.inl ⟨by rfl, ?_⟩) (by assumption) ?_
  rotate_left
  · intro w hSw; (try dsimp only at hSw); go_simp <;> with_reducible rfl
  try simp only [Act.put, List.setIfInBounds_toArray, List.set_cons_zero, List.set_cons_succ]
  refine wpAnyH_take (i := 2) (oi := _) (v := ?_) (by simp only [List.getElem?_toArray, List.getElem?_cons_succ, List.getElem?_cons_zero]; rfl) (by kernel_rfl) (by kernel_rfl) (by kernel_rfl) (by exact fun _ _ _ h => h) (Or.inl ⟨by rfl, ?_⟩) (by assumption) ?_
  rotate_left
  · intro w hSw; (try dsimp only at hSw); go_simp <;> with_reducible rfl
  try simp only [Act.put, List.setIfInBounds_toArray, List.set_cons_zero, List.set_cons_succ]
  refine wpAnyH_take (i := 4) (oi := _) (v := ?_) (by simp only [List.getElem?_toArray, List.getElem?_cons_succ, List.getElem?_cons_zero]; rfl) (by kernel_rfl) (by kernel_rfl) (by kernel_rfl) (by exact fun _ _ _ h => h) (Or.inl ⟨by rfl, ?_⟩) (by assumption) ?_
  rotate_left
  · intro w hSw; (try dsimp only at hSw); go_simp <;> with_reducible rfl
  try simp only [Act.put, List.setIfInBounds_toArray, List.set_cons_zero, List.set_cons_succ]
  refine wpAnyH_take (i := 3) (oi := _) (v := ?_) (by simp only [List.getElem?_toArray, List.getElem?_cons_succ, List.getElem?_cons_zero]; rfl) (by kernel_rfl) (by kernel_rfl) (by kernel_rfl) (by exact fun _ _ _ h => h) (Or.inl ⟨by rfl, ?_⟩) (by assumption) ?_
  rotate_left
  · intro w hSw; (try dsimp only at hSw); go_simp <;> with_reducible rfl
  try simp only [Act.put, List.setIfInBounds_toArray, List.set_cons_zero, List.set_cons_succ]
  refine wpAnyH_take (i := 5) (oi := _) (v := ?_) (by simp only [List.getElem?_toArray, List.getElem?_cons_succ, List.getElem?_cons_zero]; rfl) (by kernel_rfl) (by kernel_rfl) (by kernel_rfl) (by exact fun _ _ _ h => h) (Or.inl ⟨by rfl, ?_⟩) (by assumption) ?_
  rotate_left
  · intro w hSw; (try dsimp only at hSw); go_simp <;> with_reducible rfl
  try simp only [Act.put, List.setIfInBounds_toArray, List.set_cons_zero, List.set_cons_succ]
  refine wpAnyH_ready (rs := [1]) (by kernel_rfl) (by simp) ?_
  refine AllReadyH.cons (o := _) (by simp only [List.getElem?_toArray, List.getElem?_cons_succ, List.getElem?_cons_zero]; rfl) (fun K hK => ?_) ?_
  · go_simp
    refine hK.out _ _ ?_ (fun hHeld => ?_)
    · first | exact trivial | ((try dsimp only); (first | (with_reducible assumption) | (go_keep; done) | (simp [go_sem, *]; done) | go_keep))
    clear hK K
    try simp only [Act.put, List.setIfInBounds_toArray, List.set_cons_zero, List.set_cons_succ]
    refine wpAnyH_ready (rs := [6]) (by kernel_rfl) (by simp) ?_
    refine AllReadyH.cons (o := _) (by simp only [List.getElem?_toArray, List.getElem?_cons_succ, List.getElem?_cons_zero]; rfl) (fun K hK => ?_) ?_
    · refine step_spread_flat rfl rfl slStep (by show (0 : Nat) < 2; omega) (GL.start true (W1.heap.size + 1) (W1.heap.size + 1) (W1.heap.size + 1) _ _) (by simp [Act.eval, Act.put]) (by simp [Act.eval, Act.put]) (HTK.out.below (by repeat' (first | (with_reducible exact Below.refl _ _) | (with_reducible assumption) | (with_reducible refine Below.alloc ?_ (by first | omega | (simp; omega) | simp) _) | (with_reducible refine Below.setCell ?_ (by first | omega | (simp; omega) | simp) _) | (with_reducible refine Below.drew ?_) | (with_reducible refine below_drewN ?_ _)))) (by rw [HLT1.out]; unfold maxLen; simp; omega) (by rw [HLT1.out]; simp; omega) (by simp; omega) ?_
      rintro v3 w3 hG3 _ hb3
      obtain ⟨g3, cap3, rfl, -, -⟩ := hG3.len
      have hp3 : Below (W1.heap.size + 1) W2 w3 := Below.trans (show Below (W1.heap.size + 1) W2 _ from (by repeat' (first | (with_reducible exact Below.refl _ _) | (with_reducible assumption) | (with_reducible refine Below.alloc ?_ (by first | omega | (simp; omega) | simp) _) | (with_reducible refine Below.setCell ?_ (by first | omega | (simp; omega) | simp) _) | (with_reducible refine Below.drew ?_) | (with_reducible refine below_drewN ?_ _)))) hb3
      have hS3 := oldc hp3 (by omega) p_t1
      have HG3 := Lib.hid hG3
      have HS3 := Lib.hid hp3
      clear hG3 hb3
      simp only [List.nil_append, HLT1.out] at HG3 ⊢
      have y0 := oldc hp3 (by omega) x0
      have y1 := oldc hp3 (by omega) x1
      have yf : ∀ o, w3.frozen? ⟨W1.heap.size, o, none⟩ = false := fun o => (hp3.frozen (p := ⟨W1.heap.size, o, none⟩) (by show W1.heap.size < _; omega)).trans (xf o)
      have ly : W1.heap.size < w3.heap.size := Nat.lt_of_lt_of_le lx hp3.size
      have k_r3 := oldc hp3 (by omega) p_r3
      have k_r4 := oldc hp3 (by omega) p_r4
      have k_o0 := oldc hp3 (by omega) p_o0
      have k_o1 := oldc hp3 (by omega) p_o1
      have k_f : ∀ o, w3.frozen? ⟨w.heap.size + 1 + 1, o, none⟩ = false := fun o => (hp3.frozen (p := ⟨w.heap.size + 1 + 1, o, none⟩) (by show w.heap.size + 1 + 1 < _; omega)).trans (p_f o)
      have sz3 := hp3.size
      clear hp3
      refine hK.out _ _ ?_ (fun hHeld => ?_)
      · first | exact trivial | ((try dsimp only); (first | (with_reducible assumption) | (go_keep; done) | (simp [go_sem, *]; done) | go_keep))
      clear hK K
      try simp only [Act.put, List.setIfInBounds_toArray, List.set_cons_zero, List.set_cons_succ]
      refine wpAnyH_take (i := 7) (oi := _) (v := ?_) (by simp only [List.getElem?_toArray, List.getElem?_cons_succ, List.getElem?_cons_zero]; rfl) (by kernel_rfl) (by kernel_rfl) (by kernel_rfl) (by exact fun _ _ _ h => h) (Or.inl ⟨by rfl, ?_⟩) (by assumption) ?_
      rotate_left
      · intro w hSw; (try dsimp only at hSw); go_simp <;> with_reducible rfl
      try simp only [Act.put, List.setIfInBounds_toArray, List.set_cons_zero, List.set_cons_succ]
      refine wpAnyH_ready (rs := [8]) (by kernel_rfl) (by simp) ?_
      refine AllReadyH.cons (o := _) (by simp only [List.getElem?_toArray, List.getElem?_cons_succ, List.getElem?_cons_zero]; rfl) (fun K hK => ?_) ?_
      · go_simp
        refine hK.out _ _ ?_ (fun hHeld => ?_)
        · first | exact trivial | ((try dsimp only); (first | (with_reducible assumption) | (go_keep; done) | (simp [go_sem, *]; done) | go_keep))
        clear hK K
        try simp only [Act.put, List.setIfInBounds_toArray, List.set_cons_zero, List.set_cons_succ]
        refine wpAnyH_done (by kernel_rfl) ?_ _
        obtain ⟨WA, hWA⟩ : ∃ W : World, W = w3.setCell ⟨W1.heap.size, 1, none⟩ (.slice g3 i cap3) := ⟨_, rfl⟩
        have hBW3 : Below w.heap.size w w3 := hBW2.trans (HS3.out.mono (by omega))
        have szA : WA.heap.size = w3.heap.size := by subst hWA; simp
        have hBA : Below w.heap.size w WA := by subst hWA; exact Below.setCell hBW3 (by simp; omega) _
        have HGA := Lib.hid (show GL true (W1.heap.size + 1) (W1.heap.size + 1) WA.heap.size WA 99 (.slice g3 i cap3) (ts.take i) by subst hWA; exact (HG3.out.keep (by repeat' (first | (with_reducible exact Zone.refl _ _ _) | (with_reducible refine Zone.setCell ?_ (Or.inl (by first | omega | (simp; omega) | simp)) _) | (with_reducible refine Zone.alloc ?_ (by first | omega | (simp; omega) | simp) _) | (with_reducible refine Zone.drew ?_))) (by repeat' (first | (with_reducible exact Zone.refl _ _ _) | (with_reducible refine Zone.setCell ?_ (Or.inl (by first | omega | (simp; omega) | simp)) _) | (with_reducible refine Zone.alloc ?_ (by first | omega | (simp; omega) | simp) _) | (with_reducible refine Zone.drew ?_)))).top)
        have xA0 : WA.cell? ⟨W1.heap.size, 0, none⟩ = some (.int .i64 eg) := by subst hWA; simp [go_sem, *]
        have xA1 : WA.cell? ⟨W1.heap.size, 1, none⟩ = some (.slice g3 i cap3) := by subst hWA; simp [go_sem, *]
        have xAf : ∀ o, WA.frozen? ⟨W1.heap.size, o, none⟩ = false := by subst hWA; intro o; simp [go_sem, *]
        have v1 : ¬ W1.heap.size = w.heap.size := by omega
        have v2 : ¬ W1.heap.size = w.heap.size + 1 := by omega
        have v3 : ¬ W1.heap.size = w.heap.size + 1 + 1 := by omega
        have v4 : ¬ w.heap.size = W1.heap.size := by omega
        have v5 : ¬ w.heap.size + 1 = W1.heap.size := by omega
        have v6 : ¬ w.heap.size + 1 + 1 = W1.heap.size := by omega
        have kA3 : WA.cell? ⟨w.heap.size, 3, none⟩ = some (.slice fao fr.length fcap) := by subst hWA; simp [go_sem, *]
        have kA4 : WA.cell? ⟨w.heap.size, 4, none⟩ = some (.slice tao tw.length tcap) := by subst hWA; simp [go_sem, *]
        have kAt : WA.cell? ⟨w.heap.size + 1, 1, none⟩ = some (.slice (some ⟨sb, soff, none⟩) L scap) := by subst hWA; simp [go_sem, *]
        have kAo0 : WA.cell? ⟨w.heap.size + 1 + 1, 0, none⟩ = some (.int .i64 0) := by subst hWA; simp [go_sem, *]
        have kAo1 : WA.cell? ⟨w.heap.size + 1 + 1, 1, none⟩ = some (.slice none 0 0) := by subst hWA; simp [go_sem, *]
        have kAf : ∀ o, WA.frozen? ⟨w.heap.size + 1 + 1, o, none⟩ = false := by subst hWA; intro o; simp [go_sem, *]
        clear hHeld hS3 y0 y1 yf k_r3 k_r4 k_o0 k_o1 k_f p_r3 p_r4 p_t1 p_o0 p_o1 p_f x0 x1 xf HG3
        rw [← hWA]
        clear hWA
        have lA : W1.heap.size < WA.heap.size := by omega
        clear ly
        go_wp2_with (at_builtin; refine wpList_spread_flat rfl rfl slStep (by show (0 : Nat) < 2; omega) HGA.out rfl rfl (HW.out.below hBA) (by rw [HLT1.out]; unfold maxLen; omega) (by rw [HLT1.out]; omega) (by omega) ?_)
        intro v5 w5 hG5 _ hb5
        obtain ⟨g5, cap5, rfl, -, -⟩ := hG5.len
        have HG5 := Lib.hid hG5
        clear hG5 HGA
        simp only [List.length_append, HLT1.out] at HG5 ⊢
        have z0 := oldc hb5 (by omega) xA0
        have zf : ∀ o, w5.frozen? ⟨W1.heap.size, o, none⟩ = false := fun o => (hb5.frozen (p := ⟨W1.heap.size, o, none⟩) (by show W1.heap.size < _; omega)).trans (xAf o)
        have z1 := oldc hb5 (by omega) xA1
        have m3 := oldc hb5 (by omega) kA3
        have mt := oldc hb5 (by omega) kAt
        have mo0 := oldc hb5 (by omega) kAo0
        have mo1 := oldc hb5 (by omega) kAo1
        have mf : ∀ o, w5.frozen? ⟨w.heap.size + 1 + 1, o, none⟩ = false := fun o => (hb5.frozen (p := ⟨w.heap.size + 1 + 1, o, none⟩) (by show w.heap.size + 1 + 1 < _; omega)).trans (kAf o)
        have hB5 : Below w.heap.size w w5 := hBA.trans (hb5.mono (by omega))
        have sz5 := hb5.size
        clear hb5 xA0 xA1 xAf kA3 kA4 kAt kAo0 kAo1 kAf hBW3 hBA
        obtain ⟨WB, hWB⟩ : ∃ W : World, W = w5.setCell ⟨W1.heap.size, 1, none⟩ (.slice g5 (i + tw.length) cap5) := ⟨_, rfl⟩
        have szB : WB.heap.size = w5.heap.size := by subst hWB; simp
        have hBB : Below w.heap.size w WB := by subst hWB; exact Below.setCell hB5 (by simp; omega) _
        have HGB := Lib.hid (show GL true (W1.heap.size + 1) (W1.heap.size + 1) WB.heap.size WB 99 (.slice g5 (i + tw.length) cap5) (ts.take i ++ tw) by subst hWB; exact (HG5.out.keep (by repeat' (first | (with_reducible exact Zone.refl _ _ _) | (with_reducible refine Zone.setCell ?_ (Or.inl (by first | omega | (simp; omega) | simp)) _) | (with_reducible refine Zone.alloc ?_ (by first | omega | (simp; omega) | simp) _) | (with_reducible refine Zone.drew ?_))) (by repeat' (first | (with_reducible exact Zone.refl _ _ _) | (with_reducible refine Zone.setCell ?_ (Or.inl (by first | omega | (simp; omega) | simp)) _) | (with_reducible refine Zone.alloc ?_ (by first | omega | (simp; omega) | simp) _) | (with_reducible refine Zone.drew ?_)))).top)
        have l5 : W1.heap.size < w5.heap.size := by omega
        have xB0 : WB.cell? ⟨W1.heap.size, 0, none⟩ = some (.int .i64 eg) := by subst hWB; simp [go_sem, *]
        have xB1 : WB.cell? ⟨W1.heap.size, 1, none⟩ = some (.slice g5 (i + tw.length) cap5) := by subst hWB; simp [go_sem, *]
        have xBf : ∀ o, WB.frozen? ⟨W1.heap.size, o, none⟩ = false := by subst hWB; intro o; simp [go_sem, *]
        have kB3 : WB.cell? ⟨w.heap.size, 3, none⟩ = some (.slice fao fr.length fcap) := by subst hWB; simp [go_sem, *]
        have kBt : WB.cell? ⟨w.heap.size + 1, 1, none⟩ = some (.slice (some ⟨sb, soff, none⟩) L scap) := by subst hWB; simp [go_sem, *]
        have kBo0 : WB.cell? ⟨w.heap.size + 1 + 1, 0, none⟩ = some (.int .i64 0) := by subst hWB; simp [go_sem, *]
        have kBo1 : WB.cell? ⟨w.heap.size + 1 + 1, 1, none⟩ = some (.slice none 0 0) := by subst hWB; simp [go_sem, *]
        have kBf : ∀ o, WB.frozen? ⟨w.heap.size + 1 + 1, o, none⟩ = false := by subst hWB; intro o; simp [go_sem, *]
        have HLB := Lib.hid (show (ts.take i ++ tw).length = i + tw.length by rw [List.length_append, HLT1.out])
        go_upto_region 4 with fail
        rw [← hWB]
        clear hWB z0 z1 zf m3 mt mo0 mo1 mf HG5
        have hwj : IntKind.i64.wrap (j : Int) = (j : Int) := IntWalk.i64_in _ (by omega)
        have hjL2 : (j : Int) ≤ (L : Int) := by omega
        by_cases hcj : scap = j
        · have HD := Lib.hid (show ts.drop j = [] from List.eq_nil_of_length_eq_zero (by rw [HLT2.out]; omega))
          have hLj : L - j = 0 := by omega
          have hsj : scap - j = 0 := by omega
          refine wp_region_held_drew (S := (fun w' => w'.cell? ⟨w.heap.size, 3, none⟩ = some (.slice fao fr.length fcap) ∧ w'.cell? ⟨w.heap.size + 1, 1, none⟩ = some (.slice (some ⟨sb, soff, none⟩) L scap))) (by kernel_rfl) ?_ (fun hHeld => ?_)
          · first | exact trivial | ((try dsimp only); go_keep)
          refine wpAnyH_take (i := 0) (oi := _) (v := ?_) (by simp only [List.getElem?_toArray, List.getElem?_cons_succ, List.getElem?_cons_zero]; rfl) (by kernel_rfl) (by kernel_rfl) (by kernel_rfl) (by exact fun _ _ _ h => h) (Or.inl ⟨by rfl, ?_⟩) (by assumption) ?_
          rotate_left
          · intro w hSw; (try dsimp only at hSw); go_simp <;> with_reducible rfl
          try simp only [Act.put, List.setIfInBounds_toArray, List.set_cons_zero, List.set_cons_succ]
          refine wpAnyH_take (i := 2) (oi := _) (v := ?_) (by simp only [List.getElem?_toArray, List.getElem?_cons_succ, List.getElem?_cons_zero]; rfl) (by kernel_rfl) (by kernel_rfl) (by kernel_rfl) (by exact fun _ _ _ h => h) (Or.inl ⟨by rfl, ?_⟩) (by assumption) ?_
          rotate_left
          · intro w hSw; (try dsimp only at hSw); go_simp <;> with_reducible rfl
          try simp only [Act.put, List.setIfInBounds_toArray, List.set_cons_zero, List.set_cons_succ]
          refine wpAnyH_take (i := 4) (oi := _) (v := ?_) (by simp only [List.getElem?_toArray, List.getElem?_cons_succ, List.getElem?_cons_zero]; rfl) (by kernel_rfl) (by kernel_rfl) (by kernel_rfl) (by exact fun _ _ _ h => h) (Or.inl ⟨by rfl, ?_⟩) (by assumption) ?_
          rotate_left
          · intro w hSw; (try dsimp only at hSw); go_simp <;> with_reducible rfl
          try simp only [Act.put, List.setIfInBounds_toArray, List.set_cons_zero, List.set_cons_succ]
          refine wpAnyH_take (i := 5) (oi := _) (v := ?_) (by simp only [List.getElem?_toArray, List.getElem?_cons_succ, List.getElem?_cons_zero]; rfl) (by kernel_rfl) (by kernel_rfl) (by kernel_rfl) (by exact fun _ _ _ h => h) (Or.inl ⟨by rfl, ?_⟩) (by assumption) ?_
          rotate_left
          · intro w hSw; (try dsimp only at hSw); go_simp <;> with_reducible rfl
          try simp only [Act.put, List.setIfInBounds_toArray, List.set_cons_zero, List.set_cons_succ]
          refine wpAnyH_take (i := 3) (oi := _) (v := ?_) (by simp only [List.getElem?_toArray, List.getElem?_cons_succ, List.getElem?_cons_zero]; rfl) (by kernel_rfl) (by kernel_rfl) (by kernel_rfl) (by exact fun _ _ _ h => h) (Or.inl ⟨by rfl, ?_⟩) (by assumption) ?_
          rotate_left
          · intro w hSw; (try dsimp only at hSw); go_simp <;> with_reducible rfl
          try simp only [Act.put, List.setIfInBounds_toArray, List.set_cons_zero, List.set_cons_succ]
          refine wpAnyH_take (i := 6) (oi := _) (v := ?_) (by simp only [List.getElem?_toArray, List.getElem?_cons_succ, List.getElem?_cons_zero]; rfl) (by kernel_rfl) (by kernel_rfl) (by kernel_rfl) (by exact fun _ _ _ h => h) (Or.inl ⟨by rfl, ?_⟩) (by assumption) ?_
          rotate_left
          · intro w hSw; (try dsimp only at hSw); go_simp <;> with_reducible rfl
          try simp only [Act.put, List.setIfInBounds_toArray, List.set_cons_zero, List.set_cons_succ]
          refine wpAnyH_take (i := 7) (oi := _) (v := ?_) (by simp only [List.getElem?_toArray, List.getElem?_cons_succ, List.getElem?_cons_zero]; rfl) (by kernel_rfl) (by kernel_rfl) (by kernel_rfl) (by exact fun _ _ _ h => h) (Or.inl ⟨by rfl, ?_⟩) (by assumption) ?_
          rotate_left
          · intro w hSw; (try dsimp only at hSw); go_simp <;> with_reducible rfl
          try simp only [Act.put, List.setIfInBounds_toArray, List.set_cons_zero, List.set_cons_succ]
          refine wpAnyH_take (i := 8) (oi := _) (v := ?_) (by simp only [List.getElem?_toArray, List.getElem?_cons_succ, List.getElem?_cons_zero]; rfl) (by kernel_rfl) (by kernel_rfl) (by kernel_rfl) (by exact fun _ _ _ h => h) (Or.inl ⟨by rfl, ?_⟩) (by assumption) ?_
          rotate_left
          · intro w hSw; (try dsimp only at hSw); go_simp <;> with_reducible rfl
          try simp only [Act.put, List.setIfInBounds_toArray, List.set_cons_zero, List.set_cons_succ]
          refine wpAnyH_take (i := 9) (oi := _) (v := ?_) (by simp only [List.getElem?_toArray, List.getElem?_cons_succ, List.getElem?_cons_zero]; rfl) (by kernel_rfl) (by kernel_rfl) (by kernel_rfl) (by exact fun _ _ _ h => h) (Or.inl ⟨by rfl, ?_⟩) (by assumption) ?_
          rotate_left
          · intro w hSw; (try dsimp only at hSw); go_simp <;> with_reducible rfl
          try simp only [Act.put, List.setIfInBounds_toArray, List.set_cons_zero, List.set_cons_succ]
          refine wpAnyH_ready (rs := [1]) (by kernel_rfl) (by simp) ?_
          refine AllReadyH.cons (o := _) (by simp only [List.getElem?_toArray, List.getElem?_cons_succ, List.getElem?_cons_zero]; rfl) (fun K hK => ?_) ?_
          · go_simp
            refine hK.out _ _ ?_ (fun hHeld => ?_)
            · first | exact trivial | ((try dsimp only); (first | (with_reducible assumption) | (go_keep; done) | (simp [go_sem, *]; done) | go_keep))
            clear hK K
            try simp only [Act.put, List.setIfInBounds_toArray, List.set_cons_zero, List.set_cons_succ]
            refine wpAnyH_ready (rs := [10]) (by kernel_rfl) (by simp) ?_
            refine AllReadyH.cons (o := _) (by simp only [List.getElem?_toArray, List.getElem?_cons_succ, List.getElem?_cons_zero]; rfl) (fun K hK => ?_) ?_
            · refine step_spread_flat rfl rfl slStep (by show (0 : Nat) < 2; omega) HGB.out (by simp [Act.eval, Act.put]) (by first | (simp [Act.eval, Act.put]; done) | (simp [Act.eval, Act.put]; rfl)) (Rd.nilS (z := z1) (lo := lo1) (hi := hi1) (w := w) _ rfl |>.below (by repeat' (first | (with_reducible exact Below.refl _ _) | (with_reducible assumption) | (with_reducible refine Below.alloc ?_ (by first | omega | (simp; omega) | simp) _) | (with_reducible refine Below.setCell ?_ (by first | omega | (simp; omega) | simp) _) | (with_reducible refine Below.drew ?_) | (with_reducible refine below_drewN ?_ _)))) (by rw [HLB.out, show ([] : List Stp).length = 0 from rfl]; unfold maxLen; omega) (by rw [HLB.out, show ([] : List Stp).length = 0 from rfl]; omega) (by simp; omega) ?_
              rintro v6 w6 hG6 _ hb6
              obtain ⟨g6, cap6, hv6, -, -⟩ := hG6.len
              obtain ⟨n6, hn6⟩ : ∃ n6, n6 = (ts.take i ++ tw ++ ([] : List Stp)).length := ⟨_, rfl⟩
              rw [← hn6] at hv6
              subst hv6
              clear hn6
              have hp6 : Below (W1.heap.size + 1) WB w6 := Below.trans (show Below (W1.heap.size + 1) WB _ from (by repeat' (first | (with_reducible exact Below.refl _ _) | (with_reducible assumption) | (with_reducible refine Below.alloc ?_ (by first | omega | (simp; omega) | simp) _) | (with_reducible refine Below.setCell ?_ (by first | omega | (simp; omega) | simp) _) | (with_reducible refine Below.drew ?_) | (with_reducible refine below_drewN ?_ _)))) hb6
              have hS6 := And.intro (oldc hp6 (by omega) kB3) (oldc hp6 (by omega) kBt)
              have HG6 := Lib.hid hG6
              have n0 := oldc hp6 (by omega) xB0
              have n1 := oldc hp6 (by omega) xB1
              have nf : ∀ o, w6.frozen? ⟨W1.heap.size, o, none⟩ = false := fun o => (hp6.frozen (p := ⟨W1.heap.size, o, none⟩) (by show W1.heap.size < _; omega)).trans (xBf o)
              have no0 := oldc hp6 (by omega) kBo0
              have no1 := oldc hp6 (by omega) kBo1
              have nof : ∀ o, w6.frozen? ⟨w.heap.size + 1 + 1, o, none⟩ = false := fun o => (hp6.frozen (p := ⟨w.heap.size + 1 + 1, o, none⟩) (by show w.heap.size + 1 + 1 < _; omega)).trans (kBf o)
              have l6 : W1.heap.size < w6.heap.size := Nat.lt_of_lt_of_le (by omega) hp6.size
              have l6o : w.heap.size + 1 + 1 < w6.heap.size := Nat.lt_of_lt_of_le (by omega) hp6.size
              have hB6 : Below w.heap.size w w6 := hBB.trans (hp6.mono (by omega))
              clear hG6 hb6 hp6
              refine hK.out _ _ ?_ (fun hHeld => ?_)
              · first | exact trivial | ((try dsimp only); (first | (with_reducible assumption) | (go_keep; done) | (simp [go_sem, *]; done) | go_keep))
              clear hK K
              try simp only [Act.put, List.setIfInBounds_toArray, List.set_cons_zero, List.set_cons_succ]
              refine wpAnyH_take (i := 11) (oi := _) (v := ?_) (by simp only [List.getElem?_toArray, List.getElem?_cons_succ, List.getElem?_cons_zero]; rfl) (by kernel_rfl) (by kernel_rfl) (by kernel_rfl) (by exact fun _ _ _ h => h) (Or.inl ⟨by rfl, ?_⟩) (by assumption) ?_
              rotate_left
              · intro w hSw; (try dsimp only at hSw); go_simp <;> with_reducible rfl
              try simp only [Act.put, List.setIfInBounds_toArray, List.set_cons_zero, List.set_cons_succ]
              refine wpAnyH_ready (rs := [12]) (by kernel_rfl) (by simp) ?_
              refine AllReadyH.cons (o := _) (by simp only [List.getElem?_toArray, List.getElem?_cons_succ, List.getElem?_cons_zero]; rfl) (fun K hK => ?_) ?_
              · go_simp
                refine hK.out _ _ ?_ (fun hHeld => ?_)
                · first | exact trivial | ((try dsimp only); (first | (with_reducible assumption) | (go_keep; done) | (simp [go_sem, *]; done) | go_keep))
                clear hK K
                try simp only [Act.put, List.setIfInBounds_toArray, List.set_cons_zero, List.set_cons_succ]
                refine wpAnyH_done (by kernel_rfl) ?_ _
                clear hHeld hS6 xB0 xB1 xBf kB3 kBt kBo0 kBo1 kBf HGB
                go_wp2
                have HRES := Lib.hid (show replT ((nm, sx, pl, fr, tw) : Rul) (e, ts) i = (eg, ts.take i ++ tw ++ ([] : List Stp)) by unfold replT; dsimp only; rw [← HEG.out, ← HJ.out, HD.out])
                exact bodyPost_ret (v := .agg #[.int .i64 eg, .slice g6 n6 cap6]) (by simp [results, Try.results140, go_sem, n0, nf, no0, no1, nof, l6, l6o, v1, v2, v3, v4, v5, v6]) rfl ⟨_, _, rfl, by rw [HRES.out]; exact (Ow.kin_mk HEI.out ((HG6.out.ow (l0 := W1.heap.size + 1) (Nat.le_refl _) (Nat.le_refl _)).keep (by repeat' (first | (with_reducible exact Zone.refl _ _ _) | (with_reducible refine Zone.setCell ?_ (by first | (left; omega) | (right; omega) | (left; simp; omega) | (right; simp; omega) | (left; simp; done)) _) | (with_reducible refine Zone.alloc ?_ (by first | omega | (simp; omega) | simp) _) | (with_reducible refine Zone.drew ?_))))).top.mono (by omega) (by simp), (by repeat' (first | (with_reducible exact Below.refl _ _) | (with_reducible assumption) | (with_reducible refine Below.alloc ?_ (by first | omega | (simp; omega) | simp) _) | (with_reducible refine Below.setCell ?_ (by first | omega | (simp; omega) | simp) _) | (with_reducible refine Below.drew ?_) | (with_reducible refine below_drewN ?_ _)))⟩
              exact AllReadyH.nil
            exact AllReadyH.nil
          exact AllReadyH.nil
        · have HDR := Lib.hid (show Rd z1 lo1 hi1 w [.slice (some ⟨sb, soff + j * 2, none⟩) (L - j) (scap - j)] (ts.drop j) from HB.out.dropS (i := j) (by omega))
          refine wp_region_held_drew (S := (fun w' => w'.cell? ⟨w.heap.size, 3, none⟩ = some (.slice fao fr.length fcap) ∧ w'.cell? ⟨w.heap.size + 1, 1, none⟩ = some (.slice (some ⟨sb, soff, none⟩) L scap))) (by kernel_rfl) ?_ (fun hHeld => ?_)
          · first | exact trivial | ((try dsimp only); go_keep)
          refine wpAnyH_take (i := 0) (oi := _) (v := ?_) (by simp only [List.getElem?_toArray, List.getElem?_cons_succ, List.getElem?_cons_zero]; rfl) (by kernel_rfl) (by kernel_rfl) (by kernel_rfl) (by exact fun _ _ _ h => h) (Or.inl ⟨by rfl, ?_⟩) (by assumption) ?_
          rotate_left
          · intro w hSw; (try dsimp only at hSw); go_simp <;> with_reducible rfl
          try simp only [Act.put, List.setIfInBounds_toArray, List.set_cons_zero, List.set_cons_succ]
          refine wpAnyH_take (i := 2) (oi := _) (v := ?_) (by simp only [List.getElem?_toArray, List.getElem?_cons_succ, List.getElem?_cons_zero]; rfl) (by kernel_rfl) (by kernel_rfl) (by kernel_rfl) (by exact fun _ _ _ h => h) (Or.inl ⟨by rfl, ?_⟩) (by assumption) ?_
          rotate_left
          · intro w hSw; (try dsimp only at hSw); go_simp <;> with_reducible rfl
          try simp only [Act.put, List.setIfInBounds_toArray, List.set_cons_zero, List.set_cons_succ]
          refine wpAnyH_take (i := 4) (oi := _) (v := ?_) (by simp only [List.getElem?_toArray, List.getElem?_cons_succ, List.getElem?_cons_zero]; rfl) (by kernel_rfl) (by kernel_rfl) (by kernel_rfl) (by exact fun _ _ _ h => h) (Or.inl ⟨by rfl, ?_⟩) (by assumption) ?_
          rotate_left
          · intro w hSw; (try dsimp only at hSw); go_simp <;> with_reducible rfl
          try simp only [Act.put, List.setIfInBounds_toArray, List.set_cons_zero, List.set_cons_succ]
          refine wpAnyH_take (i := 5) (oi := _) (v := ?_) (by simp only [List.getElem?_toArray, List.getElem?_cons_succ, List.getElem?_cons_zero]; rfl) (by kernel_rfl) (by kernel_rfl) (by kernel_rfl) (by exact fun _ _ _ h => h) (Or.inl ⟨by rfl, ?_⟩) (by assumption) ?_
          rotate_left
          · intro w hSw; (try dsimp only at hSw); go_simp <;> with_reducible rfl
          try simp only [Act.put, List.setIfInBounds_toArray, List.set_cons_zero, List.set_cons_succ]
          refine wpAnyH_take (i := 3) (oi := _) (v := ?_) (by simp only [List.getElem?_toArray, List.getElem?_cons_succ, List.getElem?_cons_zero]; rfl) (by kernel_rfl) (by kernel_rfl) (by kernel_rfl) (by exact fun _ _ _ h => h) (Or.inl ⟨by rfl, ?_⟩) (by assumption) ?_
          rotate_left
          · intro w hSw; (try dsimp only at hSw); go_simp <;> with_reducible rfl
          try simp only [Act.put, List.setIfInBounds_toArray, List.set_cons_zero, List.set_cons_succ]
          refine wpAnyH_take (i := 6) (oi := _) (v := ?_) (by simp only [List.getElem?_toArray, List.getElem?_cons_succ, List.getElem?_cons_zero]; rfl) (by kernel_rfl) (by kernel_rfl) (by kernel_rfl) (by exact fun _ _ _ h => h) (Or.inl ⟨by rfl, ?_⟩) (by assumption) ?_
          rotate_left
          · intro w hSw; (try dsimp only at hSw); go_simp <;> with_reducible rfl
          try simp only [Act.put, List.setIfInBounds_toArray, List.set_cons_zero, List.set_cons_succ]
          refine wpAnyH_take (i := 7) (oi := _) (v := ?_) (by simp only [List.getElem?_toArray, List.getElem?_cons_succ, List.getElem?_cons_zero]; rfl) (by kernel_rfl) (by kernel_rfl) (by kernel_rfl) (by exact fun _ _ _ h => h) (Or.inl ⟨by rfl, ?_⟩) (by assumption) ?_
          rotate_left
          · intro w hSw; (try dsimp only at hSw); go_simp <;> with_reducible rfl
          try simp only [Act.put, List.setIfInBounds_toArray, List.set_cons_zero, List.set_cons_succ]
          refine wpAnyH_take (i := 8) (oi := _) (v := ?_) (by simp only [List.getElem?_toArray, List.getElem?_cons_succ, List.getElem?_cons_zero]; rfl) (by kernel_rfl) (by kernel_rfl) (by kernel_rfl) (by exact fun _ _ _ h => h) (Or.inl ⟨by rfl, ?_⟩) (by assumption) ?_
          rotate_left
          · intro w hSw; (try dsimp only at hSw); go_simp <;> with_reducible rfl
          try simp only [Act.put, List.setIfInBounds_toArray, List.set_cons_zero, List.set_cons_succ]
          refine wpAnyH_take (i := 9) (oi := _) (v := ?_) (by simp only [List.getElem?_toArray, List.getElem?_cons_succ, List.getElem?_cons_zero]; rfl) (by kernel_rfl) (by kernel_rfl) (by kernel_rfl) (by exact fun _ _ _ h => h) (Or.inl ⟨by rfl, ?_⟩) (by assumption) ?_
          rotate_left
          · intro w hSw; (try dsimp only at hSw); go_simp <;> with_reducible rfl
          try simp only [Act.put, List.setIfInBounds_toArray, List.set_cons_zero, List.set_cons_succ]
          refine wpAnyH_ready (rs := [1]) (by kernel_rfl) (by simp) ?_
          refine AllReadyH.cons (o := _) (by simp only [List.getElem?_toArray, List.getElem?_cons_succ, List.getElem?_cons_zero]; rfl) (fun K hK => ?_) ?_
          · go_simp
            refine hK.out _ _ ?_ (fun hHeld => ?_)
            · first | exact trivial | ((try dsimp only); (first | (with_reducible assumption) | (go_keep; done) | (simp [go_sem, *]; done) | go_keep))
            clear hK K
            try simp only [Act.put, List.setIfInBounds_toArray, List.set_cons_zero, List.set_cons_succ]
            refine wpAnyH_ready (rs := [10]) (by kernel_rfl) (by simp) ?_
            refine AllReadyH.cons (o := _) (by simp only [List.getElem?_toArray, List.getElem?_cons_succ, List.getElem?_cons_zero]; rfl) (fun K hK => ?_) ?_
            · refine step_spread_flat rfl rfl slStep (by show (0 : Nat) < 2; omega) HGB.out (by simp [Act.eval, Act.put]) (by first | (simp [Act.eval, Act.put]; done) | (simp [Act.eval, Act.put]; rfl)) (HDR.out.below (by repeat' (first | (with_reducible exact Below.refl _ _) | (with_reducible assumption) | (with_reducible refine Below.alloc ?_ (by first | omega | (simp; omega) | simp) _) | (with_reducible refine Below.setCell ?_ (by first | omega | (simp; omega) | simp) _) | (with_reducible refine Below.drew ?_) | (with_reducible refine below_drewN ?_ _)))) (by rw [HLB.out, HLT2.out]; unfold maxLen; omega) (by rw [HLB.out, HLT2.out]; omega) (by simp; omega) ?_
              rintro v6 w6 hG6 _ hb6
              obtain ⟨g6, cap6, hv6, -, -⟩ := hG6.len
              obtain ⟨n6, hn6⟩ : ∃ n6, n6 = (ts.take i ++ tw ++ ts.drop j).length := ⟨_, rfl⟩
              rw [← hn6] at hv6
              subst hv6
              clear hn6
              have hp6 : Below (W1.heap.size + 1) WB w6 := Below.trans (show Below (W1.heap.size + 1) WB _ from (by repeat' (first | (with_reducible exact Below.refl _ _) | (with_reducible assumption) | (with_reducible refine Below.alloc ?_ (by first | omega | (simp; omega) | simp) _) | (with_reducible refine Below.setCell ?_ (by first | omega | (simp; omega) | simp) _) | (with_reducible refine Below.drew ?_) | (with_reducible refine below_drewN ?_ _)))) hb6
              have hS6 := And.intro (oldc hp6 (by omega) kB3) (oldc hp6 (by omega) kBt)
              have HG6 := Lib.hid hG6
              have n0 := oldc hp6 (by omega) xB0
              have n1 := oldc hp6 (by omega) xB1
              have nf : ∀ o, w6.frozen? ⟨W1.heap.size, o, none⟩ = false := fun o => (hp6.frozen (p := ⟨W1.heap.size, o, none⟩) (by show W1.heap.size < _; omega)).trans (xBf o)
              have no0 := oldc hp6 (by omega) kBo0
              have no1 := oldc hp6 (by omega) kBo1
              have nof : ∀ o, w6.frozen? ⟨w.heap.size + 1 + 1, o, none⟩ = false := fun o => (hp6.frozen (p := ⟨w.heap.size + 1 + 1, o, none⟩) (by show w.heap.size + 1 + 1 < _; omega)).trans (kBf o)
              have l6 : W1.heap.size < w6.heap.size := Nat.lt_of_lt_of_le (by omega) hp6.size
              have l6o : w.heap.size + 1 + 1 < w6.heap.size := Nat.lt_of_lt_of_le (by omega) hp6.size
              have hB6 : Below w.heap.size w w6 := hBB.trans (hp6.mono (by omega))
              clear hG6 hb6 hp6
              refine hK.out _ _ ?_ (fun hHeld => ?_)
              · first | exact trivial | ((try dsimp only); (first | (with_reducible assumption) | (go_keep; done) | (simp [go_sem, *]; done) | go_keep))
              clear hK K
              try simp only [Act.put, List.setIfInBounds_toArray, List.set_cons_zero, List.set_cons_succ]
              refine wpAnyH_take (i := 11) (oi := _) (v := ?_) (by simp only [List.getElem?_toArray, List.getElem?_cons_succ, List.getElem?_cons_zero]; rfl) (by kernel_rfl) (by kernel_rfl) (by kernel_rfl) (by exact fun _ _ _ h => h) (Or.inl ⟨by rfl, ?_⟩) (by assumption) ?_
              rotate_left
              · intro w hSw; (try dsimp only at hSw); go_simp <;> with_reducible rfl
              try simp only [Act.put, List.setIfInBounds_toArray, List.set_cons_zero, List.set_cons_succ]
              refine wpAnyH_ready (rs := [12]) (by kernel_rfl) (by simp) ?_
              refine AllReadyH.cons (o := _) (by simp only [List.getElem?_toArray, List.getElem?_cons_succ, List.getElem?_cons_zero]; rfl) (fun K hK => ?_) ?_
              · go_simp
                refine hK.out _ _ ?_ (fun hHeld => ?_)
                · first | exact trivial | ((try dsimp only); (first | (with_reducible assumption) | (go_keep; done) | (simp [go_sem, *]; done) | go_keep))
                clear hK K
                try simp only [Act.put, List.setIfInBounds_toArray, List.set_cons_zero, List.set_cons_succ]
                refine wpAnyH_done (by kernel_rfl) ?_ _
                clear hHeld hS6 xB0 xB1 xBf kB3 kBt kBo0 kBo1 kBf HGB
                go_wp2
                have HRES := Lib.hid (show replT ((nm, sx, pl, fr, tw) : Rul) (e, ts) i = (eg, ts.take i ++ tw ++ ts.drop j) by unfold replT; dsimp only; rw [← HEG.out, ← HJ.out])
                exact bodyPost_ret (v := .agg #[.int .i64 eg, .slice g6 n6 cap6]) (by simp [results, Try.results140, go_sem, n0, nf, no0, no1, nof, l6, l6o, v1, v2, v3, v4, v5, v6]) rfl ⟨_, _, rfl, by rw [HRES.out]; exact (Ow.kin_mk HEI.out ((HG6.out.ow (l0 := W1.heap.size + 1) (Nat.le_refl _) (Nat.le_refl _)).keep (by repeat' (first | (with_reducible exact Zone.refl _ _ _) | (with_reducible refine Zone.setCell ?_ (by first | (left; omega) | (right; omega) | (left; simp; omega) | (right; simp; omega) | (left; simp; done)) _) | (with_reducible refine Zone.alloc ?_ (by first | omega | (simp; omega) | simp) _) | (with_reducible refine Zone.drew ?_))))).top.mono (by omega) (by simp), (by repeat' (first | (with_reducible exact Below.refl _ _) | (with_reducible assumption) | (with_reducible refine Below.alloc ?_ (by first | omega | (simp; omega) | simp) _) | (with_reducible refine Below.setCell ?_ (by first | omega | (simp; omega) | simp) _) | (with_reducible refine Below.drew ?_) | (with_reducible refine below_drewN ?_ _)))⟩
              exact AllReadyH.nil
            exact AllReadyH.nil
          exact AllReadyH.nil
      exact AllReadyH.nil
    exact AllReadyH.nil
  exact AllReadyH.nil
end Go.Proofs.Ytdjnogcljmaapaa
