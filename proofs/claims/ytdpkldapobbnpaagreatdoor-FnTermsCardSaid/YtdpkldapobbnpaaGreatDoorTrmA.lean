/- Texts laid one behind the other (merge.py): Part, RepI, RewI, NfI, AreI, RepS, RewS, NfS, AreS. -/
import Derived.Test.YtdpkldapobbnpaaGreatDoorBase
import Derived.Test.YtdpkldapobbnpaaGreatDoorFitI
import Derived.Test.YtdpkldapobbnpaaGreatDoorRuI
import Derived.Test.YtdpkldapobbnpaaGreatDoorSSet
import Derived.Test.YtdpkldapobbnpaaGreatDoorFitS
import Derived.Test.YtdpkldapobbnpaaGreatDoorRuS
namespace Go.Proofs.YtdpkldapobbnpaaGreatDoor
set_option linter.unusedVariables false
set_option linter.unusedSimpArgs false
open Go.RowKit
section
variable {α : Type} [Rep α] {z : Bool} {lo hi : Nat} {w : World}
theorem Rd.takeS {ao : Option Addr} {n cap : Nat} {xs : List α} (h : Rd z lo hi w [.slice ao n cap] xs) {i : Nat} (hi' : i ≤ n) : Rd z lo hi w [.slice ao i cap] (xs.take i) := by
 obtain ⟨fp, ⟨v1, hv1, ao', n', cap', rfl, e1, e2, e3, e4, hr⟩, hz⟩ := h
 simp at hv1; obtain ⟨rfl, rfl, rfl⟩ := hv1
 rcases Nat.eq_zero_or_pos i with h0 | h0
 ·subst h0
  exact ⟨[], ⟨_, rfl, ao, 0, cap, rfl, by simp, Nat.zero_le _, e3, e4, .inl ⟨rfl, rfl⟩⟩, fun b hb => by cases hb⟩
 ·rcases hr with ⟨h1, _⟩ | ⟨b, off, css, fps, rfl, hb, rfl, hzip, hc, hf⟩
  ·omega
  ·refine ⟨b :: (fps.take i).flatten, ⟨_, rfl, _, i, cap, rfl, by rw [List.length_take]; omega, by omega, e3, e4, .inr ⟨b, off, css.take i, fps.take i, rfl, hb, rfl, hzip.take i, fun j c hj => hc j c ?_, hf⟩⟩, fun k hk => hz k ?_⟩
   ·have hl := (List.getElem?_eq_some_iff.1 hj).1
    rw [← List.take_append_drop i css, List.flatten_append, List.getElem?_append_left hl]; exact hj
   ·rcases List.mem_cons.1 hk with rfl | hk
    ·simp
    ·refine List.mem_cons_of_mem _ ?_
     rw [← List.take_append_drop i fps, List.flatten_append]
     exact List.mem_append_left _ hk
theorem Rd.dropS {b off n cap : Nat} {xs : List α} (h : Rd z lo hi w [.slice (some ⟨b, off, none⟩) n cap] xs) {i : Nat} (hi' : i ≤ n) : Rd z lo hi w [.slice (some ⟨b, off + i * Rep.sz α, none⟩) (n - i) (cap - i)] (xs.drop i) := by
 obtain ⟨fp, ⟨v1, hv1, ao', n', cap', rfl, e1, e2, e3, e4, hr⟩, hz⟩ := h
 simp at hv1; obtain ⟨rfl, rfl, rfl⟩ := hv1
 rcases Nat.eq_zero_or_pos (n - i) with h0 | h0
 ·rw [h0]
  exact ⟨[], ⟨_, rfl, _, 0, cap - i, rfl, by rw [List.length_drop]; omega, Nat.zero_le _, by omega, (fun h => by cases h), .inl ⟨rfl, rfl⟩⟩, fun b hb => by cases hb⟩
 ·rcases hr with ⟨h1, _⟩ | ⟨b', off', css, fps, hb', hb, rfl, hzip, hc, hf⟩
  ·omega
  ·simp only [Option.some.injEq, Addr.mk.injEq, and_true] at hb'
   obtain ⟨rfl, rfl⟩ := hb'
   have hlt : (css.take i).flatten.length = i * Rep.sz α := by
    rw [length_flat (s := Rep.sz α) (fun d hd => hzip.sizes d (List.mem_of_mem_take hd)), List.length_take, hzip.lens.1]
    congr 1; omega
   refine ⟨b :: (fps.drop i).flatten, ⟨_, rfl, _, n - i, cap - i, rfl, by rw [List.length_drop]; omega, by omega, by omega, (fun h => by cases h), .inr ⟨b, off + i * Rep.sz α, css.drop i, fps.drop i, rfl, hb, rfl, hzip.drop i, fun j c hj => ?_, hf⟩⟩, fun k hk => hz k ?_⟩
   ·rw [Nat.add_assoc]
    refine hc _ c ?_
    rw [← List.take_append_drop i css, List.flatten_append, List.getElem?_append_right (by omega), hlt, Nat.add_sub_cancel_left]; exact hj
   ·rcases List.mem_cons.1 hk with rfl | hk
    ·simp
    ·refine List.mem_cons_of_mem _ ?_
     rw [← List.take_append_drop i fps, List.flatten_append]
     exact List.mem_append_right _ hk
theorem Rd.nilS (ao : Option Addr) (h : z = z) : Rd z lo hi w [.slice (ao) 0 0] ([] : List α) :=
 ⟨[], ⟨_, rfl, ao, 0, 0, rfl, rfl, Nat.le_refl _, by simp [maxLen], (fun _ => rfl), .inl ⟨rfl, rfl⟩⟩, fun b hb => by cases hb⟩
end
set_option maxRecDepth 20000 in
set_option maxHeartbeats 16000000 in
theorem replI_any {z z1 : Bool} {lo hi lo1 hi1 : Nat} (w : World) (u0 u1 u2 u3 u4 a b : Value) (r : Rul) (t : Kin) (h : Rd z lo hi w [u0, u1, u2, u3, u4] r) (h' : Rd z1 lo1 hi1 w [a, b] t) (hr : isRule r = true) (ht : isKin t = true) (i : Nat) (hi0 : i + r.2.2.2.1.length ≤ t.2.length) :
  Calls Tryz.prog 115 #[.agg #[u0, u1, u2, u3, u4], .agg #[a, b], .int .i64 i] w (PostOw2 w (replT r t i)) := by
 obtain ⟨nm, sx, pl, fr, tw⟩ := r
 obtain ⟨vfr, vtw, e1, gnm, gsx, gpl, hfr, htw⟩ := Rd.dRul h
 simp only [List.cons.injEq, and_true] at e1
 obtain ⟨rfl, rfl, rfl, rfl, rfl⟩ := e1
 obtain ⟨fao, fn, fcap, rfl, hfn, hfc, hfm, -⟩ := hfr.shape
 obtain ⟨tao, tn, tcap, rfl, htn, htc, htm, -⟩ := htw.shape
 subst hfn htn
 have HT := Lib.hid h'
 obtain ⟨rfl, hI, hb⟩ := h'.kin
 obtain ⟨e, ts⟩ := t
 dsimp only at hb hi0 hI
 obtain ⟨sao, sn, scap, rfl, hsn, hsc, hsm, hsnone⟩ := hb.shape
 unfold maxLen at hfm htm hsm
 have hf4 : 1 ≤ fr.length ∧ fr.length ≤ 4 := (isRule_facts hr).2.2.2.1
 have ht4 : tw.length ≤ 4 := (rule_steps hr).2.2
 have hs8 : ts.length ≤ 8 := (isKin_facts ht).2.1
 have hei := egoOf_in ht
 obtain ⟨L, hL⟩ : ∃ L, L = ts.length := ⟨_, rfl⟩
 subst hsn
 rw [← hL] at hs8 hi0 hsc ⊢
 have hb2 := hb
 rw [← hL] at hb2
 obtain ⟨sb, soff, hsao⟩ : ∃ sb soff, sao = some ⟨sb, soff, none⟩ := by
  obtain ⟨bb, oo, _, _, e5, _⟩ := hb2.stp_at (i := 0) (by omega)
  exact ⟨bb, oo, e5⟩
 subst hsao
 have HB := Lib.hid hb2
 have HTK := Lib.hid (hb2.takeS (i := i) (by omega))
 have HW := Lib.hid htw
 have HL := Lib.hid hL
 obtain ⟨j, hj⟩ : ∃ j, j = i + fr.length := ⟨_, rfl⟩
 have HJ := Lib.hid hj
 have hj0 : (i : Int) + (fr.length : Int) = (j : Int) := by omega
 have hjL : j ≤ L := by omega
 have hiL : i < L := by omega
 have hj1 : 1 ≤ j := by omega
 have hijc : i ≤ scap := by omega
 have hjc : j ≤ scap := by omega
 have hlt1 : (ts.take i).length = i := by rw [List.length_take]; omega
 have hlt2 : (ts.drop j).length = L - j := by rw [List.length_drop, hL]
 have HLT1 := Lib.hid hlt1
 have HLT2 := Lib.hid hlt2
 rw [← hL] at HT
 clear h h' hr ht hI hb hb2 hL hfr htw gnm gsx gpl hj hlt1 hlt2 hsnone hi0
 obtain ⟨eg, hlet_eg⟩ : ∃ r, r = egoOf (e, ts) := ⟨_, rfl⟩
 have HEG := Lib.hid hlet_eg
 clear hlet_eg
 have HEI := Lib.hid (show I64 eg by have := HEG.out; unfold I64; omega)
 clear hei
 go_enter Tryz.func115, Tryz.ntmps115
 go_wp2_with fail
 refine (egoI_any _ _ _ (e, ts) (HT.out.below bwT) eg HEG.out).mono ?_
 rintro e1 w1 ⟨rfl, hbw1⟩
 have hpw1 : Below w.heap.size w w1 := Below.after bwT hbw1 szT
 have sw1 := hpw1.size
 have hBw1 : Below w.heap.size w w1 := hpw1
 have l_r : w.heap.size < w1.heap.size := by have := hbw1.size; simp at this; omega
 have q_r0 : w1.cell? ⟨w.heap.size, 0, none⟩ = some (.string nm) := oldc hbw1 ltT (by simp [go_sem])
 have q_r1 : w1.cell? ⟨w.heap.size, 1, none⟩ = some (.int .i64 sx) := oldc hbw1 ltT (by simp [go_sem])
 have q_r2 : w1.cell? ⟨w.heap.size, 2, none⟩ = some (.int .i64 pl) := oldc hbw1 ltT (by simp [go_sem])
 have q_r3 : w1.cell? ⟨w.heap.size, 3, none⟩ = some (.slice fao fr.length fcap) := oldc hbw1 ltT (by simp [go_sem])
 have q_r4 : w1.cell? ⟨w.heap.size, 4, none⟩ = some (.slice tao tw.length tcap) := oldc hbw1 ltT (by simp [go_sem])
 have l_t : w.heap.size + 1 < w1.heap.size := by have := hbw1.size; simp at this; omega
 have q_t0 : w1.cell? ⟨w.heap.size + 1, 0, none⟩ = some (.int .i64 e) := oldc hbw1 ltT (by simp [go_sem])
 have q_t1 : w1.cell? ⟨w.heap.size + 1, 1, none⟩ = some (.slice (some ⟨sb, soff, none⟩) L scap) := oldc hbw1 ltT (by simp [go_sem])
 have l_o : w.heap.size + 1 + 1 < w1.heap.size := by have := hbw1.size; simp at this; omega
 have q_o0 : w1.cell? ⟨w.heap.size + 1 + 1, 0, none⟩ = some (.int .i64 0) := oldc hbw1 ltT (by simp [go_sem])
 have q_o1 : w1.cell? ⟨w.heap.size + 1 + 1, 1, none⟩ = some (.slice none 0 0) := oldc hbw1 ltT (by simp [go_sem])
 have f_o : ∀ o, w1.frozen? ⟨w.heap.size + 1 + 1, o, none⟩ = false := fun o => (hbw1.frozen (p := ⟨w.heap.size + 1 + 1, o, none⟩) ltT).trans (by simp [go_sem])
 clear hbw1 hpw1
 obtain ⟨W1, hW1⟩ : ∃ W : World, W = w1 := ⟨_, rfl⟩
 subst hW1
 have hBW1 : Below w.heap.size w W1 := hBw1
 obtain ⟨W2, hW2⟩ : ∃ W : World, W = W1.alloc (.cells #[.int .i64 eg, .slice none 0 0] 36) := ⟨_, rfl⟩
 have hB12 : Below W1.heap.size W1 W2 := by subst hW2; exact bwT
 have x0 : W2.cell? ⟨W1.heap.size, 0, none⟩ = some (.int .i64 eg) := by subst hW2; simp [go_sem]
 have x1 : W2.cell? ⟨W1.heap.size, 1, none⟩ = some (.slice none 0 0) := by subst hW2; simp [go_sem]
 have xf : ∀ o, W2.frozen? ⟨W1.heap.size, o, none⟩ = false := by subst hW2; intro o; simp [go_sem]
 have sz2 : W2.heap.size = W1.heap.size + 1 := by subst hW2; simp
 have lx : W1.heap.size < W2.heap.size := by omega
 go_upto_region 2 with fail
 rw [← hW2]
 clear hW2
 have hBW2 : Below w.heap.size w W2 := hBW1.trans (hB12.mono hBW1.size)
 have p_r3 := oldc hB12 l_r q_r3
 have p_r4 := oldc hB12 l_r q_r4
 have p_t1 := oldc hB12 l_t q_t1
 have p_o0 := oldc hB12 l_o q_o0
 have p_o1 := oldc hB12 l_o q_o1
 have p_f : ∀ o, W2.frozen? ⟨w.heap.size + 1 + 1, o, none⟩ = false := fun o => (hB12.frozen (p := ⟨w.heap.size + 1 + 1, o, none⟩) l_o).trans (f_o o)
 clear q_r0 q_r1 q_r2 q_r3 q_r4 q_t0 q_t1 q_o0 q_o1 f_o
 refine wp_region_held_drew (S := (fun w' => w'.cell? ⟨w.heap.size + 1, 1, none⟩ = some (.slice (some ⟨sb, soff, none⟩) L scap))) (by kernel_rfl) ?_ (fun hHeld => ?_)
 ·first | exact trivial | ((try dsimp only); go_keep)
 refine tkA 0 ?_
 try simp only [Act.put, cA, cB, cC]
 refine tkA 2 ?_
 try simp only [Act.put, cA, cB, cC]
 refine tkA 4 ?_
 try simp only [Act.put, cA, cB, cC]
 refine tkA 3 ?_
 try simp only [Act.put, cA, cB, cC]
 refine tkA 5 ?_
 try simp only [Act.put, cA, cB, cC]
 refine wpAnyH_ready (rs := [1]) (by kernel_rfl) (by simp) ?_
 refine rdR (fun K hK => ?_) ?_
 ·go_simp
  refine hK.out _ _ ?_ (fun hHeld => ?_)
  ·exact kpT
  clear hK K
  try simp only [Act.put, cA, cB, cC]
  refine wpAnyH_ready (rs := [6]) (by kernel_rfl) (by simp) ?_
  refine rdR (fun K hK => ?_) ?_
  ·refine step_spread_flat rfl rfl slStep (by show (0 : Nat) < 2; omega) (GL.start true (W1.heap.size + 1) (W1.heap.size + 1) (W1.heap.size + 1) _ _) (by simp [Act.eval, Act.put]) (by simp [Act.eval, Act.put]) (HTK.out.below bwT) (by rw [HLT1.out]; unfold maxLen; simp; omega) (by rw [HLT1.out]; simp; omega) (by simp; omega) ?_
   rintro v3 w3 hG3 _ hb3
   obtain ⟨g3, cap3, rfl, -, -⟩ := hG3.len
   have hp3 : Below (W1.heap.size + 1) W2 w3 := Below.trans (show Below (W1.heap.size + 1) W2 _ from bwT) hb3
   have hS3 := oldc hp3 (by omega) p_t1
   have HG3 := Lib.hid hG3
   have HS3 := Lib.hid hp3
   clear hG3 hb3
   simp only [List.nil_append, HLT1.out] at HG3 ⊢
   have y0 := oldc hp3 (by omega) x0
   have y1 := oldc hp3 (by omega) x1
   have yf : ∀ o, w3.frozen? ⟨W1.heap.size, o, none⟩ = false := fun o => (hp3.frozen (p := ⟨W1.heap.size, o, none⟩) (by show W1.heap.size < _; omega)).trans (xf o)
   have ly : W1.heap.size < w3.heap.size := Nat.lt_of_lt_of_le lx hp3.size
   have k_r3 := oldc hp3 (by omega) p_r3
   have k_r4 := oldc hp3 (by omega) p_r4
   have k_o0 := oldc hp3 (by omega) p_o0
   have k_o1 := oldc hp3 (by omega) p_o1
   have k_f : ∀ o, w3.frozen? ⟨w.heap.size + 1 + 1, o, none⟩ = false := fun o => (hp3.frozen (p := ⟨w.heap.size + 1 + 1, o, none⟩) (by show w.heap.size + 1 + 1 < _; omega)).trans (p_f o)
   have sz3 := hp3.size
   clear hp3
   refine hK.out _ _ ?_ (fun hHeld => ?_)
   ·exact kpT
   clear hK K
   try simp only [Act.put, cA, cB, cC]
   refine tkA 7 ?_
   try simp only [Act.put, cA, cB, cC]
   refine wpAnyH_ready (rs := [8]) (by kernel_rfl) (by simp) ?_
   refine rdR (fun K hK => ?_) ?_
   ·go_simp
    refine hK.out _ _ ?_ (fun hHeld => ?_)
    ·exact kpT
    clear hK K
    try simp only [Act.put, cA, cB, cC]
    refine wpAnyH_done (by kernel_rfl) ?_ _
    obtain ⟨WA, hWA⟩ : ∃ W : World, W = w3.setCell ⟨W1.heap.size, 1, none⟩ (.slice g3 i cap3) := ⟨_, rfl⟩
    have hBW3 : Below w.heap.size w w3 := hBW2.trans (HS3.out.mono (by omega))
    have szA : WA.heap.size = w3.heap.size := by subst hWA; simp
    have hBA : Below w.heap.size w WA := by subst hWA; exact Below.setCell hBW3 (by simp; omega) _
    have HGA := Lib.hid (show GL true (W1.heap.size + 1) (W1.heap.size + 1) WA.heap.size WA 106 (.slice g3 i cap3) (ts.take i) by subst hWA; exact (HG3.out.keep znT znT).top)
    have xA0 : WA.cell? ⟨W1.heap.size, 0, none⟩ = some (.int .i64 eg) := by subst hWA; simp [go_sem, *]
    have xA1 : WA.cell? ⟨W1.heap.size, 1, none⟩ = some (.slice g3 i cap3) := by subst hWA; simp [go_sem, *]
    have xAf : ∀ o, WA.frozen? ⟨W1.heap.size, o, none⟩ = false := by subst hWA; intro o; simp [go_sem, *]
    have v1 : ¬ W1.heap.size = w.heap.size := by omega
    have v2 : ¬ W1.heap.size = w.heap.size + 1 := by omega
    have v3 : ¬ W1.heap.size = w.heap.size + 1 + 1 := by omega
    have v4 : ¬ w.heap.size = W1.heap.size := by omega
    have v5 : ¬ w.heap.size + 1 = W1.heap.size := by omega
    have v6 : ¬ w.heap.size + 1 + 1 = W1.heap.size := by omega
    have kA3 : WA.cell? ⟨w.heap.size, 3, none⟩ = some (.slice fao fr.length fcap) := by subst hWA; simp [go_sem, *]
    have kA4 : WA.cell? ⟨w.heap.size, 4, none⟩ = some (.slice tao tw.length tcap) := by subst hWA; simp [go_sem, *]
    have kAt : WA.cell? ⟨w.heap.size + 1, 1, none⟩ = some (.slice (some ⟨sb, soff, none⟩) L scap) := by subst hWA; simp [go_sem, *]
    have kAo0 : WA.cell? ⟨w.heap.size + 1 + 1, 0, none⟩ = some (.int .i64 0) := by subst hWA; simp [go_sem, *]
    have kAo1 : WA.cell? ⟨w.heap.size + 1 + 1, 1, none⟩ = some (.slice none 0 0) := by subst hWA; simp [go_sem, *]
    have kAf : ∀ o, WA.frozen? ⟨w.heap.size + 1 + 1, o, none⟩ = false := by subst hWA; intro o; simp [go_sem, *]
    clear hHeld hS3 y0 y1 yf k_r3 k_r4 k_o0 k_o1 k_f p_r3 p_r4 p_t1 p_o0 p_o1 p_f x0 x1 xf HG3
    rw [← hWA]
    clear hWA
    have lA : W1.heap.size < WA.heap.size := by omega
    clear ly
    go_wp2_with (at_builtin; refine wpList_spread_flat rfl rfl slStep (by show (0 : Nat) < 2; omega) HGA.out rfl rfl (HW.out.below hBA) (by rw [HLT1.out]; unfold maxLen; omega) (by rw [HLT1.out]; omega) (by omega) ?_)
    intro v5 w5 hG5 _ hb5
    obtain ⟨g5, cap5, rfl, -, -⟩ := hG5.len
    have HG5 := Lib.hid hG5
    clear hG5 HGA
    simp only [List.length_append, HLT1.out] at HG5 ⊢
    have z0 := oldc hb5 (by omega) xA0
    have zf : ∀ o, w5.frozen? ⟨W1.heap.size, o, none⟩ = false := fun o => (hb5.frozen (p := ⟨W1.heap.size, o, none⟩) (by show W1.heap.size < _; omega)).trans (xAf o)
    have z1 := oldc hb5 (by omega) xA1
    have m3 := oldc hb5 (by omega) kA3
    have mt := oldc hb5 (by omega) kAt
    have mo0 := oldc hb5 (by omega) kAo0
    have mo1 := oldc hb5 (by omega) kAo1
    have mf : ∀ o, w5.frozen? ⟨w.heap.size + 1 + 1, o, none⟩ = false := fun o => (hb5.frozen (p := ⟨w.heap.size + 1 + 1, o, none⟩) (by show w.heap.size + 1 + 1 < _; omega)).trans (kAf o)
    have hB5 : Below w.heap.size w w5 := hBA.trans (hb5.mono (by omega))
    have sz5 := hb5.size
    clear hb5 xA0 xA1 xAf kA3 kA4 kAt kAo0 kAo1 kAf hBW3 hBA
    obtain ⟨WB, hWB⟩ : ∃ W : World, W = w5.setCell ⟨W1.heap.size, 1, none⟩ (.slice g5 (i + tw.length) cap5) := ⟨_, rfl⟩
    have szB : WB.heap.size = w5.heap.size := by subst hWB; simp
    have hBB : Below w.heap.size w WB := by subst hWB; exact Below.setCell hB5 (by simp; omega) _
    have HGB := Lib.hid (show GL true (W1.heap.size + 1) (W1.heap.size + 1) WB.heap.size WB 106 (.slice g5 (i + tw.length) cap5) (ts.take i ++ tw) by subst hWB; exact (HG5.out.keep znT znT).top)
    have l5 : W1.heap.size < w5.heap.size := by omega
    have xB0 : WB.cell? ⟨W1.heap.size, 0, none⟩ = some (.int .i64 eg) := by subst hWB; simp [go_sem, *]
    have xB1 : WB.cell? ⟨W1.heap.size, 1, none⟩ = some (.slice g5 (i + tw.length) cap5) := by subst hWB; simp [go_sem, *]
    have xBf : ∀ o, WB.frozen? ⟨W1.heap.size, o, none⟩ = false := by subst hWB; intro o; simp [go_sem, *]
    have kB3 : WB.cell? ⟨w.heap.size, 3, none⟩ = some (.slice fao fr.length fcap) := by subst hWB; simp [go_sem, *]
    have kBt : WB.cell? ⟨w.heap.size + 1, 1, none⟩ = some (.slice (some ⟨sb, soff, none⟩) L scap) := by subst hWB; simp [go_sem, *]
    have kBo0 : WB.cell? ⟨w.heap.size + 1 + 1, 0, none⟩ = some (.int .i64 0) := by subst hWB; simp [go_sem, *]
    have kBo1 : WB.cell? ⟨w.heap.size + 1 + 1, 1, none⟩ = some (.slice none 0 0) := by subst hWB; simp [go_sem, *]
    have kBf : ∀ o, WB.frozen? ⟨w.heap.size + 1 + 1, o, none⟩ = false := by subst hWB; intro o; simp [go_sem, *]
    have HLB := Lib.hid (show (ts.take i ++ tw).length = i + tw.length by rw [List.length_append, HLT1.out])
    go_upto_region 4 with fail
    rw [← hWB]
    clear hWB z0 z1 zf m3 mt mo0 mo1 mf HG5
    have hwj : IntKind.i64.wrap (j : Int) = (j : Int) := IntWalk.i64_in _ (by omega)
    have hjL2 : (j : Int) ≤ (L : Int) := by omega
    by_cases hcj : scap = j
    ·have HD := Lib.hid (show ts.drop j = [] from List.eq_nil_of_length_eq_zero (by rw [HLT2.out]; omega))
     have hLj : L - j = 0 := by omega
     have hsj : scap - j = 0 := by omega
     refine wp_region_held_drew (S := (fun w' => w'.cell? ⟨w.heap.size, 3, none⟩ = some (.slice fao fr.length fcap) ∧ w'.cell? ⟨w.heap.size + 1, 1, none⟩ = some (.slice (some ⟨sb, soff, none⟩) L scap))) (by kernel_rfl) ?_ (fun hHeld => ?_)
     ·first | exact trivial | ((try dsimp only); go_keep)
     refine tkA 0 ?_
     try simp only [Act.put, cA, cB, cC]
     refine tkA 2 ?_
     try simp only [Act.put, cA, cB, cC]
     refine tkA 4 ?_
     try simp only [Act.put, cA, cB, cC]
     refine tkA 5 ?_
     try simp only [Act.put, cA, cB, cC]
     refine tkA 3 ?_
     try simp only [Act.put, cA, cB, cC]
     refine tkA 6 ?_
     try simp only [Act.put, cA, cB, cC]
     refine tkA 7 ?_
     try simp only [Act.put, cA, cB, cC]
     refine tkA 8 ?_
     try simp only [Act.put, cA, cB, cC]
     refine tkA 9 ?_
     try simp only [Act.put, cA, cB, cC]
     refine wpAnyH_ready (rs := [1]) (by kernel_rfl) (by simp) ?_
     refine rdR (fun K hK => ?_) ?_
     ·go_simp
      refine hK.out _ _ ?_ (fun hHeld => ?_)
      ·exact kpT
      clear hK K
      try simp only [Act.put, cA, cB, cC]
      refine wpAnyH_ready (rs := [10]) (by kernel_rfl) (by simp) ?_
      refine rdR (fun K hK => ?_) ?_
      ·refine step_spread_flat rfl rfl slStep (by show (0 : Nat) < 2; omega) HGB.out (by simp [Act.eval, Act.put]) (by first | (simp [Act.eval, Act.put]; done) | (simp [Act.eval, Act.put]; rfl)) (Rd.nilS (z := z1) (lo := lo1) (hi := hi1) (w := w) _ rfl |>.below bwT) (by rw [HLB.out, show ([] : List Stp).length = 0 from rfl]; unfold maxLen; omega) (by rw [HLB.out, show ([] : List Stp).length = 0 from rfl]; omega) (by simp; omega) ?_
       rintro v6 w6 hG6 _ hb6
       obtain ⟨g6, cap6, hv6, -, -⟩ := hG6.len
       obtain ⟨n6, hn6⟩ : ∃ n6, n6 = (ts.take i ++ tw ++ ([] : List Stp)).length := ⟨_, rfl⟩
       rw [← hn6] at hv6
       subst hv6
       clear hn6
       have hp6 : Below (W1.heap.size + 1) WB w6 := Below.trans (show Below (W1.heap.size + 1) WB _ from bwT) hb6
       have hS6 := And.intro (oldc hp6 (by omega) kB3) (oldc hp6 (by omega) kBt)
       have HG6 := Lib.hid hG6
       have n0 := oldc hp6 (by omega) xB0
       have n1 := oldc hp6 (by omega) xB1
       have nf : ∀ o, w6.frozen? ⟨W1.heap.size, o, none⟩ = false := fun o => (hp6.frozen (p := ⟨W1.heap.size, o, none⟩) (by show W1.heap.size < _; omega)).trans (xBf o)
       have no0 := oldc hp6 (by omega) kBo0
       have no1 := oldc hp6 (by omega) kBo1
       have nof : ∀ o, w6.frozen? ⟨w.heap.size + 1 + 1, o, none⟩ = false := fun o => (hp6.frozen (p := ⟨w.heap.size + 1 + 1, o, none⟩) (by show w.heap.size + 1 + 1 < _; omega)).trans (kBf o)
       have l6 : W1.heap.size < w6.heap.size := Nat.lt_of_lt_of_le (by omega) hp6.size
       have l6o : w.heap.size + 1 + 1 < w6.heap.size := Nat.lt_of_lt_of_le (by omega) hp6.size
       have hB6 : Below w.heap.size w w6 := hBB.trans (hp6.mono (by omega))
       clear hG6 hb6 hp6
       refine hK.out _ _ ?_ (fun hHeld => ?_)
       ·exact kpT
       clear hK K
       try simp only [Act.put, cA, cB, cC]
       refine tkA 11 ?_
       try simp only [Act.put, cA, cB, cC]
       refine wpAnyH_ready (rs := [12]) (by kernel_rfl) (by simp) ?_
       refine rdR (fun K hK => ?_) ?_
       ·go_simp
        refine hK.out _ _ ?_ (fun hHeld => ?_)
        ·exact kpT
        clear hK K
        try simp only [Act.put, cA, cB, cC]
        refine wpAnyH_done (by kernel_rfl) ?_ _
        clear hHeld hS6 xB0 xB1 xBf kB3 kBt kBo0 kBo1 kBf HGB
        go_wp2
        have HRES := Lib.hid (show replT ((nm, sx, pl, fr, tw) : Rul) (e, ts) i = (eg, ts.take i ++ tw ++ ([] : List Stp)) by unfold replT; dsimp only; rw [← HEG.out, ← HJ.out, HD.out])
        exact bodyPost_ret (v := .agg #[.int .i64 eg, .slice g6 n6 cap6]) (by simp [results, Tryz.results115, go_sem, n0, nf, no0, no1, nof, l6, l6o, v1, v2, v3, v4, v5, v6]) rfl ⟨_, _, rfl, by rw [HRES.out]; exact (Ow.kin_mk HEI.out ((HG6.out.ow (l0 := W1.heap.size + 1) (Nat.le_refl _) (Nat.le_refl _)).keep zmT)).top.mono (by omega) (by simp), bwT⟩
       exact AllReadyH.nil
      exact AllReadyH.nil
     exact AllReadyH.nil
    ·have HDR := Lib.hid (show Rd z1 lo1 hi1 w [.slice (some ⟨sb, soff + j * 2, none⟩) (L - j) (scap - j)] (ts.drop j) from HB.out.dropS (i := j) (by omega))
     refine wp_region_held_drew (S := (fun w' => w'.cell? ⟨w.heap.size, 3, none⟩ = some (.slice fao fr.length fcap) ∧ w'.cell? ⟨w.heap.size + 1, 1, none⟩ = some (.slice (some ⟨sb, soff, none⟩) L scap))) (by kernel_rfl) ?_ (fun hHeld => ?_)
     ·first | exact trivial | ((try dsimp only); go_keep)
     refine tkA 0 ?_
     try simp only [Act.put, cA, cB, cC]
     refine tkA 2 ?_
     try simp only [Act.put, cA, cB, cC]
     refine tkA 4 ?_
     try simp only [Act.put, cA, cB, cC]
     refine tkA 5 ?_
     try simp only [Act.put, cA, cB, cC]
     refine tkA 3 ?_
     try simp only [Act.put, cA, cB, cC]
     refine tkA 6 ?_
     try simp only [Act.put, cA, cB, cC]
     refine tkA 7 ?_
     try simp only [Act.put, cA, cB, cC]
     refine tkA 8 ?_
     try simp only [Act.put, cA, cB, cC]
     refine tkA 9 ?_
     try simp only [Act.put, cA, cB, cC]
     refine wpAnyH_ready (rs := [1]) (by kernel_rfl) (by simp) ?_
     refine rdR (fun K hK => ?_) ?_
     ·go_simp
      refine hK.out _ _ ?_ (fun hHeld => ?_)
      ·exact kpT
      clear hK K
      try simp only [Act.put, cA, cB, cC]
      refine wpAnyH_ready (rs := [10]) (by kernel_rfl) (by simp) ?_
      refine rdR (fun K hK => ?_) ?_
      ·refine step_spread_flat rfl rfl slStep (by show (0 : Nat) < 2; omega) HGB.out (by simp [Act.eval, Act.put]) (by first | (simp [Act.eval, Act.put]; done) | (simp [Act.eval, Act.put]; rfl)) (HDR.out.below bwT) (by rw [HLB.out, HLT2.out]; unfold maxLen; omega) (by rw [HLB.out, HLT2.out]; omega) (by simp; omega) ?_
       rintro v6 w6 hG6 _ hb6
       obtain ⟨g6, cap6, hv6, -, -⟩ := hG6.len
       obtain ⟨n6, hn6⟩ : ∃ n6, n6 = (ts.take i ++ tw ++ ts.drop j).length := ⟨_, rfl⟩
       rw [← hn6] at hv6
       subst hv6
       clear hn6
       have hp6 : Below (W1.heap.size + 1) WB w6 := Below.trans (show Below (W1.heap.size + 1) WB _ from bwT) hb6
       have hS6 := And.intro (oldc hp6 (by omega) kB3) (oldc hp6 (by omega) kBt)
       have HG6 := Lib.hid hG6
       have n0 := oldc hp6 (by omega) xB0
       have n1 := oldc hp6 (by omega) xB1
       have nf : ∀ o, w6.frozen? ⟨W1.heap.size, o, none⟩ = false := fun o => (hp6.frozen (p := ⟨W1.heap.size, o, none⟩) (by show W1.heap.size < _; omega)).trans (xBf o)
       have no0 := oldc hp6 (by omega) kBo0
       have no1 := oldc hp6 (by omega) kBo1
       have nof : ∀ o, w6.frozen? ⟨w.heap.size + 1 + 1, o, none⟩ = false := fun o => (hp6.frozen (p := ⟨w.heap.size + 1 + 1, o, none⟩) (by show w.heap.size + 1 + 1 < _; omega)).trans (kBf o)
       have l6 : W1.heap.size < w6.heap.size := Nat.lt_of_lt_of_le (by omega) hp6.size
       have l6o : w.heap.size + 1 + 1 < w6.heap.size := Nat.lt_of_lt_of_le (by omega) hp6.size
       have hB6 : Below w.heap.size w w6 := hBB.trans (hp6.mono (by omega))
       clear hG6 hb6 hp6
       refine hK.out _ _ ?_ (fun hHeld => ?_)
       ·exact kpT
       clear hK K
       try simp only [Act.put, cA, cB, cC]
       refine tkA 11 ?_
       try simp only [Act.put, cA, cB, cC]
       refine wpAnyH_ready (rs := [12]) (by kernel_rfl) (by simp) ?_
       refine rdR (fun K hK => ?_) ?_
       ·go_simp
        refine hK.out _ _ ?_ (fun hHeld => ?_)
        ·exact kpT
        clear hK K
        try simp only [Act.put, cA, cB, cC]
        refine wpAnyH_done (by kernel_rfl) ?_ _
        clear hHeld hS6 xB0 xB1 xBf kB3 kBt kBo0 kBo1 kBf HGB
        go_wp2
        have HRES := Lib.hid (show replT ((nm, sx, pl, fr, tw) : Rul) (e, ts) i = (eg, ts.take i ++ tw ++ ts.drop j) by unfold replT; dsimp only; rw [← HEG.out, ← HJ.out])
        exact bodyPost_ret (v := .agg #[.int .i64 eg, .slice g6 n6 cap6]) (by simp [results, Tryz.results115, go_sem, n0, nf, no0, no1, nof, l6, l6o, v1, v2, v3, v4, v5, v6]) rfl ⟨_, _, rfl, by rw [HRES.out]; exact (Ow.kin_mk HEI.out ((HG6.out.ow (l0 := W1.heap.size + 1) (Nat.le_refl _) (Nat.le_refl _)).keep zmT)).top.mono (by omega) (by simp), bwT⟩
       exact AllReadyH.nil
      exact AllReadyH.nil
     exact AllReadyH.nil
   exact AllReadyH.nil
  exact AllReadyH.nil
 exact AllReadyH.nil
theorem findSome_range {β : Type} {f : Nat → Option β} {n i : Nat} {b : β} (hi : i < n) (hf : f i = some b) (hn : ∀ j, j < i → f j = none) : (List.range n).findSome? f = some b := by
 rw [List.findSome?_eq_some_iff]
 refine ⟨(List.range n).take i, i, (List.range n).drop (i + 1), ?_, hf, fun x hx => ?_⟩
 ·have h : i < (List.range n).length := by simpa using hi
  have e := List.drop_eq_getElem_cons h
  rw [List.getElem_range] at e
  rw [← e, List.take_append_drop]
 ·rw [List.take_range] at hx
  have := List.mem_range.1 hx
  exact hn x (by omega)
theorem findSome_range_none {β : Type} {f : Nat → Option β} {n : Nat} (hn : ∀ j, j < n → f j = none) : (List.range n).findSome? f = none := by
 rw [List.findSome?_eq_none_iff]
 intro x hx
 exact hn x (List.mem_range.1 hx)
theorem ruleAt_found {rs : List Rul} {t : Kin} {i k : Nat} {r : Rul} (h : rs[k]? = some r) (hf : fitsB r t i = true) (hn : ∀ j s, j < k → rs[j]? = some s → fitsB s t i = false) : ruleAt rs t i = some k := by
 unfold ruleAt
 rw [List.findIdx?_eq_some_iff_getElem]
 obtain ⟨hl, e⟩ := List.getElem?_eq_some_iff.1 h
 refine ⟨hl, by rw [e]; exact hf, fun j hj => ?_⟩
 have := hn j rs[j] hj (List.getElem?_eq_getElem (by omega))
 rw [this]; decide
theorem ruleAt_none {rs : List Rul} {t : Kin} {i : Nat} (hn : ∀ j s, j < rs.length → rs[j]? = some s → fitsB s t i = false) : ruleAt rs t i = none := by
 unfold ruleAt
 rw [List.findIdx?_eq_none_iff]
 intro r hr
 obtain ⟨j, hj⟩ := List.getElem?_of_mem hr
 exact hn j r (List.getElem?_eq_some_iff.1 hj).1 hj
theorem rewr_found {rs : List Rul} {t : Kin} {i k : Nat} {r : Rul} (hi : i < t.2.length) (hn : ∀ j, j < i → ruleAt rs t j = none) (h : rs[k]? = some r) (ha : ruleAt rs t i = some k) : rewr rs t = some (replT r t i, k, i) := by
 have hp : placeOf rs t = some (k, i) := by
  unfold placeOf
  exact findSome_range hi (by rw [ha]; rfl) (fun j hj => by rw [hn j hj]; rfl)
 unfold rewr
 rw [hp]
 show (rs[k]?).map _ = _
 rw [h]; rfl
theorem rewr_none_of {rs : List Rul} {t : Kin} (hn : ∀ j, j < t.2.length → ruleAt rs t j = none) : rewr rs t = none := by
 have hp : placeOf rs t = none := by
  unfold placeOf
  exact findSome_range_none (fun j hj => by rw [hn j hj]; rfl)
 unfold rewr
 rw [hp]; rfl
def PostRw (w : World) (o : Option (Kin × Nat × Nat)) (e : Ending) (w' : World) : Prop :=
 Below w.heap.size w w' ∧ match o with
  | some (u, k, i) => ∃ a b, e = .returned (.tuple #[.agg #[a, b], .int .i64 k, .int .i64 i, .bool true]) ∧ Ow w.heap.size w'.heap.size w' [a, b] u
  | none => e = .returned (.tuple #[.agg #[.int .i64 0, .slice none 0 0], .int .i64 0, .int .i64 0, .bool false])
set_option maxRecDepth 20000 in
set_option maxHeartbeats 16000000 in
theorem rewrI_any {z z1 : Bool} {lo hi lo1 hi1 : Nat} (w : World) (v a b : Value) (rs : List Rul) (t : Kin) (h : Rd z lo hi w [v] rs) (h' : Rd z1 lo1 hi1 w [a, b] t) (hr : allRules rs) (ht : isKin t = true) (o : Option (Kin × Nat × Nat)) (ho : o = rewr rs t) :
  Calls Tryz.prog 93 #[v, .agg #[a, b]] w (PostRw w o) := by
 obtain ⟨ao, n, cap, rfl, rfl, hnc, hcm, -⟩ := h.shape
 have HT := Lib.hid h'
 obtain ⟨rfl, hI, hb⟩ := h'.kin
 obtain ⟨e, ts⟩ := t
 dsimp only at hb hI
 obtain ⟨sao, sn, scap, rfl, hsn, hsc, hsm, -⟩ := hb.shape
 unfold maxLen at hcm hsm
 have HK := Lib.hid ht
 have HRS := Lib.hid hr
 have hs8 : ts.length ≤ 8 := (isKin_facts ht).2.1
 obtain ⟨L, hL⟩ : ∃ L, L = ts.length := ⟨_, rfl⟩
 subst hsn
 rw [← hL] at hs8 hsc HT ⊢
 have HL := Lib.hid hL
 have HO := Lib.hid ho
 have HZ := Lib.hid h
 clear h' hr ht hI hb hL ho
 obtain ⟨W0, hW0⟩ : ∃ W : World, W = (w.alloc (.cells #[.int .i64 e, .slice sao L scap] 36)).alloc (.cells #[.int .i64 0, .slice none 0 0] 36) := ⟨_, rfl⟩
 have hB0 : Below w.heap.size w W0 := by subst hW0; exact bwT
 have qt0 : W0.cell? ⟨w.heap.size, 0, none⟩ = some (.int .i64 e) := by subst hW0; simp [go_sem]
 have qt1 : W0.cell? ⟨w.heap.size, 1, none⟩ = some (.slice sao L scap) := by subst hW0; simp [go_sem]
 have qo0 : W0.cell? ⟨w.heap.size + 1, 0, none⟩ = some (.int .i64 0) := by subst hW0; simp [go_sem]
 have qo1 : W0.cell? ⟨w.heap.size + 1, 1, none⟩ = some (.slice none 0 0) := by subst hW0; simp [go_sem]
 have qf : ∀ o, W0.frozen? ⟨w.heap.size + 1, o, none⟩ = false := by subst hW0; intro o; simp [go_sem]
 have sz0 : W0.heap.size = w.heap.size + 1 + 1 := by subst hW0; simp
 go_enter Tryz.func93, Tryz.ntmps93
 go_wp2
 rw [← hW0]
 clear hW0
 go_loopw [5, 6, 7, 8, 9, 10, 14] (fun _ _ _ _ _ _ s14 wr => ∃ i : Nat, i ≤ L ∧ s14 = .int .i64 i ∧ Hid (∀ j, j < i → ruleAt rs (e, ts) j = none) ∧ Below W0.heap.size W0 wr) (fun _ _ _ _ _ _ s14 _ => L - (intOf s14).toNat)
 case atStart => exact ⟨0, Nat.zero_le _, rfl, Lib.hid (fun j hj => by omega), Below.refl _ _⟩
 case round =>
  obtain ⟨wb, hwb⟩ : ∃ wm : World, wm = wr := ⟨_, rfl⟩
  subst hwb
  obtain ⟨i, hi1, rfl, hN, hbb⟩ := hrel
  have sbb := hbb.size
  have hBb : Below w.heap.size w wb := hB0.trans (hbb.mono hB0.size)
  have pt0 := oldc hbb (by omega) qt0
  have pt1 := oldc hbb (by omega) qt1
  have po0 := oldc hbb (by omega) qo0
  have po1 := oldc hbb (by omega) qo1
  have pf : ∀ o, wb.frozen? ⟨w.heap.size + 1, o, none⟩ = false := fun o => (hbb.frozen (p := ⟨w.heap.size + 1, o, none⟩) (by show w.heap.size + 1 < _; omega)).trans (qf o)
  have lb : w.heap.size + 1 < wb.heap.size := by omega
  by_cases hli : i < L
  ·have hI : (i : Int) < (L : Int) := by omega
   go_wp2
   go_loopw [5, 6, 7, 9, 10, 19] (fun _ _ _ _ _ s19 wr => ∃ k : Nat, k ≤ rs.length ∧ s19 = .int .i64 k ∧ Hid (∀ j s, j < k → rs[j]? = some s → fitsB s (e, ts) i = false) ∧ Below wb.heap.size wb wr) (fun _ _ _ _ _ s19 _ => rs.length - (intOf s19).toNat)
   case atStart => exact ⟨0, Nat.zero_le _, rfl, Lib.hid (fun j s hj => by omega), Below.refl _ _⟩
   case round =>
    obtain ⟨wd, hwd⟩ : ∃ wm : World, wm = wr := ⟨_, rfl⟩
    subst hwd
    obtain ⟨k, hk1, rfl, hM, hcd⟩ := hrel
    have scd := hcd.size
    have hBwd : Below w.heap.size w wd := hBb.trans (hcd.mono hBb.size)
    have mt0 := oldc hcd (by omega) pt0
    have mt1 := oldc hcd (by omega) pt1
    have mo0 := oldc hcd (by omega) po0
    have mo1 := oldc hcd (by omega) po1
    have mf : ∀ o, wd.frozen? ⟨w.heap.size + 1, o, none⟩ = false := fun o => (hcd.frozen (p := ⟨w.heap.size + 1, o, none⟩) (by show w.heap.size + 1 < _; omega)).trans (pf o)
    have ld : w.heap.size + 1 < wd.heap.size := by omega
    by_cases hlk : k < rs.length
    ·have hK : (k : Int) < (rs.length : Int) := by omega
     obtain ⟨b, off, nm, sx, pl, fr, tw, vfr, vtw, rfl, hx, c0, c1, c2, c3, c4, -, -, -, hfr, htw, hri, -, -, hbl⟩ := (HZ.out.below hBwd).dRul_at hlk
     obtain ⟨fao, fn, fcap, rfl, hfn, -⟩ := hfr.shape
     obtain ⟨tao, tn, tcap, rfl, -⟩ := htw.shape
     have HX := Lib.hid hx.out
     have HRI := Lib.hid hri
     have HIR := Lib.hid (HRS.out _ (List.mem_of_getElem? hx.out))
     obtain ⟨r1, hlet_r1⟩ : ∃ r, r = fitsB (nm, sx, pl, fr, tw) (e, ts) i := ⟨_, rfl⟩
     have HF := Lib.hid hlet_r1
     clear hlet_r1
     clear hx hfr htw hri hfn
     have l_t : w.heap.size < wd.heap.size := by omega
     have l_o : w.heap.size + 1 < wd.heap.size := ld
     have q_t0 := mt0
     have q_t1 := mt1
     have q_o0 := mo0
     have q_o1 := mo1
     have f_o := mf
     clear mt0 mt1 mo0 mo1 mf
     have hwd1 : Below wd.heap.size wd wd := Below.refl _ _
     go_wp2_with fail
     refine (fitsI_b _ _ _ _ _ _ _ _ (nm, sx, pl, fr, tw) (e, ts) (HRI.out.below bwT) (HT.out.below bwT) HIR.out HK.out i (show i < ts.length by rw [← HL.out]; exact hli) r1 HF.out).mono ?_
     rintro e2 w2 ⟨rfl, hbw2⟩
     have hpw2 : Below wd.heap.size wd w2 := Below.after bwT hbw2 szT
     have sw2 := hpw2.size
     have hBw2 : Below w.heap.size w w2 := Below.trans hBwd (Below.mono hpw2 hBwd.size)
     have q_t0 := oldc hpw2 l_t q_t0
     have q_t1 := oldc hpw2 l_t q_t1
     have q_o0 := oldc hpw2 l_o q_o0
     have q_o1 := oldc hpw2 l_o q_o1
     have f_o : ∀ o, w2.frozen? ⟨w.heap.size + 1, o, none⟩ = false := fun o => (hpw2.frozen (p := ⟨w.heap.size + 1, o, none⟩) l_o).trans (f_o o)
     have l_o := Nat.lt_of_lt_of_le l_o sw2
     have l_t := Nat.lt_of_lt_of_le l_t sw2
     have l_r : wd.heap.size < w2.heap.size := by have := hbw2.size; simp at this; omega
     have q_r0 : w2.cell? ⟨wd.heap.size, 0, none⟩ = some (.string nm) := oldc hbw2 ltT (by simp [go_sem])
     have q_r1 : w2.cell? ⟨wd.heap.size, 1, none⟩ = some (.int .i64 sx) := oldc hbw2 ltT (by simp [go_sem])
     have q_r2 : w2.cell? ⟨wd.heap.size, 2, none⟩ = some (.int .i64 pl) := oldc hbw2 ltT (by simp [go_sem])
     have q_r3 : w2.cell? ⟨wd.heap.size, 3, none⟩ = some (.slice fao fn fcap) := oldc hbw2 ltT (by simp [go_sem])
     have q_r4 : w2.cell? ⟨wd.heap.size, 4, none⟩ = some (.slice tao tn tcap) := oldc hbw2 ltT (by simp [go_sem])
     have hwd1 := Below.trans hwd1 (Below.mono hpw2 (by omega))
     clear hbw2 hpw2
     clear c0 c1 c2 c3 c4
     cases r1
     ·have HM := Lib.hid (show ∀ j s, j < k + 1 → rs[j]? = some s → fitsB s (e, ts) i = false from fun j s hj hs => by
       rcases Nat.lt_succ_iff_lt_or_eq.1 hj with h1 | h1
       ·exact hM.out j s h1 hs
       ·subst h1
        rw [HX.out] at hs
        rw [← Option.some.inj hs]; exact HF.out.symm)
      clear hM HX HRI HIR HF hN
      go_wp2
      go_roundw
      case rel => exact ⟨k + 1, by omega, by go_num, HM, hcd.trans (Below.mono (show Below wd.heap.size wd _ from hwd1) scd)⟩
      case measure => simp [intOf]; omega
     have HRES := Lib.hid (show o = some (replT (nm, sx, pl, fr, tw) (e, ts) i, k, i) by rw [HO.out]; exact rewr_found (by show i < ts.length; rw [← HL.out]; exact hli) hN.out HX.out (ruleAt_found HX.out HF.out.symm hM.out))
     have HFI := Lib.hid (show i + fr.length ≤ ts.length from (fits_facts HF.out.symm).1)
     clear hN hM HO HF HX
     go_wp2_with fail
     refine (replI_any _ _ _ _ _ _ _ _ (nm, sx, pl, fr, tw) (e, ts) (HRI.out.below hwd1) (HT.out.below hBw2) HIR.out HK.out i HFI.out).mono ?_
     rintro e3 w3 ⟨ra, rb, rfl, hoR, hbw3⟩
     have hpw3 : Below w2.heap.size w2 w3 := Below.after bwT hbw3 szT
     have sw3 := hpw3.size
     have hBw3 : Below w.heap.size w w3 := Below.trans hBw2 (Below.mono hpw3 hBw2.size)
     have q_t0 := oldc hpw3 l_t q_t0
     have q_t1 := oldc hpw3 l_t q_t1
     have q_o0 := oldc hpw3 l_o q_o0
     have q_o1 := oldc hpw3 l_o q_o1
     have q_r0 := oldc hpw3 l_r q_r0
     have q_r1 := oldc hpw3 l_r q_r1
     have q_r2 := oldc hpw3 l_r q_r2
     have q_r3 := oldc hpw3 l_r q_r3
     have q_r4 := oldc hpw3 l_r q_r4
     have f_o : ∀ o, w3.frozen? ⟨w.heap.size + 1, o, none⟩ = false := fun o => (hpw3.frozen (p := ⟨w.heap.size + 1, o, none⟩) l_o).trans (f_o o)
     have l_o := Nat.lt_of_lt_of_le l_o sw3
     have l_r := Nat.lt_of_lt_of_le l_r sw3
     have l_t := Nat.lt_of_lt_of_le l_t sw3
     have hwd1 := Below.trans hwd1 (Below.mono hpw3 (by omega))
     clear hbw3 hpw3
     obtain ⟨rfl, -, hrb⟩ := hoR.rd.kin
     obtain ⟨rao, rn, rcap, rfl, -⟩ := hrb.shape
     clear hrb
     have HOW := Lib.hid hoR
     clear hoR
     go_wp2
     exact bodyPost_ret (v := .tuple #[.agg #[.int .i64 (replT (nm, sx, pl, fr, tw) (e, ts) i).1, .slice rao rn rcap], .int .i64 k, .int .i64 i, .bool true]) (by simp [results, Tryz.results93, go_sem, q_o0, q_o1, f_o, l_o]) rfl (by rw [HRES.out]; exact ⟨bwT, _, _, rfl, (HOW.out.keep zmT).top.mono (by omega) (by simp)⟩)
    ·have hK : ¬ (k : Int) < (rs.length : Int) := by omega
     have HN := Lib.hid (show ∀ j, j < i + 1 → ruleAt rs (e, ts) j = none from fun j hj => by
      rcases Nat.lt_succ_iff_lt_or_eq.1 hj with h1 | h1
      ·exact hN.out j h1
      ·subst h1
       exact ruleAt_none (fun j s _ hs => hM.out j s (by have := (List.getElem?_eq_some_iff.1 hs).1; omega) hs))
     clear hN hM
     go_wp2
     go_roundw
     case rel => exact ⟨i + 1, by omega, by go_num, HN, hbb.trans (hcd.mono sbb)⟩
     case measure => simp [intOf]; omega
  ·have hI : ¬ (i : Int) < (L : Int) := by omega
   have HRES := Lib.hid (show o = none by rw [HO.out]; exact rewr_none_of (fun j hj => hN.out j (by have : j < ts.length := hj; rw [← HL.out] at this; omega)))
   clear hN HO
   have l_o : w.heap.size + 1 < wb.heap.size := lb
   go_wp2
   exact bodyPost_ret (v := .tuple #[.agg #[.int .i64 0, .slice none 0 0], .int .i64 0, .int .i64 0, .bool false]) (by simp [results, Tryz.results93, go_sem, po0, po1, pf, l_o]) rfl (by rw [HRES.out]; exact ⟨bwT, rfl⟩)
set_option maxRecDepth 20000 in
set_option maxHeartbeats 16000000 in
theorem nfI_any {z z1 : Bool} {lo hi lo1 hi1 : Nat} (w : World) (v a b : Value) (rs : List Rul) (t : Kin) (h : Rd z lo hi w [v] rs) (h' : Rd z1 lo1 hi1 w [a, b] t) (hr : allRules rs) (ht : isKin t = true) :
  Calls Tryz.prog 46 #[v, .agg #[a, b]] w (PostOw2 w (nf rs t)) := by
 obtain ⟨ao, n, cap, rfl, rfl, hnc, hcm, -⟩ := h.shape
 unfold maxLen at hcm
 have HT := Lib.hid h'
 obtain ⟨rfl, hI, hb⟩ := h'.kin
 obtain ⟨sao, sn, scap, rfl, hsn, hsc, hsm, -⟩ := hb.shape
 unfold maxLen at hsm
 have HK := Lib.hid ht
 have HRS := Lib.hid hr
 have hs8 : t.2.length ≤ 8 := (isKin_facts ht).2.1
 have HZ := Lib.hid h
 obtain ⟨X, hX⟩ : ∃ X, X = nf rs t := ⟨_, rfl⟩
 rw [← hX]
 have HX := Lib.hid hX.symm
 clear h' hr ht hI hb hsn hX
 go_enter Tryz.func46, Tryz.ntmps46
 go_wp2_with fail
 refine (copyTypeI_any _ _ _ t (HT.out.below bwT) (by omega)).mono ?_
 rintro e4 w4 ⟨cv, rfl, hG, hbw4⟩
 have hpw4 : Below w.heap.size w w4 := Below.after bwT hbw4 szT
 have sw4 := hpw4.size
 have hBw4 : Below w.heap.size w w4 := hpw4
 have l_t : w.heap.size < w4.heap.size := by have := hbw4.size; simp at this; omega
 have q_t0 : w4.cell? ⟨w.heap.size, 0, none⟩ = some (.int .i64 t.1) := oldc hbw4 ltT (by simp [go_sem])
 have q_t1 : w4.cell? ⟨w.heap.size, 1, none⟩ = some (.slice sao sn scap) := oldc hbw4 ltT (by simp [go_sem])
 have l_o : w.heap.size + 1 < w4.heap.size := by have := hbw4.size; simp at this; omega
 have q_o0 : w4.cell? ⟨w.heap.size + 1, 0, none⟩ = some (.int .i64 0) := oldc hbw4 ltT (by simp [go_sem])
 have q_o1 : w4.cell? ⟨w.heap.size + 1, 1, none⟩ = some (.slice none 0 0) := oldc hbw4 ltT (by simp [go_sem])
 have f_o : ∀ o, w4.frozen? ⟨w.heap.size + 1, o, none⟩ = false := fun o => (hbw4.frozen (p := ⟨w.heap.size + 1, o, none⟩) ltT).trans (by simp [go_sem])
 clear hbw4 hpw4
 obtain ⟨cao, ccap, rfl, -, -⟩ := hG.len
 have hoc := hG.ow (l0 := w.heap.size + 1 + 1) (by simp) (by simp)
 clear hG
 obtain ⟨W1, hW1⟩ : ∃ W : World, W = w4 := ⟨_, rfl⟩
 subst hW1
 have hB1 : Below w.heap.size w W1 := hBw4
 obtain ⟨W2, hW2⟩ : ∃ W : World, W = W1.alloc (.cells #[.int .i64 t.1, .slice cao t.2.length ccap] 36) := ⟨_, rfl⟩
 have hB12 : Below W1.heap.size W1 W2 := by subst hW2; exact bwT
 have hB2 : Below w.heap.size w W2 := hB1.trans (hB12.mono hB1.size)
 have x0 : W2.cell? ⟨W1.heap.size, 0, none⟩ = some (.int .i64 t.1) := by subst hW2; simp [go_sem]
 have x1 : W2.cell? ⟨W1.heap.size, 1, none⟩ = some (.slice cao t.2.length ccap) := by subst hW2; simp [go_sem]
 have xf : ∀ o, W2.frozen? ⟨W1.heap.size, o, none⟩ = false := by subst hW2; intro o; simp [go_sem]
 have sz2 : W2.heap.size = W1.heap.size + 1 := by subst hW2; simp
 have p0 := oldc hB12 l_o q_o0
 have p1 := oldc hB12 l_o q_o1
 have pf : ∀ o, W2.frozen? ⟨w.heap.size + 1, o, none⟩ = false := fun o => (hB12.frozen (p := ⟨w.heap.size + 1, o, none⟩) l_o).trans (f_o o)
 have HO := Lib.hid (hoc.below hB12)
 go_wp2
 rw [← hW2]
 clear hW2 q_t0 q_t1 q_o0 q_o1 f_o hoc
 go_loopg [6, 7, 8, 9] (enc t.2 + 1) (fun g _ _ _ _ wr => ∃ (u : Kin) (uv : Value) (ul uh : Nat), enc u.2 < g ∧ Hid (isKin u = true) ∧ Hid (nf rs u = X) ∧ wr.cell? ⟨W1.heap.size, 0, none⟩ = some (.int .i64 u.1) ∧ wr.cell? ⟨W1.heap.size, 1, none⟩ = some uv ∧ (∀ o, wr.frozen? ⟨W1.heap.size, o, none⟩ = false) ∧ Hid (Ow ul uh wr [.int .i64 u.1, uv] u) ∧ (uh ≤ W1.heap.size ∨ W1.heap.size < ul) ∧ w.heap.size + 1 < ul ∧ wr.cell? ⟨w.heap.size + 1, 0, none⟩ = some (.int .i64 0) ∧ wr.cell? ⟨w.heap.size + 1, 1, none⟩ = some (.slice none 0 0) ∧ (∀ o, wr.frozen? ⟨w.heap.size + 1, o, none⟩ = false) ∧ Below w.heap.size w wr ∧ W1.heap.size < wr.heap.size)
 case atStart => exact ⟨t, _, _, _, Nat.lt_succ_self _, HK, HX, x0, x1, xf, Lib.hid (Ow.kin_mk (by have := HT.out.kin.2.1; exact this) HO.out), .inl (by omega), by omega, p0, p1, pf, hB2, by omega⟩
 case round =>
  obtain ⟨wb, hwb⟩ : ∃ wm : World, wm = wr := ⟨_, rfl⟩
  subst hwb
  obtain ⟨u, uv, ul, uh, hgu, hku, hnu, y0, y1, yf, hou, hdj, hul, r0, r1, rf, hBb, hlb⟩ := hrel
  clear x0 x1 xf p0 p1 pf HO
  have sB := hBb.size
  obtain ⟨ou, hou2⟩ : ∃ ou, ou = rewr rs u := ⟨_, rfl⟩
  obtain ⟨-, -, hus⟩ := hou.out.rd.kin
  obtain ⟨uao, un, ucap, rfl, -⟩ := hus.shape
  have HOU := Lib.hid hou2
  clear hus hou2
  go_wp2_with fail
  refine (rewrI_any _ _ _ _ rs u (HZ.out.below hBb) (hou.out.rd.below (Below.refl _ _)) HRS.out hku.out ou HOU.out).mono ?_
  rintro e5 w5 ⟨hb5, hp5⟩
  have hB5 : Below w.heap.size w w5 := Below.after hBb hb5 sB
  have s5 := hb5.size
  have y0 := oldc hb5 hlb y0
  have y1 := oldc hb5 hlb y1
  have yf : ∀ o, w5.frozen? ⟨W1.heap.size, o, none⟩ = false := fun o => (hb5.frozen (p := ⟨W1.heap.size, o, none⟩) hlb).trans (yf o)
  have r0 := oldc hb5 (by omega) r0
  have r1 := oldc hb5 (by omega) r1
  have rf : ∀ o, w5.frozen? ⟨w.heap.size + 1, o, none⟩ = false := fun o => (hb5.frozen (p := ⟨w.heap.size + 1, o, none⟩) (by show w.heap.size + 1 < _; omega)).trans (rf o)
  have hl5 := Nat.lt_of_lt_of_le hlb s5
  have lr5 : w.heap.size + 1 < w5.heap.size := by omega
  have v1 : ¬ W1.heap.size = w5.heap.size := by omega
  have v2 : ¬ w5.heap.size = W1.heap.size := by omega
  have v3 : ¬ w.heap.size + 1 = w5.heap.size := by omega
  have v4 : ¬ w5.heap.size = w.heap.size + 1 := by omega
  have v5 : ¬ W1.heap.size = w.heap.size + 1 := by omega
  have v6 : ¬ w.heap.size + 1 = W1.heap.size := by omega
  have v7 : W1.heap.size < w5.heap.size + 1 := by omega
  have v8 : w.heap.size + 1 < w5.heap.size + 1 := by omega
  rcases ou with _ | ⟨u2, k, i⟩
  ·obtain rfl := hp5
   have HOW := Lib.hid (hou.out.below hb5).top
   have HUX := Lib.hid (show u = X by rw [← hnu.out]; exact (nf_none HOU.out.symm).symm)
   clear hb5 hou hnu HOU
   go_wp2
   exact bodyPost_ret (v := .agg #[.int .i64 u.1, .slice uao un ucap]) (by simp [results, Tryz.results46, go_sem, r0, r1, rf, lr5, v1, v2, v3, v4, v5, v6, v7, v8, y0, y1]) rfl ⟨_, _, rfl, by rw [← HUX.out]; exact (HOW.out.keep zmT).top.mono (by omega) (by simp), bwT⟩
  ·obtain ⟨na, nb, rfl, hov⟩ := hp5
   obtain ⟨rfl, -, hns⟩ := hov.rd.kin
   obtain ⟨nao, nn, ncap, rfl, -⟩ := hns.shape
   have HNS := Lib.hid (rewr_some HRS.out hku.out HOU.out.symm)
   have HNX := Lib.hid (show nf rs u2 = X by rw [← hnu.out]; exact (nf_some HRS.out hku.out HOU.out.symm).symm)
   have HOV := Lib.hid hov
   have hge : enc u2.2 + 1 < gk := by obtain ⟨_, -, -, -, -, -, h6⟩ := HNS.out; omega
   have HKU := Lib.hid (show isKin u2 = true by obtain ⟨_, -, -, -, -, h5, -⟩ := HNS.out; exact h5)
   clear hb5 hns hov hou hnu HOU HNS hdj
   go_wp2
   go_roundg (enc u2.2 + 1)
   case measure => exact hge
   case rel => exact ⟨u2, _, _, _, Nat.lt_succ_self _, HKU, HNX, by simp [go_sem, *], by simp [go_sem, *], by intro o; simp [go_sem, *], Lib.hid (HOV.out.keep zmT), .inr hlb, by omega, by simp [go_sem, *], by simp [go_sem, *], by intro o; simp [go_sem, *], bwT, by simp; omega⟩
theorem areRules_bad {rs : List Rul} {i : Nat} {r : Rul} (h : rs[i]? = some r) (hr : isRule r = false) : areRules rs = false := by
 rw [Bool.eq_false_iff]
 intro e
 have := (areRules_facts e).2.1 r (List.mem_of_getElem? h)
 rw [hr] at this; cases this
theorem areRules_dup {rs : List Rul} {i : Nat} {r : Rul} (h : rs[i]? = some r) (hr : r.1 ∈ (rs.take i).map (·.1)) : areRules rs = false := by
 rw [Bool.eq_false_iff]
 intro e
 have hn := (areRules_facts e).2.2
 rw [← List.take_append_drop i rs, drop_cons h, List.map_append, List.map_cons, List.nodup_append] at hn
 exact hn.2.2 _ hr _ (by simp) rfl
theorem areRules_end {rs : List Rul} {i : Nat} (hi : rs.length ≤ i) (hl : rs.length ≤ 12) (h1 : (rs.take i).all isRule = true) (h2 : ((rs.take i).map (·.1)).Nodup) : areRules rs = true := by
 rw [List.take_of_length_le hi] at h1 h2
 unfold areRules
 rw [decide_eq_true hl, h1, decide_eq_true h2]; rfl
theorem take_all {α : Type} {p : α → Bool} {xs : List α} {i : Nat} {x : α} (h : xs[i]? = some x) (h1 : (xs.take i).all p = true) (h2 : p x = true) : (xs.take (i + 1)).all p = true := by
 rw [take_snoc h, List.all_append, h1]; simp [h2]
theorem take_nodup {xs : List Rul} {i : Nat} {x : Rul} (h : xs[i]? = some x) (h1 : ((xs.take i).map (·.1)).Nodup) (h2 : x.1 ∉ (xs.take i).map (·.1)) : ((xs.take (i + 1)).map (·.1)).Nodup := by
 rw [take_snoc h, List.map_append, List.nodup_append]
 refine ⟨h1, by simp, fun a ha b hb e => ?_⟩
 simp at hb; subst hb
 exact h2 (e ▸ ha)
set_option maxRecDepth 20000 in
set_option maxHeartbeats 8000000 in
theorem areRulesI_b {z : Bool} {lo hi : Nat} (w : World) (v : Value) (rs : List Rul) (h : Rd z lo hi w [v] rs) (R : Bool) (hR : R = areRules rs) : Calls Tryz.prog 45 #[v] w (PostB w R) := by
 obtain ⟨ao, n, cap, rfl, rfl, hnc, hcm, -⟩ := h.shape
 unfold maxLen at hcm
 have HR := Lib.hid hR
 clear hR
 by_cases hl : rs.length ≤ 12
 rotate_left
 ·have HF := Lib.hid (show R = false by rw [HR.out]; unfold areRules; rw [decide_eq_false hl]; rfl)
  have n1 : (12 : Int) < (rs.length : Int) := by omega
  clear HR h
  go_enter Tryz.func45, Tryz.ntmps45
  go_wp2
  go_ret
  exact ⟨ret_bool HF.out.symm, Below.refl _ _⟩
 have n1 : ¬ (12 : Int) < (rs.length : Int) := by omega
 have hmm := @run_makeMap Tryz.prog
 go_enter Tryz.func45, Tryz.ntmps45
 go_wp2
 go_loopw [5, 12] (fun _ s12 wr => ∃ i : Nat, i ≤ rs.length ∧ s12 = .int .i64 i ∧ Hid (SSet wr w.heap.size i ((rs.take i).map (·.1))) ∧ Hid ((rs.take i).all isRule = true) ∧ Hid (((rs.take i).map (·.1)).Nodup) ∧ Below w.heap.size w wr ∧ w.heap.size < wr.heap.size) (fun _ s12 _ => rs.length - (intOf s12).toNat)
 case atStart => exact ⟨0, Nat.zero_le _, rfl, Lib.hid (SSet.made w), Lib.hid rfl, Lib.hid List.nodup_nil, bwT, by simp⟩
 case round =>
  obtain ⟨wb, hwb⟩ : ∃ wm : World, wm = wr := ⟨_, rfl⟩
  subst hwb
  obtain ⟨i, hi1, rfl, hS, hA, hN, hBwb, hlB⟩ := hrel
  have swb := hBwb.size
  by_cases hli : i < rs.length
  ·have hI : (i : Int) < (rs.length : Int) := by omega
   obtain ⟨b, off, nm, sx, pl, fr, tw, vfr, vtw, rfl, hx, c0, c1, c2, c3, c4, gnm, gsx, gpl, hfr, htw, hri, -, -, hbl⟩ := (h.below hBwb).dRul_at hli
   obtain ⟨fao, fn, fcap, rfl, -⟩ := hfr.shape
   obtain ⟨tao, tn, tcap, rfl, -⟩ := htw.shape
   have HNM := Lib.hid gnm
   obtain ⟨r1, hlet_r1⟩ : ∃ r, r = isRule (nm, sx, pl, fr, tw) := ⟨_, rfl⟩
   have H1 := Lib.hid hlet_r1
   clear hlet_r1
   obtain ⟨r2, hlet_r2⟩ : ∃ r, r = decide (nm ∈ (rs.take i).map (·.1)) := ⟨_, rfl⟩
   have H2 := Lib.hid hlet_r2
   clear hlet_r2
   have hZ : Zone w.heap.size (w.heap.size + 1) wb wb := Zone.refl _ _ _
   have HX := Lib.hid hx.out
   clear hx gnm gsx gpl hfr htw h
   go_wp2_with fail
   refine (isRuleI_b _ _ _ _ _ _ (nm, sx, pl, fr, tw) (hri.below bwT) r1 H1.out).mono ?_
   rintro e5 w5 ⟨rfl, hbw5⟩
   have hpw5 : Below wb.heap.size wb w5 := Below.after bwT hbw5 szT
   have sw5 := hpw5.size
   have hBw5 : Below w.heap.size w w5 := Below.trans hBwb (Below.mono hpw5 hBwb.size)
   have l_r : wb.heap.size < w5.heap.size := by have := hbw5.size; simp at this; omega
   have q_r0 : w5.cell? ⟨wb.heap.size, 0, none⟩ = some (.string nm) := oldc hbw5 ltT (by simp [go_sem])
   have q_r1 : w5.cell? ⟨wb.heap.size, 1, none⟩ = some (.int .i64 sx) := oldc hbw5 ltT (by simp [go_sem])
   have q_r2 : w5.cell? ⟨wb.heap.size, 2, none⟩ = some (.int .i64 pl) := oldc hbw5 ltT (by simp [go_sem])
   have q_r3 : w5.cell? ⟨wb.heap.size, 3, none⟩ = some (.slice fao fn fcap) := oldc hbw5 ltT (by simp [go_sem])
   have q_r4 : w5.cell? ⟨wb.heap.size, 4, none⟩ = some (.slice tao tn tcap) := oldc hbw5 ltT (by simp [go_sem])
   have hZ := Zone.below hZ hpw5 (by omega)
   clear hbw5 hpw5
   have hS1 := Lib.hid (hS.out.zone hZ (Nat.le_refl _) (Nat.lt_succ_self _))
   clear hS hri c0 c1 c2 c3 c4
   cases r1
   ·have HF := Lib.hid (show R = false by rw [HR.out]; exact areRules_bad HX.out H1.out.symm)
    clear HR hA hN hS1 HX H1 H2 hZ
    go_wp2
    go_ret
    exact ⟨ret_bool HF.out.symm, hBw5⟩
   have HS1 := Lib.hid hS1.out
   clear hS1
   cases r2
   rotate_left
   ·have HF := Lib.hid (show R = false by rw [HR.out]; exact areRules_dup HX.out (of_decide_eq_true H2.out.symm))
    clear HR hA hN HX H1 hZ
    go_wp2_with (at_lookup; refine wpList_sset_lookg (by rfl) rfl Tryz.underlying111 rfl HS1.out rfl HNM.out true H2.out ?_)
    go_ret
    exact ⟨ret_bool HF.out.symm, hBw5⟩
   have HA := Lib.hid (take_all HX.out hA.out H1.out.symm)
   have HN := Lib.hid (take_nodup HX.out hN.out (show nm ∉ (rs.take i).map (·.1) from of_decide_eq_false H2.out.symm))
   have HP := Lib.hid (show ∀ s, s ∈ nm :: (rs.take i).map (·.1) ↔ s ∈ (rs.take (i + 1)).map (·.1) from fun s => by rw [take_snoc HX.out, List.map_append, List.mem_append, List.mem_cons, List.map_cons, List.map_nil, List.mem_singleton]; exact Or.comm)
   have hlB2 : w.heap.size < (w5).heap.size := by omega
   have sB2 : w.heap.size ≤ (w5).heap.size := by omega
   clear hA hN HX H1 hZ HR
   go_wp2_with (first | (at_lookup; refine wpList_sset_lookg (by rfl) rfl Tryz.underlying111 rfl HS1.out rfl HNM.out false H2.out ?_) | (at_mapUpdate; refine wpList_sset_put rfl rfl Tryz.underlying111 rfl HS1.out (by unfold maxLen; omega) rfl rfl HNM.out ?_; intro w5 hS5 hg5))
   have HS5 := Lib.hid (hS5.perm HP.out)
   have hB5 : Below w.heap.size w w5 := Below.grownAt hBw5 hg5 (Nat.le_refl _) sB2
   have s5 := hg5.size
   clear hS5 HP hg5
   (try go_wp2)
   go_roundw
   case rel => exact ⟨i + 1, by omega, by go_num, HS5, HA, HN, hB5, by omega⟩
   case measure => simp [intOf]; omega
  ·have hI : ¬ (i : Int) < (rs.length : Int) := by omega
   have HF := Lib.hid (show R = true by rw [HR.out]; exact areRules_end (by omega) hl hA.out hN.out)
   clear HR hA hN hS h
   go_wp2
   go_ret
   exact ⟨ret_bool HF.out.symm, hBwb⟩
set_option maxRecDepth 20000 in
set_option maxHeartbeats 16000000 in
theorem replS_any {z z1 : Bool} {lo hi lo1 hi1 : Nat} (w : World) (u0 u1 u2 u3 u4 a b : Value) (r : Rul) (t : Kin) (h : Rd z lo hi w [u0, u1, u2, u3, u4] r) (h' : Rd z1 lo1 hi1 w [a, b] t) (hr : isRule r = true) (ht : isKin t = true) (i : Nat) (hi0 : i + r.2.2.2.1.length ≤ t.2.length) :
  Calls Tryz.prog 118 #[.agg #[u0, u1, u2, u3, u4], .agg #[a, b], .int .i64 i] w (PostOw2 w (replT r t i)) := by
 obtain ⟨nm, sx, pl, fr, tw⟩ := r
 obtain ⟨vfr, vtw, e1, gnm, gsx, gpl, hfr, htw⟩ := Rd.dRul h
 simp only [List.cons.injEq, and_true] at e1
 obtain ⟨rfl, rfl, rfl, rfl, rfl⟩ := e1
 obtain ⟨fao, fn, fcap, rfl, hfn, hfc, hfm, -⟩ := hfr.shape
 obtain ⟨tao, tn, tcap, rfl, htn, htc, htm, -⟩ := htw.shape
 subst hfn htn
 have HT := Lib.hid h'
 obtain ⟨rfl, hI, hb⟩ := h'.kin
 obtain ⟨e, ts⟩ := t
 dsimp only at hb hi0 hI
 obtain ⟨sao, sn, scap, rfl, hsn, hsc, hsm, hsnone⟩ := hb.shape
 unfold maxLen at hfm htm hsm
 have hf4 : 1 ≤ fr.length ∧ fr.length ≤ 4 := (isRule_facts hr).2.2.2.1
 have ht4 : tw.length ≤ 4 := (rule_steps hr).2.2
 have hs8 : ts.length ≤ 8 := (isKin_facts ht).2.1
 have hei := egoOf_in ht
 obtain ⟨L, hL⟩ : ∃ L, L = ts.length := ⟨_, rfl⟩
 subst hsn
 rw [← hL] at hs8 hi0 hsc ⊢
 have hb2 := hb
 rw [← hL] at hb2
 obtain ⟨sb, soff, hsao⟩ : ∃ sb soff, sao = some ⟨sb, soff, none⟩ := by
  obtain ⟨bb, oo, _, _, e5, _⟩ := hb2.stp_at (i := 0) (by omega)
  exact ⟨bb, oo, e5⟩
 subst hsao
 have HB := Lib.hid hb2
 have HTK := Lib.hid (hb2.takeS (i := i) (by omega))
 have HW := Lib.hid htw
 have HL := Lib.hid hL
 obtain ⟨j, hj⟩ : ∃ j, j = i + fr.length := ⟨_, rfl⟩
 have HJ := Lib.hid hj
 have hj0 : (i : Int) + (fr.length : Int) = (j : Int) := by omega
 have hjL : j ≤ L := by omega
 have hiL : i < L := by omega
 have hj1 : 1 ≤ j := by omega
 have hijc : i ≤ scap := by omega
 have hjc : j ≤ scap := by omega
 have hlt1 : (ts.take i).length = i := by rw [List.length_take]; omega
 have hlt2 : (ts.drop j).length = L - j := by rw [List.length_drop, hL]
 have HLT1 := Lib.hid hlt1
 have HLT2 := Lib.hid hlt2
 rw [← hL] at HT
 clear h h' hr ht hI hb hb2 hL hfr htw gnm gsx gpl hj hlt1 hlt2 hsnone hi0
 obtain ⟨eg, hlet_eg⟩ : ∃ r, r = egoOf (e, ts) := ⟨_, rfl⟩
 have HEG := Lib.hid hlet_eg
 clear hlet_eg
 have HEI := Lib.hid (show I64 eg by have := HEG.out; unfold I64; omega)
 clear hei
 go_enter Tryz.func118, Tryz.ntmps118
 go_wp2_with fail
 refine (egoS_any _ _ _ (e, ts) (HT.out.below bwT) eg HEG.out).mono ?_
 rintro e6 w6 ⟨rfl, hbw6⟩
 have hpw6 : Below w.heap.size w w6 := Below.after bwT hbw6 szT
 have sw6 := hpw6.size
 have hBw6 : Below w.heap.size w w6 := hpw6
 have l_r : w.heap.size < w6.heap.size := by have := hbw6.size; simp at this; omega
 have q_r0 : w6.cell? ⟨w.heap.size, 0, none⟩ = some (.string nm) := oldc hbw6 ltT (by simp [go_sem])
 have q_r1 : w6.cell? ⟨w.heap.size, 1, none⟩ = some (.int .i64 sx) := oldc hbw6 ltT (by simp [go_sem])
 have q_r2 : w6.cell? ⟨w.heap.size, 2, none⟩ = some (.int .i64 pl) := oldc hbw6 ltT (by simp [go_sem])
 have q_r3 : w6.cell? ⟨w.heap.size, 3, none⟩ = some (.slice fao fr.length fcap) := oldc hbw6 ltT (by simp [go_sem])
 have q_r4 : w6.cell? ⟨w.heap.size, 4, none⟩ = some (.slice tao tw.length tcap) := oldc hbw6 ltT (by simp [go_sem])
 have l_t : w.heap.size + 1 < w6.heap.size := by have := hbw6.size; simp at this; omega
 have q_t0 : w6.cell? ⟨w.heap.size + 1, 0, none⟩ = some (.int .i64 e) := oldc hbw6 ltT (by simp [go_sem])
 have q_t1 : w6.cell? ⟨w.heap.size + 1, 1, none⟩ = some (.slice (some ⟨sb, soff, none⟩) L scap) := oldc hbw6 ltT (by simp [go_sem])
 have l_o : w.heap.size + 1 + 1 < w6.heap.size := by have := hbw6.size; simp at this; omega
 have q_o0 : w6.cell? ⟨w.heap.size + 1 + 1, 0, none⟩ = some (.int .i64 0) := oldc hbw6 ltT (by simp [go_sem])
 have q_o1 : w6.cell? ⟨w.heap.size + 1 + 1, 1, none⟩ = some (.slice none 0 0) := oldc hbw6 ltT (by simp [go_sem])
 have f_o : ∀ o, w6.frozen? ⟨w.heap.size + 1 + 1, o, none⟩ = false := fun o => (hbw6.frozen (p := ⟨w.heap.size + 1 + 1, o, none⟩) ltT).trans (by simp [go_sem])
 clear hbw6 hpw6
 obtain ⟨W1, hW1⟩ : ∃ W : World, W = w6 := ⟨_, rfl⟩
 subst hW1
 have hBW1 : Below w.heap.size w W1 := hBw6
 obtain ⟨W2, hW2⟩ : ∃ W : World, W = W1.alloc (.cells #[.int .i64 eg, .slice none 0 0] 36) := ⟨_, rfl⟩
 have hB12 : Below W1.heap.size W1 W2 := by subst hW2; exact bwT
 have x0 : W2.cell? ⟨W1.heap.size, 0, none⟩ = some (.int .i64 eg) := by subst hW2; simp [go_sem]
 have x1 : W2.cell? ⟨W1.heap.size, 1, none⟩ = some (.slice none 0 0) := by subst hW2; simp [go_sem]
 have xf : ∀ o, W2.frozen? ⟨W1.heap.size, o, none⟩ = false := by subst hW2; intro o; simp [go_sem]
 have sz2 : W2.heap.size = W1.heap.size + 1 := by subst hW2; simp
 have lx : W1.heap.size < W2.heap.size := by omega
 go_upto_region 2 with fail
 rw [← hW2]
 clear hW2
 have hBW2 : Below w.heap.size w W2 := hBW1.trans (hB12.mono hBW1.size)
 have p_r3 := oldc hB12 l_r q_r3
 have p_r4 := oldc hB12 l_r q_r4
 have p_t1 := oldc hB12 l_t q_t1
 have p_o0 := oldc hB12 l_o q_o0
 have p_o1 := oldc hB12 l_o q_o1
 have p_f : ∀ o, W2.frozen? ⟨w.heap.size + 1 + 1, o, none⟩ = false := fun o => (hB12.frozen (p := ⟨w.heap.size + 1 + 1, o, none⟩) l_o).trans (f_o o)
 clear q_r0 q_r1 q_r2 q_r3 q_r4 q_t0 q_t1 q_o0 q_o1 f_o
 refine wp_region_held_drew (S := (fun w' => w'.cell? ⟨w.heap.size + 1, 1, none⟩ = some (.slice (some ⟨sb, soff, none⟩) L scap))) (by kernel_rfl) ?_ (fun hHeld => ?_)
 ·first | exact trivial | ((try dsimp only); go_keep)
 refine tkA 0 ?_
 try simp only [Act.put, cA, cB, cC]
 refine tkA 2 ?_
 try simp only [Act.put, cA, cB, cC]
 refine tkA 4 ?_
 try simp only [Act.put, cA, cB, cC]
 refine tkA 3 ?_
 try simp only [Act.put, cA, cB, cC]
 refine tkA 5 ?_
 try simp only [Act.put, cA, cB, cC]
 refine wpAnyH_ready (rs := [1]) (by kernel_rfl) (by simp) ?_
 refine rdR (fun K hK => ?_) ?_
 ·go_simp
  refine hK.out _ _ ?_ (fun hHeld => ?_)
  ·exact kpT
  clear hK K
  try simp only [Act.put, cA, cB, cC]
  refine wpAnyH_ready (rs := [6]) (by kernel_rfl) (by simp) ?_
  refine rdR (fun K hK => ?_) ?_
  ·refine step_spread_flat rfl rfl slStep (by show (0 : Nat) < 2; omega) (GL.start true (W1.heap.size + 1) (W1.heap.size + 1) (W1.heap.size + 1) _ _) (by simp [Act.eval, Act.put]) (by simp [Act.eval, Act.put]) (HTK.out.below bwT) (by rw [HLT1.out]; unfold maxLen; simp; omega) (by rw [HLT1.out]; simp; omega) (by simp; omega) ?_
   rintro v3 w3 hG3 _ hb3
   obtain ⟨g3, cap3, rfl, -, -⟩ := hG3.len
   have hp3 : Below (W1.heap.size + 1) W2 w3 := Below.trans (show Below (W1.heap.size + 1) W2 _ from bwT) hb3
   have hS3 := oldc hp3 (by omega) p_t1
   have HG3 := Lib.hid hG3
   have HS3 := Lib.hid hp3
   clear hG3 hb3
   simp only [List.nil_append, HLT1.out] at HG3 ⊢
   have y0 := oldc hp3 (by omega) x0
   have y1 := oldc hp3 (by omega) x1
   have yf : ∀ o, w3.frozen? ⟨W1.heap.size, o, none⟩ = false := fun o => (hp3.frozen (p := ⟨W1.heap.size, o, none⟩) (by show W1.heap.size < _; omega)).trans (xf o)
   have ly : W1.heap.size < w3.heap.size := Nat.lt_of_lt_of_le lx hp3.size
   have k_r3 := oldc hp3 (by omega) p_r3
   have k_r4 := oldc hp3 (by omega) p_r4
   have k_o0 := oldc hp3 (by omega) p_o0
   have k_o1 := oldc hp3 (by omega) p_o1
   have k_f : ∀ o, w3.frozen? ⟨w.heap.size + 1 + 1, o, none⟩ = false := fun o => (hp3.frozen (p := ⟨w.heap.size + 1 + 1, o, none⟩) (by show w.heap.size + 1 + 1 < _; omega)).trans (p_f o)
   have sz3 := hp3.size
   clear hp3
   refine hK.out _ _ ?_ (fun hHeld => ?_)
   ·exact kpT
   clear hK K
   try simp only [Act.put, cA, cB, cC]
   refine tkA 7 ?_
   try simp only [Act.put, cA, cB, cC]
   refine wpAnyH_ready (rs := [8]) (by kernel_rfl) (by simp) ?_
   refine rdR (fun K hK => ?_) ?_
   ·go_simp
    refine hK.out _ _ ?_ (fun hHeld => ?_)
    ·exact kpT
    clear hK K
    try simp only [Act.put, cA, cB, cC]
    refine wpAnyH_done (by kernel_rfl) ?_ _
    obtain ⟨WA, hWA⟩ : ∃ W : World, W = w3.setCell ⟨W1.heap.size, 1, none⟩ (.slice g3 i cap3) := ⟨_, rfl⟩
    have hBW3 : Below w.heap.size w w3 := hBW2.trans (HS3.out.mono (by omega))
    have szA : WA.heap.size = w3.heap.size := by subst hWA; simp
    have hBA : Below w.heap.size w WA := by subst hWA; exact Below.setCell hBW3 (by simp; omega) _
    have HGA := Lib.hid (show GL true (W1.heap.size + 1) (W1.heap.size + 1) WA.heap.size WA 106 (.slice g3 i cap3) (ts.take i) by subst hWA; exact (HG3.out.keep znT znT).top)
    have xA0 : WA.cell? ⟨W1.heap.size, 0, none⟩ = some (.int .i64 eg) := by subst hWA; simp [go_sem, *]
    have xA1 : WA.cell? ⟨W1.heap.size, 1, none⟩ = some (.slice g3 i cap3) := by subst hWA; simp [go_sem, *]
    have xAf : ∀ o, WA.frozen? ⟨W1.heap.size, o, none⟩ = false := by subst hWA; intro o; simp [go_sem, *]
    have v1 : ¬ W1.heap.size = w.heap.size := by omega
    have v2 : ¬ W1.heap.size = w.heap.size + 1 := by omega
    have v3 : ¬ W1.heap.size = w.heap.size + 1 + 1 := by omega
    have v4 : ¬ w.heap.size = W1.heap.size := by omega
    have v5 : ¬ w.heap.size + 1 = W1.heap.size := by omega
    have v6 : ¬ w.heap.size + 1 + 1 = W1.heap.size := by omega
    have kA3 : WA.cell? ⟨w.heap.size, 3, none⟩ = some (.slice fao fr.length fcap) := by subst hWA; simp [go_sem, *]
    have kA4 : WA.cell? ⟨w.heap.size, 4, none⟩ = some (.slice tao tw.length tcap) := by subst hWA; simp [go_sem, *]
    have kAt : WA.cell? ⟨w.heap.size + 1, 1, none⟩ = some (.slice (some ⟨sb, soff, none⟩) L scap) := by subst hWA; simp [go_sem, *]
    have kAo0 : WA.cell? ⟨w.heap.size + 1 + 1, 0, none⟩ = some (.int .i64 0) := by subst hWA; simp [go_sem, *]
    have kAo1 : WA.cell? ⟨w.heap.size + 1 + 1, 1, none⟩ = some (.slice none 0 0) := by subst hWA; simp [go_sem, *]
    have kAf : ∀ o, WA.frozen? ⟨w.heap.size + 1 + 1, o, none⟩ = false := by subst hWA; intro o; simp [go_sem, *]
    clear hHeld hS3 y0 y1 yf k_r3 k_r4 k_o0 k_o1 k_f p_r3 p_r4 p_t1 p_o0 p_o1 p_f x0 x1 xf HG3
    rw [← hWA]
    clear hWA
    have lA : W1.heap.size < WA.heap.size := by omega
    clear ly
    go_wp2_with (at_builtin; refine wpList_spread_flat rfl rfl slStep (by show (0 : Nat) < 2; omega) HGA.out rfl rfl (HW.out.below hBA) (by rw [HLT1.out]; unfold maxLen; omega) (by rw [HLT1.out]; omega) (by omega) ?_)
    intro v5 w5 hG5 _ hb5
    obtain ⟨g5, cap5, rfl, -, -⟩ := hG5.len
    have HG5 := Lib.hid hG5
    clear hG5 HGA
    simp only [List.length_append, HLT1.out] at HG5 ⊢
    have z0 := oldc hb5 (by omega) xA0
    have zf : ∀ o, w5.frozen? ⟨W1.heap.size, o, none⟩ = false := fun o => (hb5.frozen (p := ⟨W1.heap.size, o, none⟩) (by show W1.heap.size < _; omega)).trans (xAf o)
    have z1 := oldc hb5 (by omega) xA1
    have m3 := oldc hb5 (by omega) kA3
    have mt := oldc hb5 (by omega) kAt
    have mo0 := oldc hb5 (by omega) kAo0
    have mo1 := oldc hb5 (by omega) kAo1
    have mf : ∀ o, w5.frozen? ⟨w.heap.size + 1 + 1, o, none⟩ = false := fun o => (hb5.frozen (p := ⟨w.heap.size + 1 + 1, o, none⟩) (by show w.heap.size + 1 + 1 < _; omega)).trans (kAf o)
    have hB5 : Below w.heap.size w w5 := hBA.trans (hb5.mono (by omega))
    have sz5 := hb5.size
    clear hb5 xA0 xA1 xAf kA3 kA4 kAt kAo0 kAo1 kAf hBW3 hBA
    obtain ⟨WB, hWB⟩ : ∃ W : World, W = w5.setCell ⟨W1.heap.size, 1, none⟩ (.slice g5 (i + tw.length) cap5) := ⟨_, rfl⟩
    have szB : WB.heap.size = w5.heap.size := by subst hWB; simp
    have hBB : Below w.heap.size w WB := by subst hWB; exact Below.setCell hB5 (by simp; omega) _
    have HGB := Lib.hid (show GL true (W1.heap.size + 1) (W1.heap.size + 1) WB.heap.size WB 106 (.slice g5 (i + tw.length) cap5) (ts.take i ++ tw) by subst hWB; exact (HG5.out.keep znT znT).top)
    have l5 : W1.heap.size < w5.heap.size := by omega
    have xB0 : WB.cell? ⟨W1.heap.size, 0, none⟩ = some (.int .i64 eg) := by subst hWB; simp [go_sem, *]
    have xB1 : WB.cell? ⟨W1.heap.size, 1, none⟩ = some (.slice g5 (i + tw.length) cap5) := by subst hWB; simp [go_sem, *]
    have xBf : ∀ o, WB.frozen? ⟨W1.heap.size, o, none⟩ = false := by subst hWB; intro o; simp [go_sem, *]
    have kB3 : WB.cell? ⟨w.heap.size, 3, none⟩ = some (.slice fao fr.length fcap) := by subst hWB; simp [go_sem, *]
    have kBt : WB.cell? ⟨w.heap.size + 1, 1, none⟩ = some (.slice (some ⟨sb, soff, none⟩) L scap) := by subst hWB; simp [go_sem, *]
    have kBo0 : WB.cell? ⟨w.heap.size + 1 + 1, 0, none⟩ = some (.int .i64 0) := by subst hWB; simp [go_sem, *]
    have kBo1 : WB.cell? ⟨w.heap.size + 1 + 1, 1, none⟩ = some (.slice none 0 0) := by subst hWB; simp [go_sem, *]
    have kBf : ∀ o, WB.frozen? ⟨w.heap.size + 1 + 1, o, none⟩ = false := by subst hWB; intro o; simp [go_sem, *]
    have HLB := Lib.hid (show (ts.take i ++ tw).length = i + tw.length by rw [List.length_append, HLT1.out])
    go_upto_region 4 with fail
    rw [← hWB]
    clear hWB z0 z1 zf m3 mt mo0 mo1 mf HG5
    have hwj : IntKind.i64.wrap (j : Int) = (j : Int) := IntWalk.i64_in _ (by omega)
    have hjL2 : (j : Int) ≤ (L : Int) := by omega
    by_cases hcj : scap = j
    ·have HD := Lib.hid (show ts.drop j = [] from List.eq_nil_of_length_eq_zero (by rw [HLT2.out]; omega))
     have hLj : L - j = 0 := by omega
     have hsj : scap - j = 0 := by omega
     refine wp_region_held_drew (S := (fun w' => w'.cell? ⟨w.heap.size, 3, none⟩ = some (.slice fao fr.length fcap) ∧ w'.cell? ⟨w.heap.size + 1, 1, none⟩ = some (.slice (some ⟨sb, soff, none⟩) L scap))) (by kernel_rfl) ?_ (fun hHeld => ?_)
     ·first | exact trivial | ((try dsimp only); go_keep)
     refine tkA 0 ?_
     try simp only [Act.put, cA, cB, cC]
     refine tkA 2 ?_
     try simp only [Act.put, cA, cB, cC]
     refine tkA 4 ?_
     try simp only [Act.put, cA, cB, cC]
     refine tkA 5 ?_
     try simp only [Act.put, cA, cB, cC]
     refine tkA 3 ?_
     try simp only [Act.put, cA, cB, cC]
     refine tkA 6 ?_
     try simp only [Act.put, cA, cB, cC]
     refine tkA 7 ?_
     try simp only [Act.put, cA, cB, cC]
     refine tkA 8 ?_
     try simp only [Act.put, cA, cB, cC]
     refine tkA 9 ?_
     try simp only [Act.put, cA, cB, cC]
     refine wpAnyH_ready (rs := [1]) (by kernel_rfl) (by simp) ?_
     refine rdR (fun K hK => ?_) ?_
     ·go_simp
      refine hK.out _ _ ?_ (fun hHeld => ?_)
      ·exact kpT
      clear hK K
      try simp only [Act.put, cA, cB, cC]
      refine wpAnyH_ready (rs := [10]) (by kernel_rfl) (by simp) ?_
      refine rdR (fun K hK => ?_) ?_
      ·refine step_spread_flat rfl rfl slStep (by show (0 : Nat) < 2; omega) HGB.out (by simp [Act.eval, Act.put]) (by first | (simp [Act.eval, Act.put]; done) | (simp [Act.eval, Act.put]; rfl)) (Rd.nilS (z := z1) (lo := lo1) (hi := hi1) (w := w) _ rfl |>.below bwT) (by rw [HLB.out, show ([] : List Stp).length = 0 from rfl]; unfold maxLen; omega) (by rw [HLB.out, show ([] : List Stp).length = 0 from rfl]; omega) (by simp; omega) ?_
       rintro v6 w6 hG6 _ hb6
       obtain ⟨g6, cap6, hv6, -, -⟩ := hG6.len
       obtain ⟨n6, hn6⟩ : ∃ n6, n6 = (ts.take i ++ tw ++ ([] : List Stp)).length := ⟨_, rfl⟩
       rw [← hn6] at hv6
       subst hv6
       clear hn6
       have hp6 : Below (W1.heap.size + 1) WB w6 := Below.trans (show Below (W1.heap.size + 1) WB _ from bwT) hb6
       have hS6 := And.intro (oldc hp6 (by omega) kB3) (oldc hp6 (by omega) kBt)
       have HG6 := Lib.hid hG6
       have n0 := oldc hp6 (by omega) xB0
       have n1 := oldc hp6 (by omega) xB1
       have nf : ∀ o, w6.frozen? ⟨W1.heap.size, o, none⟩ = false := fun o => (hp6.frozen (p := ⟨W1.heap.size, o, none⟩) (by show W1.heap.size < _; omega)).trans (xBf o)
       have no0 := oldc hp6 (by omega) kBo0
       have no1 := oldc hp6 (by omega) kBo1
       have nof : ∀ o, w6.frozen? ⟨w.heap.size + 1 + 1, o, none⟩ = false := fun o => (hp6.frozen (p := ⟨w.heap.size + 1 + 1, o, none⟩) (by show w.heap.size + 1 + 1 < _; omega)).trans (kBf o)
       have l6 : W1.heap.size < w6.heap.size := Nat.lt_of_lt_of_le (by omega) hp6.size
       have l6o : w.heap.size + 1 + 1 < w6.heap.size := Nat.lt_of_lt_of_le (by omega) hp6.size
       have hB6 : Below w.heap.size w w6 := hBB.trans (hp6.mono (by omega))
       clear hG6 hb6 hp6
       refine hK.out _ _ ?_ (fun hHeld => ?_)
       ·exact kpT
       clear hK K
       try simp only [Act.put, cA, cB, cC]
       refine tkA 11 ?_
       try simp only [Act.put, cA, cB, cC]
       refine wpAnyH_ready (rs := [12]) (by kernel_rfl) (by simp) ?_
       refine rdR (fun K hK => ?_) ?_
       ·go_simp
        refine hK.out _ _ ?_ (fun hHeld => ?_)
        ·exact kpT
        clear hK K
        try simp only [Act.put, cA, cB, cC]
        refine wpAnyH_done (by kernel_rfl) ?_ _
        clear hHeld hS6 xB0 xB1 xBf kB3 kBt kBo0 kBo1 kBf HGB
        go_wp2
        have HRES := Lib.hid (show replT ((nm, sx, pl, fr, tw) : Rul) (e, ts) i = (eg, ts.take i ++ tw ++ ([] : List Stp)) by unfold replT; dsimp only; rw [← HEG.out, ← HJ.out, HD.out])
        exact bodyPost_ret (v := .agg #[.int .i64 eg, .slice g6 n6 cap6]) (by simp [results, Tryz.results118, go_sem, n0, nf, no0, no1, nof, l6, l6o, v1, v2, v3, v4, v5, v6]) rfl ⟨_, _, rfl, by rw [HRES.out]; exact (Ow.kin_mk HEI.out ((HG6.out.ow (l0 := W1.heap.size + 1) (Nat.le_refl _) (Nat.le_refl _)).keep zmT)).top.mono (by omega) (by simp), bwT⟩
       exact AllReadyH.nil
      exact AllReadyH.nil
     exact AllReadyH.nil
    ·have HDR := Lib.hid (show Rd z1 lo1 hi1 w [.slice (some ⟨sb, soff + j * 2, none⟩) (L - j) (scap - j)] (ts.drop j) from HB.out.dropS (i := j) (by omega))
     refine wp_region_held_drew (S := (fun w' => w'.cell? ⟨w.heap.size, 3, none⟩ = some (.slice fao fr.length fcap) ∧ w'.cell? ⟨w.heap.size + 1, 1, none⟩ = some (.slice (some ⟨sb, soff, none⟩) L scap))) (by kernel_rfl) ?_ (fun hHeld => ?_)
     ·first | exact trivial | ((try dsimp only); go_keep)
     refine tkA 0 ?_
     try simp only [Act.put, cA, cB, cC]
     refine tkA 2 ?_
     try simp only [Act.put, cA, cB, cC]
     refine tkA 4 ?_
     try simp only [Act.put, cA, cB, cC]
     refine tkA 5 ?_
     try simp only [Act.put, cA, cB, cC]
     refine tkA 3 ?_
     try simp only [Act.put, cA, cB, cC]
     refine tkA 6 ?_
     try simp only [Act.put, cA, cB, cC]
     refine tkA 7 ?_
     try simp only [Act.put, cA, cB, cC]
     refine tkA 8 ?_
     try simp only [Act.put, cA, cB, cC]
     refine tkA 9 ?_
     try simp only [Act.put, cA, cB, cC]
     refine wpAnyH_ready (rs := [1]) (by kernel_rfl) (by simp) ?_
     refine rdR (fun K hK => ?_) ?_
     ·go_simp
      refine hK.out _ _ ?_ (fun hHeld => ?_)
      ·exact kpT
      clear hK K
      try simp only [Act.put, cA, cB, cC]
      refine wpAnyH_ready (rs := [10]) (by kernel_rfl) (by simp) ?_
      refine rdR (fun K hK => ?_) ?_
      ·refine step_spread_flat rfl rfl slStep (by show (0 : Nat) < 2; omega) HGB.out (by simp [Act.eval, Act.put]) (by first | (simp [Act.eval, Act.put]; done) | (simp [Act.eval, Act.put]; rfl)) (HDR.out.below bwT) (by rw [HLB.out, HLT2.out]; unfold maxLen; omega) (by rw [HLB.out, HLT2.out]; omega) (by simp; omega) ?_
       rintro v6 w6 hG6 _ hb6
       obtain ⟨g6, cap6, hv6, -, -⟩ := hG6.len
       obtain ⟨n6, hn6⟩ : ∃ n6, n6 = (ts.take i ++ tw ++ ts.drop j).length := ⟨_, rfl⟩
       rw [← hn6] at hv6
       subst hv6
       clear hn6
       have hp6 : Below (W1.heap.size + 1) WB w6 := Below.trans (show Below (W1.heap.size + 1) WB _ from bwT) hb6
       have hS6 := And.intro (oldc hp6 (by omega) kB3) (oldc hp6 (by omega) kBt)
       have HG6 := Lib.hid hG6
       have n0 := oldc hp6 (by omega) xB0
       have n1 := oldc hp6 (by omega) xB1
       have nf : ∀ o, w6.frozen? ⟨W1.heap.size, o, none⟩ = false := fun o => (hp6.frozen (p := ⟨W1.heap.size, o, none⟩) (by show W1.heap.size < _; omega)).trans (xBf o)
       have no0 := oldc hp6 (by omega) kBo0
       have no1 := oldc hp6 (by omega) kBo1
       have nof : ∀ o, w6.frozen? ⟨w.heap.size + 1 + 1, o, none⟩ = false := fun o => (hp6.frozen (p := ⟨w.heap.size + 1 + 1, o, none⟩) (by show w.heap.size + 1 + 1 < _; omega)).trans (kBf o)
       have l6 : W1.heap.size < w6.heap.size := Nat.lt_of_lt_of_le (by omega) hp6.size
       have l6o : w.heap.size + 1 + 1 < w6.heap.size := Nat.lt_of_lt_of_le (by omega) hp6.size
       have hB6 : Below w.heap.size w w6 := hBB.trans (hp6.mono (by omega))
       clear hG6 hb6 hp6
       refine hK.out _ _ ?_ (fun hHeld => ?_)
       ·exact kpT
       clear hK K
       try simp only [Act.put, cA, cB, cC]
       refine tkA 11 ?_
       try simp only [Act.put, cA, cB, cC]
       refine wpAnyH_ready (rs := [12]) (by kernel_rfl) (by simp) ?_
       refine rdR (fun K hK => ?_) ?_
       ·go_simp
        refine hK.out _ _ ?_ (fun hHeld => ?_)
        ·exact kpT
        clear hK K
        try simp only [Act.put, cA, cB, cC]
        refine wpAnyH_done (by kernel_rfl) ?_ _
        clear hHeld hS6 xB0 xB1 xBf kB3 kBt kBo0 kBo1 kBf HGB
        go_wp2
        have HRES := Lib.hid (show replT ((nm, sx, pl, fr, tw) : Rul) (e, ts) i = (eg, ts.take i ++ tw ++ ts.drop j) by unfold replT; dsimp only; rw [← HEG.out, ← HJ.out])
        exact bodyPost_ret (v := .agg #[.int .i64 eg, .slice g6 n6 cap6]) (by simp [results, Tryz.results118, go_sem, n0, nf, no0, no1, nof, l6, l6o, v1, v2, v3, v4, v5, v6]) rfl ⟨_, _, rfl, by rw [HRES.out]; exact (Ow.kin_mk HEI.out ((HG6.out.ow (l0 := W1.heap.size + 1) (Nat.le_refl _) (Nat.le_refl _)).keep zmT)).top.mono (by omega) (by simp), bwT⟩
       exact AllReadyH.nil
      exact AllReadyH.nil
     exact AllReadyH.nil
   exact AllReadyH.nil
  exact AllReadyH.nil
 exact AllReadyH.nil
set_option maxRecDepth 20000 in
set_option maxHeartbeats 16000000 in
theorem rewrS_any {z z1 : Bool} {lo hi lo1 hi1 : Nat} (w : World) (v a b : Value) (rs : List Rul) (t : Kin) (h : Rd z lo hi w [v] rs) (h' : Rd z1 lo1 hi1 w [a, b] t) (hr : allRules rs) (ht : isKin t = true) (o : Option (Kin × Nat × Nat)) (ho : o = rewr rs t) :
  Calls Tryz.prog 101 #[v, .agg #[a, b]] w (PostRw w o) := by
 obtain ⟨ao, n, cap, rfl, rfl, hnc, hcm, -⟩ := h.shape
 have HT := Lib.hid h'
 obtain ⟨rfl, hI, hb⟩ := h'.kin
 obtain ⟨e, ts⟩ := t
 dsimp only at hb hI
 obtain ⟨sao, sn, scap, rfl, hsn, hsc, hsm, -⟩ := hb.shape
 unfold maxLen at hcm hsm
 have HK := Lib.hid ht
 have HRS := Lib.hid hr
 have hs8 : ts.length ≤ 8 := (isKin_facts ht).2.1
 obtain ⟨L, hL⟩ : ∃ L, L = ts.length := ⟨_, rfl⟩
 subst hsn
 rw [← hL] at hs8 hsc HT ⊢
 have HL := Lib.hid hL
 have HO := Lib.hid ho
 have HZ := Lib.hid h
 clear h' hr ht hI hb hL ho
 obtain ⟨W0, hW0⟩ : ∃ W : World, W = (w.alloc (.cells #[.int .i64 e, .slice sao L scap] 36)).alloc (.cells #[.int .i64 0, .slice none 0 0] 36) := ⟨_, rfl⟩
 have hB0 : Below w.heap.size w W0 := by subst hW0; exact bwT
 have qt0 : W0.cell? ⟨w.heap.size, 0, none⟩ = some (.int .i64 e) := by subst hW0; simp [go_sem]
 have qt1 : W0.cell? ⟨w.heap.size, 1, none⟩ = some (.slice sao L scap) := by subst hW0; simp [go_sem]
 have qo0 : W0.cell? ⟨w.heap.size + 1, 0, none⟩ = some (.int .i64 0) := by subst hW0; simp [go_sem]
 have qo1 : W0.cell? ⟨w.heap.size + 1, 1, none⟩ = some (.slice none 0 0) := by subst hW0; simp [go_sem]
 have qf : ∀ o, W0.frozen? ⟨w.heap.size + 1, o, none⟩ = false := by subst hW0; intro o; simp [go_sem]
 have sz0 : W0.heap.size = w.heap.size + 1 + 1 := by subst hW0; simp
 go_enter Tryz.func101, Tryz.ntmps101
 go_wp2
 rw [← hW0]
 clear hW0
 go_loopw [5, 6, 7, 8, 9, 10, 14] (fun _ _ _ _ _ _ s14 wr => ∃ i : Nat, i ≤ L ∧ s14 = .int .i64 i ∧ Hid (∀ j, j < i → ruleAt rs (e, ts) j = none) ∧ Below W0.heap.size W0 wr) (fun _ _ _ _ _ _ s14 _ => L - (intOf s14).toNat)
 case atStart => exact ⟨0, Nat.zero_le _, rfl, Lib.hid (fun j hj => by omega), Below.refl _ _⟩
 case round =>
  obtain ⟨wb, hwb⟩ : ∃ wm : World, wm = wr := ⟨_, rfl⟩
  subst hwb
  obtain ⟨i, hi1, rfl, hN, hbb⟩ := hrel
  have sbb := hbb.size
  have hBb : Below w.heap.size w wb := hB0.trans (hbb.mono hB0.size)
  have pt0 := oldc hbb (by omega) qt0
  have pt1 := oldc hbb (by omega) qt1
  have po0 := oldc hbb (by omega) qo0
  have po1 := oldc hbb (by omega) qo1
  have pf : ∀ o, wb.frozen? ⟨w.heap.size + 1, o, none⟩ = false := fun o => (hbb.frozen (p := ⟨w.heap.size + 1, o, none⟩) (by show w.heap.size + 1 < _; omega)).trans (qf o)
  have lb : w.heap.size + 1 < wb.heap.size := by omega
  by_cases hli : i < L
  ·have hI : (i : Int) < (L : Int) := by omega
   go_wp2
   go_loopw [5, 6, 7, 9, 10, 19] (fun _ _ _ _ _ s19 wr => ∃ k : Nat, k ≤ rs.length ∧ s19 = .int .i64 k ∧ Hid (∀ j s, j < k → rs[j]? = some s → fitsB s (e, ts) i = false) ∧ Below wb.heap.size wb wr) (fun _ _ _ _ _ s19 _ => rs.length - (intOf s19).toNat)
   case atStart => exact ⟨0, Nat.zero_le _, rfl, Lib.hid (fun j s hj => by omega), Below.refl _ _⟩
   case round =>
    obtain ⟨wd, hwd⟩ : ∃ wm : World, wm = wr := ⟨_, rfl⟩
    subst hwd
    obtain ⟨k, hk1, rfl, hM, hcd⟩ := hrel
    have scd := hcd.size
    have hBwd : Below w.heap.size w wd := hBb.trans (hcd.mono hBb.size)
    have mt0 := oldc hcd (by omega) pt0
    have mt1 := oldc hcd (by omega) pt1
    have mo0 := oldc hcd (by omega) po0
    have mo1 := oldc hcd (by omega) po1
    have mf : ∀ o, wd.frozen? ⟨w.heap.size + 1, o, none⟩ = false := fun o => (hcd.frozen (p := ⟨w.heap.size + 1, o, none⟩) (by show w.heap.size + 1 < _; omega)).trans (pf o)
    have ld : w.heap.size + 1 < wd.heap.size := by omega
    by_cases hlk : k < rs.length
    ·have hK : (k : Int) < (rs.length : Int) := by omega
     obtain ⟨b, off, nm, sx, pl, fr, tw, vfr, vtw, rfl, hx, c0, c1, c2, c3, c4, -, -, -, hfr, htw, hri, -, -, hbl⟩ := (HZ.out.below hBwd).dRul_at hlk
     obtain ⟨fao, fn, fcap, rfl, hfn, -⟩ := hfr.shape
     obtain ⟨tao, tn, tcap, rfl, -⟩ := htw.shape
     have HX := Lib.hid hx.out
     have HRI := Lib.hid hri
     have HIR := Lib.hid (HRS.out _ (List.mem_of_getElem? hx.out))
     obtain ⟨r1, hlet_r1⟩ : ∃ r, r = fitsB (nm, sx, pl, fr, tw) (e, ts) i := ⟨_, rfl⟩
     have HF := Lib.hid hlet_r1
     clear hlet_r1
     clear hx hfr htw hri hfn
     have l_t : w.heap.size < wd.heap.size := by omega
     have l_o : w.heap.size + 1 < wd.heap.size := ld
     have q_t0 := mt0
     have q_t1 := mt1
     have q_o0 := mo0
     have q_o1 := mo1
     have f_o := mf
     clear mt0 mt1 mo0 mo1 mf
     have hwd1 : Below wd.heap.size wd wd := Below.refl _ _
     go_wp2_with fail
     refine (fitsS_b _ _ _ _ _ _ _ _ (nm, sx, pl, fr, tw) (e, ts) (HRI.out.below bwT) (HT.out.below bwT) HIR.out HK.out i (show i < ts.length by rw [← HL.out]; exact hli) r1 HF.out).mono ?_
     rintro e7 w7 ⟨rfl, hbw7⟩
     have hpw7 : Below wd.heap.size wd w7 := Below.after bwT hbw7 szT
     have sw7 := hpw7.size
     have hBw7 : Below w.heap.size w w7 := Below.trans hBwd (Below.mono hpw7 hBwd.size)
     have q_t0 := oldc hpw7 l_t q_t0
     have q_t1 := oldc hpw7 l_t q_t1
     have q_o0 := oldc hpw7 l_o q_o0
     have q_o1 := oldc hpw7 l_o q_o1
     have f_o : ∀ o, w7.frozen? ⟨w.heap.size + 1, o, none⟩ = false := fun o => (hpw7.frozen (p := ⟨w.heap.size + 1, o, none⟩) l_o).trans (f_o o)
     have l_o := Nat.lt_of_lt_of_le l_o sw7
     have l_t := Nat.lt_of_lt_of_le l_t sw7
     have l_r : wd.heap.size < w7.heap.size := by have := hbw7.size; simp at this; omega
     have q_r0 : w7.cell? ⟨wd.heap.size, 0, none⟩ = some (.string nm) := oldc hbw7 ltT (by simp [go_sem])
     have q_r1 : w7.cell? ⟨wd.heap.size, 1, none⟩ = some (.int .i64 sx) := oldc hbw7 ltT (by simp [go_sem])
     have q_r2 : w7.cell? ⟨wd.heap.size, 2, none⟩ = some (.int .i64 pl) := oldc hbw7 ltT (by simp [go_sem])
     have q_r3 : w7.cell? ⟨wd.heap.size, 3, none⟩ = some (.slice fao fn fcap) := oldc hbw7 ltT (by simp [go_sem])
     have q_r4 : w7.cell? ⟨wd.heap.size, 4, none⟩ = some (.slice tao tn tcap) := oldc hbw7 ltT (by simp [go_sem])
     have hwd1 := Below.trans hwd1 (Below.mono hpw7 (by omega))
     clear hbw7 hpw7
     clear c0 c1 c2 c3 c4
     cases r1
     ·have HM := Lib.hid (show ∀ j s, j < k + 1 → rs[j]? = some s → fitsB s (e, ts) i = false from fun j s hj hs => by
       rcases Nat.lt_succ_iff_lt_or_eq.1 hj with h1 | h1
       ·exact hM.out j s h1 hs
       ·subst h1
        rw [HX.out] at hs
        rw [← Option.some.inj hs]; exact HF.out.symm)
      clear hM HX HRI HIR HF hN
      go_wp2
      go_roundw
      case rel => exact ⟨k + 1, by omega, by go_num, HM, hcd.trans (Below.mono (show Below wd.heap.size wd _ from hwd1) scd)⟩
      case measure => simp [intOf]; omega
     have HRES := Lib.hid (show o = some (replT (nm, sx, pl, fr, tw) (e, ts) i, k, i) by rw [HO.out]; exact rewr_found (by show i < ts.length; rw [← HL.out]; exact hli) hN.out HX.out (ruleAt_found HX.out HF.out.symm hM.out))
     have HFI := Lib.hid (show i + fr.length ≤ ts.length from (fits_facts HF.out.symm).1)
     clear hN hM HO HF HX
     go_wp2_with fail
     refine (replS_any _ _ _ _ _ _ _ _ (nm, sx, pl, fr, tw) (e, ts) (HRI.out.below hwd1) (HT.out.below hBw7) HIR.out HK.out i HFI.out).mono ?_
     rintro e8 w8 ⟨ra, rb, rfl, hoR, hbw8⟩
     have hpw8 : Below w7.heap.size w7 w8 := Below.after bwT hbw8 szT
     have sw8 := hpw8.size
     have hBw8 : Below w.heap.size w w8 := Below.trans hBw7 (Below.mono hpw8 hBw7.size)
     have q_t0 := oldc hpw8 l_t q_t0
     have q_t1 := oldc hpw8 l_t q_t1
     have q_o0 := oldc hpw8 l_o q_o0
     have q_o1 := oldc hpw8 l_o q_o1
     have q_r0 := oldc hpw8 l_r q_r0
     have q_r1 := oldc hpw8 l_r q_r1
     have q_r2 := oldc hpw8 l_r q_r2
     have q_r3 := oldc hpw8 l_r q_r3
     have q_r4 := oldc hpw8 l_r q_r4
     have f_o : ∀ o, w8.frozen? ⟨w.heap.size + 1, o, none⟩ = false := fun o => (hpw8.frozen (p := ⟨w.heap.size + 1, o, none⟩) l_o).trans (f_o o)
     have l_o := Nat.lt_of_lt_of_le l_o sw8
     have l_r := Nat.lt_of_lt_of_le l_r sw8
     have l_t := Nat.lt_of_lt_of_le l_t sw8
     have hwd1 := Below.trans hwd1 (Below.mono hpw8 (by omega))
     clear hbw8 hpw8
     obtain ⟨rfl, -, hrb⟩ := hoR.rd.kin
     obtain ⟨rao, rn, rcap, rfl, -⟩ := hrb.shape
     clear hrb
     have HOW := Lib.hid hoR
     clear hoR
     go_wp2
     exact bodyPost_ret (v := .tuple #[.agg #[.int .i64 (replT (nm, sx, pl, fr, tw) (e, ts) i).1, .slice rao rn rcap], .int .i64 k, .int .i64 i, .bool true]) (by simp [results, Tryz.results101, go_sem, q_o0, q_o1, f_o, l_o]) rfl (by rw [HRES.out]; exact ⟨bwT, _, _, rfl, (HOW.out.keep zmT).top.mono (by omega) (by simp)⟩)
    ·have hK : ¬ (k : Int) < (rs.length : Int) := by omega
     have HN := Lib.hid (show ∀ j, j < i + 1 → ruleAt rs (e, ts) j = none from fun j hj => by
      rcases Nat.lt_succ_iff_lt_or_eq.1 hj with h1 | h1
      ·exact hN.out j h1
      ·subst h1
       exact ruleAt_none (fun j s _ hs => hM.out j s (by have := (List.getElem?_eq_some_iff.1 hs).1; omega) hs))
     clear hN hM
     go_wp2
     go_roundw
     case rel => exact ⟨i + 1, by omega, by go_num, HN, hbb.trans (hcd.mono sbb)⟩
     case measure => simp [intOf]; omega
  ·have hI : ¬ (i : Int) < (L : Int) := by omega
   have HRES := Lib.hid (show o = none by rw [HO.out]; exact rewr_none_of (fun j hj => hN.out j (by have : j < ts.length := hj; rw [← HL.out] at this; omega)))
   clear hN HO
   have l_o : w.heap.size + 1 < wb.heap.size := lb
   go_wp2
   exact bodyPost_ret (v := .tuple #[.agg #[.int .i64 0, .slice none 0 0], .int .i64 0, .int .i64 0, .bool false]) (by simp [results, Tryz.results101, go_sem, po0, po1, pf, l_o]) rfl (by rw [HRES.out]; exact ⟨bwT, rfl⟩)
set_option maxRecDepth 20000 in
set_option maxHeartbeats 4000000 in
theorem copyTypeS_any {z : Bool} {lo hi : Nat} (w : World) (a b : Value) (t : Kin) (h : Rd z lo hi w [a, b] t) (hl : t.2.length ≤ 1048576) : Calls Tryz.prog 100 #[.agg #[a, b]] w (PostKG w t) := by
 obtain ⟨rfl, hI, hb⟩ := h.kin
 obtain ⟨ao, n, cap, rfl, hn, hnc, hcm, hnone⟩ := hb.shape
 subst hn
 unfold maxLen at *
 have HB := Lib.hid hb
 clear h hI hnone hb
 obtain ⟨W0, hW0⟩ : ∃ W : World, W = (w.alloc (.cells #[.int .i64 t.1, .slice ao t.2.length cap] 36)).alloc (.cells #[.int .i64 0, .slice none 0 0] 36) := ⟨_, rfl⟩
 have hB0 : Below w.heap.size w W0 := by subst hW0; exact bwT
 have qt0 : W0.cell? ⟨w.heap.size, 0, none⟩ = some (.int .i64 t.1) := by subst hW0; simp [go_sem]
 have qt1 : W0.cell? ⟨w.heap.size, 1, none⟩ = some (.slice ao t.2.length cap) := by subst hW0; simp [go_sem]
 have qo0 : W0.cell? ⟨w.heap.size + 1, 0, none⟩ = some (.int .i64 0) := by subst hW0; simp [go_sem]
 have qo1 : W0.cell? ⟨w.heap.size + 1, 1, none⟩ = some (.slice none 0 0) := by subst hW0; simp [go_sem]
 have qf : ∀ o, W0.frozen? ⟨w.heap.size + 1, o, none⟩ = false := by subst hW0; intro o; simp [go_sem]
 have l0 : w.heap.size + 1 < W0.heap.size := by subst hW0; simp
 have l1 : w.heap.size < W0.heap.size := by omega
 have v1 : ¬ w.heap.size = W0.heap.size := by omega
 have v2 : ¬ W0.heap.size = w.heap.size := by omega
 have v3 : ¬ w.heap.size + 1 = W0.heap.size := by omega
 have v4 : ¬ W0.heap.size = w.heap.size + 1 := by omega
 go_enter Tryz.func100, Tryz.ntmps100
 go_upto_region 1 with fail
 rw [← hW0]
 clear hW0
 refine wp_region_held_drew (S := (fun w' => w'.cell? ⟨w.heap.size, 0, none⟩ = some (.int .i64 t.1) ∧ w'.cell? ⟨w.heap.size, 1, none⟩ = some (.slice ao t.2.length cap))) (by kernel_rfl) ?_ (fun hHeld => ?_)
 ·first | exact trivial | ((try dsimp only); go_keep)
 refine tkA 0 ?_
 try simp only [Act.put, cA, cB, cC]
 refine tkA 3 ?_
 try simp only [Act.put, cA, cB, cC]
 refine tkA 1 ?_
 try simp only [Act.put, cA, cB, cC]
 refine tkA 4 ?_
 try simp only [Act.put, cA, cB, cC]
 refine wpAnyH_ready (rs := [2]) (by kernel_rfl) (by simp) ?_
 refine rdR (fun K hK => ?_) ?_
 ·go_simp
  refine hK.out _ _ ?_ (fun hHeld => ?_)
  ·exact kpT
  clear hK K
  try simp only [Act.put, cA, cB, cC]
  refine wpAnyH_ready (rs := [5]) (by kernel_rfl) (by simp) ?_
  refine rdR (fun K hK => ?_) ?_
  ·refine step_spread_flat rfl rfl slStep (by show (0 : Nat) < 2; omega) (GL.lit0 true W0.heap.size W0.heap.size W0.drew _ (Nat.le_refl _)) (by simp [Act.eval, Act.put]) (by simp [Act.eval, Act.put]) (HB.out.below bwT) (by unfold maxLen; simp; omega) (by simp; omega) (by simp) ?_
   rintro v1 w1 hG1 _ hb1
   obtain ⟨g1, cap1, rfl, -, -⟩ := hG1.len
   have hp1 : Below W0.heap.size W0 w1 := Below.trans (show Below W0.heap.size W0 _ from bwT) hb1
   have hS1 := And.intro (oldc hp1 l1 qt0) (oldc hp1 l1 qt1)
   have HG := Lib.hid hG1
   simp only [List.nil_append] at HG
   have r0 := oldc hp1 (by omega) qo0
   have r1 := oldc hp1 (by omega) qo1
   have rf : ∀ o, w1.frozen? ⟨w.heap.size + 1, o, none⟩ = false := fun o => (hp1.frozen (p := ⟨w.heap.size + 1, o, none⟩) (by show w.heap.size + 1 < _; omega)).trans (qf o)
   have s1 := hp1.size
   have lz : w.heap.size + 1 < w1.heap.size := by omega
   have hbw1 : Below w.heap.size w w1 := hB0.trans (hp1.mono (by omega))
   refine hK.out _ _ ?_ (fun hHeld => ?_)
   ·exact kpT
   clear hK K
   try simp only [Act.put, cA, cB, cC]
   refine tkA 6 ?_
   try simp only [Act.put, cA, cB, cC]
   refine wpAnyH_ready (rs := [7]) (by kernel_rfl) (by simp) ?_
   refine rdR (fun K hK => ?_) ?_
   ·go_simp
    refine hK.out _ _ ?_ (fun hHeld => ?_)
    ·exact kpT
    clear hK K
    try simp only [Act.put, cA, cB, cC]
    refine wpAnyH_done (by kernel_rfl) ?_ _
    clear hHeld hS1 hG1 hb1
    go_wp2
    exact bodyPost_ret (v := .agg #[.int .i64 t.1, .slice g1 t.2.length cap1]) (by simp [results, Tryz.results100, go_sem, r0, r1, rf, lz]) rfl ⟨_, rfl, GL.lower ((HG.out.keep zmT zmT).top) (by omega) (by omega), bwT⟩
   exact AllReadyH.nil
  exact AllReadyH.nil
 exact AllReadyH.nil
set_option maxRecDepth 20000 in
set_option maxHeartbeats 16000000 in
theorem nfS_any {z z1 : Bool} {lo hi lo1 hi1 : Nat} (w : World) (v a b : Value) (rs : List Rul) (t : Kin) (h : Rd z lo hi w [v] rs) (h' : Rd z1 lo1 hi1 w [a, b] t) (hr : allRules rs) (ht : isKin t = true) :
  Calls Tryz.prog 58 #[v, .agg #[a, b]] w (PostOw2 w (nf rs t)) := by
 obtain ⟨ao, n, cap, rfl, rfl, hnc, hcm, -⟩ := h.shape
 unfold maxLen at hcm
 have HT := Lib.hid h'
 obtain ⟨rfl, hI, hb⟩ := h'.kin
 obtain ⟨sao, sn, scap, rfl, hsn, hsc, hsm, -⟩ := hb.shape
 unfold maxLen at hsm
 have HK := Lib.hid ht
 have HRS := Lib.hid hr
 have hs8 : t.2.length ≤ 8 := (isKin_facts ht).2.1
 have HZ := Lib.hid h
 obtain ⟨X, hX⟩ : ∃ X, X = nf rs t := ⟨_, rfl⟩
 rw [← hX]
 have HX := Lib.hid hX.symm
 clear h' hr ht hI hb hsn hX
 go_enter Tryz.func58, Tryz.ntmps58
 go_wp2_with fail
 refine (copyTypeS_any _ _ _ t (HT.out.below bwT) (by omega)).mono ?_
 rintro e9 w9 ⟨cv, rfl, hG, hbw9⟩
 have hpw9 : Below w.heap.size w w9 := Below.after bwT hbw9 szT
 have sw9 := hpw9.size
 have hBw9 : Below w.heap.size w w9 := hpw9
 have l_t : w.heap.size < w9.heap.size := by have := hbw9.size; simp at this; omega
 have q_t0 : w9.cell? ⟨w.heap.size, 0, none⟩ = some (.int .i64 t.1) := oldc hbw9 ltT (by simp [go_sem])
 have q_t1 : w9.cell? ⟨w.heap.size, 1, none⟩ = some (.slice sao sn scap) := oldc hbw9 ltT (by simp [go_sem])
 have l_o : w.heap.size + 1 < w9.heap.size := by have := hbw9.size; simp at this; omega
 have q_o0 : w9.cell? ⟨w.heap.size + 1, 0, none⟩ = some (.int .i64 0) := oldc hbw9 ltT (by simp [go_sem])
 have q_o1 : w9.cell? ⟨w.heap.size + 1, 1, none⟩ = some (.slice none 0 0) := oldc hbw9 ltT (by simp [go_sem])
 have f_o : ∀ o, w9.frozen? ⟨w.heap.size + 1, o, none⟩ = false := fun o => (hbw9.frozen (p := ⟨w.heap.size + 1, o, none⟩) ltT).trans (by simp [go_sem])
 clear hbw9 hpw9
 obtain ⟨cao, ccap, rfl, -, -⟩ := hG.len
 have hoc := hG.ow (l0 := w.heap.size + 1 + 1) (by simp) (by simp)
 clear hG
 obtain ⟨W1, hW1⟩ : ∃ W : World, W = w9 := ⟨_, rfl⟩
 subst hW1
 have hB1 : Below w.heap.size w W1 := hBw9
 obtain ⟨W2, hW2⟩ : ∃ W : World, W = W1.alloc (.cells #[.int .i64 t.1, .slice cao t.2.length ccap] 36) := ⟨_, rfl⟩
 have hB12 : Below W1.heap.size W1 W2 := by subst hW2; exact bwT
 have hB2 : Below w.heap.size w W2 := hB1.trans (hB12.mono hB1.size)
 have x0 : W2.cell? ⟨W1.heap.size, 0, none⟩ = some (.int .i64 t.1) := by subst hW2; simp [go_sem]
 have x1 : W2.cell? ⟨W1.heap.size, 1, none⟩ = some (.slice cao t.2.length ccap) := by subst hW2; simp [go_sem]
 have xf : ∀ o, W2.frozen? ⟨W1.heap.size, o, none⟩ = false := by subst hW2; intro o; simp [go_sem]
 have sz2 : W2.heap.size = W1.heap.size + 1 := by subst hW2; simp
 have p0 := oldc hB12 l_o q_o0
 have p1 := oldc hB12 l_o q_o1
 have pf : ∀ o, W2.frozen? ⟨w.heap.size + 1, o, none⟩ = false := fun o => (hB12.frozen (p := ⟨w.heap.size + 1, o, none⟩) l_o).trans (f_o o)
 have HO := Lib.hid (hoc.below hB12)
 go_wp2
 rw [← hW2]
 clear hW2 q_t0 q_t1 q_o0 q_o1 f_o hoc
 go_loopg [6, 7, 8, 9] (enc t.2 + 1) (fun g _ _ _ _ wr => ∃ (u : Kin) (uv : Value) (ul uh : Nat), enc u.2 < g ∧ Hid (isKin u = true) ∧ Hid (nf rs u = X) ∧ wr.cell? ⟨W1.heap.size, 0, none⟩ = some (.int .i64 u.1) ∧ wr.cell? ⟨W1.heap.size, 1, none⟩ = some uv ∧ (∀ o, wr.frozen? ⟨W1.heap.size, o, none⟩ = false) ∧ Hid (Ow ul uh wr [.int .i64 u.1, uv] u) ∧ (uh ≤ W1.heap.size ∨ W1.heap.size < ul) ∧ w.heap.size + 1 < ul ∧ wr.cell? ⟨w.heap.size + 1, 0, none⟩ = some (.int .i64 0) ∧ wr.cell? ⟨w.heap.size + 1, 1, none⟩ = some (.slice none 0 0) ∧ (∀ o, wr.frozen? ⟨w.heap.size + 1, o, none⟩ = false) ∧ Below w.heap.size w wr ∧ W1.heap.size < wr.heap.size)
 case atStart => exact ⟨t, _, _, _, Nat.lt_succ_self _, HK, HX, x0, x1, xf, Lib.hid (Ow.kin_mk (by have := HT.out.kin.2.1; exact this) HO.out), .inl (by omega), by omega, p0, p1, pf, hB2, by omega⟩
 case round =>
  obtain ⟨wb, hwb⟩ : ∃ wm : World, wm = wr := ⟨_, rfl⟩
  subst hwb
  obtain ⟨u, uv, ul, uh, hgu, hku, hnu, y0, y1, yf, hou, hdj, hul, r0, r1, rf, hBb, hlb⟩ := hrel
  clear x0 x1 xf p0 p1 pf HO
  have sB := hBb.size
  obtain ⟨ou, hou2⟩ : ∃ ou, ou = rewr rs u := ⟨_, rfl⟩
  obtain ⟨-, -, hus⟩ := hou.out.rd.kin
  obtain ⟨uao, un, ucap, rfl, -⟩ := hus.shape
  have HOU := Lib.hid hou2
  clear hus hou2
  go_wp2_with fail
  refine (rewrS_any _ _ _ _ rs u (HZ.out.below hBb) (hou.out.rd.below (Below.refl _ _)) HRS.out hku.out ou HOU.out).mono ?_
  rintro e5 w5 ⟨hb5, hp5⟩
  have hB5 : Below w.heap.size w w5 := Below.after hBb hb5 sB
  have s5 := hb5.size
  have y0 := oldc hb5 hlb y0
  have y1 := oldc hb5 hlb y1
  have yf : ∀ o, w5.frozen? ⟨W1.heap.size, o, none⟩ = false := fun o => (hb5.frozen (p := ⟨W1.heap.size, o, none⟩) hlb).trans (yf o)
  have r0 := oldc hb5 (by omega) r0
  have r1 := oldc hb5 (by omega) r1
  have rf : ∀ o, w5.frozen? ⟨w.heap.size + 1, o, none⟩ = false := fun o => (hb5.frozen (p := ⟨w.heap.size + 1, o, none⟩) (by show w.heap.size + 1 < _; omega)).trans (rf o)
  have hl5 := Nat.lt_of_lt_of_le hlb s5
  have lr5 : w.heap.size + 1 < w5.heap.size := by omega
  have v1 : ¬ W1.heap.size = w5.heap.size := by omega
  have v2 : ¬ w5.heap.size = W1.heap.size := by omega
  have v3 : ¬ w.heap.size + 1 = w5.heap.size := by omega
  have v4 : ¬ w5.heap.size = w.heap.size + 1 := by omega
  have v5 : ¬ W1.heap.size = w.heap.size + 1 := by omega
  have v6 : ¬ w.heap.size + 1 = W1.heap.size := by omega
  have v7 : W1.heap.size < w5.heap.size + 1 := by omega
  have v8 : w.heap.size + 1 < w5.heap.size + 1 := by omega
  rcases ou with _ | ⟨u2, k, i⟩
  ·obtain rfl := hp5
   have HOW := Lib.hid (hou.out.below hb5).top
   have HUX := Lib.hid (show u = X by rw [← hnu.out]; exact (nf_none HOU.out.symm).symm)
   clear hb5 hou hnu HOU
   go_wp2
   exact bodyPost_ret (v := .agg #[.int .i64 u.1, .slice uao un ucap]) (by simp [results, Tryz.results58, go_sem, r0, r1, rf, lr5, v1, v2, v3, v4, v5, v6, v7, v8, y0, y1]) rfl ⟨_, _, rfl, by rw [← HUX.out]; exact (HOW.out.keep zmT).top.mono (by omega) (by simp), bwT⟩
  ·obtain ⟨na, nb, rfl, hov⟩ := hp5
   obtain ⟨rfl, -, hns⟩ := hov.rd.kin
   obtain ⟨nao, nn, ncap, rfl, -⟩ := hns.shape
   have HNS := Lib.hid (rewr_some HRS.out hku.out HOU.out.symm)
   have HNX := Lib.hid (show nf rs u2 = X by rw [← hnu.out]; exact (nf_some HRS.out hku.out HOU.out.symm).symm)
   have HOV := Lib.hid hov
   have hge : enc u2.2 + 1 < gk := by obtain ⟨_, -, -, -, -, -, h6⟩ := HNS.out; omega
   have HKU := Lib.hid (show isKin u2 = true by obtain ⟨_, -, -, -, -, h5, -⟩ := HNS.out; exact h5)
   clear hb5 hns hov hou hnu HOU HNS hdj
   go_wp2
   go_roundg (enc u2.2 + 1)
   case measure => exact hge
   case rel => exact ⟨u2, _, _, _, Nat.lt_succ_self _, HKU, HNX, by simp [go_sem, *], by simp [go_sem, *], by intro o; simp [go_sem, *], Lib.hid (HOV.out.keep zmT), .inr hlb, by omega, by simp [go_sem, *], by simp [go_sem, *], by intro o; simp [go_sem, *], bwT, by simp; omega⟩
set_option maxRecDepth 20000 in
set_option maxHeartbeats 8000000 in
theorem areRulesS_b {z : Bool} {lo hi : Nat} (w : World) (v : Value) (rs : List Rul) (h : Rd z lo hi w [v] rs) (R : Bool) (hR : R = areRules rs) : Calls Tryz.prog 55 #[v] w (PostB w R) := by
 obtain ⟨ao, n, cap, rfl, rfl, hnc, hcm, -⟩ := h.shape
 unfold maxLen at hcm
 have HR := Lib.hid hR
 clear hR
 by_cases hl : rs.length ≤ 12
 rotate_left
 ·have HF := Lib.hid (show R = false by rw [HR.out]; unfold areRules; rw [decide_eq_false hl]; rfl)
  have n1 : (12 : Int) < (rs.length : Int) := by omega
  clear HR h
  go_enter Tryz.func55, Tryz.ntmps55
  go_wp2
  go_ret
  exact ⟨ret_bool HF.out.symm, Below.refl _ _⟩
 have n1 : ¬ (12 : Int) < (rs.length : Int) := by omega
 have HZ := Lib.hid h
 go_enter Tryz.func55, Tryz.ntmps55
 go_wp2
 go_loopw [3, 4, 5, 11] (fun _ _ _ s12 wr => ∃ i : Nat, i ≤ rs.length ∧ s12 = .int .i64 i ∧ Hid ((rs.take i).all isRule = true) ∧ Hid (((rs.take i).map (·.1)).Nodup) ∧ Below w.heap.size w wr) (fun _ _ _ s12 _ => rs.length - (intOf s12).toNat)
 case atStart => exact ⟨0, Nat.zero_le _, rfl, Lib.hid rfl, Lib.hid List.nodup_nil, Below.refl _ _⟩
 case round =>
  obtain ⟨wb, hwb⟩ : ∃ wm : World, wm = wr := ⟨_, rfl⟩
  subst hwb
  obtain ⟨i, hi1, rfl, hA, hN, hBwb⟩ := hrel
  have swb := hBwb.size
  by_cases hli : i < rs.length
  ·have hI : (i : Int) < (rs.length : Int) := by omega
   obtain ⟨b, off, nm, sx, pl, fr, tw, vfr, vtw, rfl, hx, c0, c1, c2, c3, c4, gnm, gsx, gpl, hfr, htw, hri, -, -, hbl⟩ := (h.below hBwb).dRul_at hli
   obtain ⟨fao, fn, fcap, rfl, -⟩ := hfr.shape
   obtain ⟨tao, tn, tcap, rfl, -⟩ := htw.shape
   have HNM := Lib.hid gnm
   have HX := Lib.hid hx.out
   have HRI := Lib.hid hri
   obtain ⟨r1, hlet_r1⟩ : ∃ r, r = isRule (nm, sx, pl, fr, tw) := ⟨_, rfl⟩
   have H1 := Lib.hid hlet_r1
   clear hlet_r1
   clear hx gnm gsx gpl hfr htw hri h
   obtain ⟨Wc, hWc⟩ : ∃ W : World, W = wb.alloc (.cells #[.string nm, .int .i64 sx, .int .i64 pl, .slice fao fn fcap, .slice tao tn tcap] 50) := ⟨_, rfl⟩
   have hbc : Below wb.heap.size wb Wc := by subst hWc; exact bwT
   have qa0 : Wc.cell? ⟨wb.heap.size, 0, none⟩ = some (.string nm) := by subst hWc; simp [go_sem]
   have qa1 : Wc.cell? ⟨wb.heap.size, 1, none⟩ = some (.int .i64 sx) := by subst hWc; simp [go_sem]
   have qa2 : Wc.cell? ⟨wb.heap.size, 2, none⟩ = some (.int .i64 pl) := by subst hWc; simp [go_sem]
   have qa3 : Wc.cell? ⟨wb.heap.size, 3, none⟩ = some (.slice fao fn fcap) := by subst hWc; simp [go_sem]
   have qa4 : Wc.cell? ⟨wb.heap.size, 4, none⟩ = some (.slice tao tn tcap) := by subst hWc; simp [go_sem]
   have szc : Wc.heap.size = wb.heap.size + 1 := by subst hWc; simp
   go_wp2
   rw [← hWc]
   clear hWc c0 c1 c2 c3 c4
   have lc : wb.heap.size < Wc.heap.size := by omega
   have hBWc : Below w.heap.size w Wc := hBwb.trans (hbc.mono swb)
   clear szc
   go_loopw [5] (fun s5 wr => ∃ k : Nat, k ≤ i ∧ s5 = .int .i64 k ∧ Hid (∀ y ∈ (rs.take k).map (·.1), y ≠ nm) ∧ Below Wc.heap.size Wc wr) (fun s5 _ => i - (intOf s5).toNat)
   case atStart => exact ⟨0, Nat.zero_le _, rfl, Lib.hid (by simp), Below.refl _ _⟩
   case round =>
    obtain ⟨wd, hwd⟩ : ∃ wm : World, wm = wr := ⟨_, rfl⟩
    subst hwd
    obtain ⟨k, hk, rfl, hD, hcd⟩ := hrel
    have scd := hcd.size
    have q0 := oldc hcd lc qa0
    have q1 := oldc hcd lc qa1
    have q2 := oldc hcd lc qa2
    have q3 := oldc hcd lc qa3
    have q4 := oldc hcd lc qa4
    have l_d := Nat.lt_of_lt_of_le lc scd
    have hBd : Below w.heap.size w wd := hBWc.trans (hcd.mono hBWc.size)
    by_cases hki : k < i
    ·have hK : (k : Int) < (i : Int) := by omega
     obtain ⟨b2, off2, nm2, sx2, pl2, fr2, tw2, vfr2, vtw2, eb, hx2, d0, -, -, -, -, -, -, -, -, -, -, -, -, hbl2⟩ := (HZ.out.below hBd).dRul_at (i := k) (show k < rs.length by omega)
     simp only [Option.some.injEq, Addr.mk.injEq, and_true] at eb
     obtain ⟨rfl, rfl⟩ := eb
     have hkl : (k : Int) < (rs.length : Int) := by omega
     by_cases he : nm2 = nm
     ·subst he
      have HF := Lib.hid (show R = false by rw [HR.out]; exact areRules_dup HX.out (by rw [List.mem_map]; exact ⟨(nm2, sx2, pl2, fr2, tw2), List.mem_of_getElem? (i := k) (show (rs.take i)[k]? = some (nm2, sx2, pl2, fr2, tw2) by rw [List.getElem?_take, if_pos hki]; exact hx2.out), rfl⟩))
      have hq : (nm2.toList == nm2.toList) = true := by simp
      clear hx2 hD HX HZ HR hA hN HRI H1
      go_wp2_with fail
      go_quiet (fail)
      go_wp2
      go_ret
      exact ⟨ret_bool HF.out.symm, bwT⟩
     ·have hq : (nm2.toList == nm.toList) = false := by rw [text_eq]; exact decide_eq_false he
      have HD2 := Lib.hid (show ∀ y ∈ (rs.take (k + 1)).map (·.1), y ≠ nm by
       rw [take_snoc hx2.out, List.map_append]
       intro y hy
       rcases List.mem_append.1 hy with hy | hy
       ·exact hD.out y hy
       ·simp at hy; subst hy; exact he)
      clear hx2 hD he
      go_wp2_with fail
      go_quiet (fail)
      go_wp2
      go_roundw
      case rel => exact ⟨k + 1, by omega, by go_num, HD2, bwT⟩
      case measure => simp [intOf]; omega
    ·obtain rfl : k = i := by omega
     have hK : ¬ (k : Int) < (k : Int) := by omega
     have HNI := Lib.hid (show nm ∉ (rs.take k).map (·.1) from fun e => hD.out nm e rfl)
     clear hD
     go_wp2_with fail
     refine (isRuleS_b _ _ _ _ _ _ (nm, sx, pl, fr, tw) (HRI.out.below ?b1) r1 H1.out).mono ?_
     case b1 => exact hbc.trans (hcd.mono hbc.size)
     rintro e w2 ⟨rfl, hb2⟩
     have hB2 : Below w.heap.size w w2 := Below.after hBd hb2 (by omega)
     clear hb2 q0 q1 q2 q3 q4
     cases r1
     ·have HF := Lib.hid (show R = false by rw [HR.out]; exact areRules_bad HX.out H1.out.symm)
      clear HR hA hN HX H1 HNI HZ HRI
      go_wp2
      go_ret
      exact ⟨ret_bool HF.out.symm, hB2⟩
     have HA := Lib.hid (take_all HX.out hA.out H1.out.symm)
     have HN := Lib.hid (take_nodup HX.out hN.out HNI.out)
     clear hA hN HX H1 HNI HRI
     go_wp2
     go_roundw
     case rel => exact ⟨k + 1, by omega, by go_num, HA, HN, hB2⟩
     case measure => simp [intOf]; omega
  ·have hI : ¬ (i : Int) < (rs.length : Int) := by omega
   have HF := Lib.hid (show R = true by rw [HR.out]; exact areRules_end (by omega) hl hA.out hN.out)
   clear HR hA hN h HZ
   go_wp2
   go_ret
   exact ⟨ret_bool HF.out.symm, hBwb⟩
end Go.Proofs.YtdpkldapobbnpaaGreatDoor
