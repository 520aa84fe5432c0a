/- Contracts: l3Back, ReverseType (spec). Written by rv_gen.py. -/
import Derived.Test.YtnfgdkbapffjcaaRvI
namespace Go.Proofs.Ytnfgdkbapffjcaa
set_option linter.unusedVariables false
set_option linter.unusedSimpArgs false
open Go.RowKit

theorem GL.lone {α : Type} [FlatRep α] {w' : World} (nd : Bool) (K : Nat) (w : World) (E : TypeId) (cs : List Value) (x : α) (hr : Rep.rep nd w' cs x []) (hK : K ≤ w.heap.size) : GL nd K K (w.heap.size + 1) (w.alloc (.cells cs.toArray E)) E (.slice (some ⟨w.heap.size, 0, none⟩) 1 1) [x] :=
  ⟨[cs], [[]], ⟨by simp [Rep.len hr], .inr ⟨w.heap.size, 1, cs.toArray, rfl, hK, heap_alloc_new w _, Nat.le_refl _, by simp [maxLen], by simp [Rep.len hr], by simp [← Rep.len hr]⟩⟩, ⟨(FlatRep.flat hr).2 _ _, trivial⟩, by simp, by simp [Value.ownBlock], fun _ => by simp⟩
set_option maxRecDepth 20000 in
set_option maxHeartbeats 8000000 in
theorem backS_any (w : World) (ki ag sex : Int) (hk : 1 ≤ ki ∧ ki ≤ 8) (ha : 0 ≤ ag ∧ ag ≤ 2) (hs : sex = 1 ∨ sex = 2) (R : Stp) (hR : R = backSt (ki, ag) sex) :
    Calls Try.prog 88 #[.agg #[.int .i64 ki, .int .i64 ag], .int .i64 sex] w (PostV w (.agg #[.int .i64 R.1, .int .i64 R.2])) := by
  obtain ⟨r1, r2⟩ := R
  rcases kin8 hk with rfl | rfl | rfl | rfl | rfl | rfl | rfl | rfl
  · rcases hs with rfl | rfl
    · simp [backSt] at hR
      obtain ⟨rfl, rfl⟩ := hR
      go_enter Try.func88, Try.ntmps88
      go_wp2
      exact bodyPost_ret (v := .agg #[.int .i64 5, .int .i64 0]) (by simp [results, Try.results88, go_sem]) rfl ⟨rfl, bwT⟩
    · simp [backSt] at hR
      obtain ⟨rfl, rfl⟩ := hR
      go_enter Try.func88, Try.ntmps88
      go_wp2
      exact bodyPost_ret (v := .agg #[.int .i64 6, .int .i64 0]) (by simp [results, Try.results88, go_sem]) rfl ⟨rfl, bwT⟩
  · rcases hs with rfl | rfl
    · simp [backSt] at hR
      obtain ⟨rfl, rfl⟩ := hR
      go_enter Try.func88, Try.ntmps88
      go_wp2
      exact bodyPost_ret (v := .agg #[.int .i64 5, .int .i64 0]) (by simp [results, Try.results88, go_sem]) rfl ⟨rfl, bwT⟩
    · simp [backSt] at hR
      obtain ⟨rfl, rfl⟩ := hR
      go_enter Try.func88, Try.ntmps88
      go_wp2
      exact bodyPost_ret (v := .agg #[.int .i64 6, .int .i64 0]) (by simp [results, Try.results88, go_sem]) rfl ⟨rfl, bwT⟩
  · rcases hs with rfl | rfl
    · rcases age3 ha with rfl | rfl | rfl
      · simp [backSt] at hR
        obtain ⟨rfl, rfl⟩ := hR
        go_enter Try.func88, Try.ntmps88
        go_wp2
        exact bodyPost_ret (v := .agg #[.int .i64 3, .int .i64 0]) (by simp [results, Try.results88, go_sem]) rfl ⟨rfl, bwT⟩
      · simp [backSt] at hR
        obtain ⟨rfl, rfl⟩ := hR
        go_enter Try.func88, Try.ntmps88
        go_wp2
        exact bodyPost_ret (v := .agg #[.int .i64 3, .int .i64 2]) (by simp [results, Try.results88, go_sem]) rfl ⟨rfl, bwT⟩
      · simp [backSt] at hR
        obtain ⟨rfl, rfl⟩ := hR
        go_enter Try.func88, Try.ntmps88
        go_wp2
        exact bodyPost_ret (v := .agg #[.int .i64 3, .int .i64 1]) (by simp [results, Try.results88, go_sem]) rfl ⟨rfl, bwT⟩
    · rcases age3 ha with rfl | rfl | rfl
      · simp [backSt] at hR
        obtain ⟨rfl, rfl⟩ := hR
        go_enter Try.func88, Try.ntmps88
        go_wp2
        exact bodyPost_ret (v := .agg #[.int .i64 4, .int .i64 0]) (by simp [results, Try.results88, go_sem]) rfl ⟨rfl, bwT⟩
      · simp [backSt] at hR
        obtain ⟨rfl, rfl⟩ := hR
        go_enter Try.func88, Try.ntmps88
        go_wp2
        exact bodyPost_ret (v := .agg #[.int .i64 4, .int .i64 2]) (by simp [results, Try.results88, go_sem]) rfl ⟨rfl, bwT⟩
      · simp [backSt] at hR
        obtain ⟨rfl, rfl⟩ := hR
        go_enter Try.func88, Try.ntmps88
        go_wp2
        exact bodyPost_ret (v := .agg #[.int .i64 4, .int .i64 1]) (by simp [results, Try.results88, go_sem]) rfl ⟨rfl, bwT⟩
  · rcases hs with rfl | rfl
    · rcases age3 ha with rfl | rfl | rfl
      · simp [backSt] at hR
        obtain ⟨rfl, rfl⟩ := hR
        go_enter Try.func88, Try.ntmps88
        go_wp2
        exact bodyPost_ret (v := .agg #[.int .i64 3, .int .i64 0]) (by simp [results, Try.results88, go_sem]) rfl ⟨rfl, bwT⟩
      · simp [backSt] at hR
        obtain ⟨rfl, rfl⟩ := hR
        go_enter Try.func88, Try.ntmps88
        go_wp2
        exact bodyPost_ret (v := .agg #[.int .i64 3, .int .i64 2]) (by simp [results, Try.results88, go_sem]) rfl ⟨rfl, bwT⟩
      · simp [backSt] at hR
        obtain ⟨rfl, rfl⟩ := hR
        go_enter Try.func88, Try.ntmps88
        go_wp2
        exact bodyPost_ret (v := .agg #[.int .i64 3, .int .i64 1]) (by simp [results, Try.results88, go_sem]) rfl ⟨rfl, bwT⟩
    · rcases age3 ha with rfl | rfl | rfl
      · simp [backSt] at hR
        obtain ⟨rfl, rfl⟩ := hR
        go_enter Try.func88, Try.ntmps88
        go_wp2
        exact bodyPost_ret (v := .agg #[.int .i64 4, .int .i64 0]) (by simp [results, Try.results88, go_sem]) rfl ⟨rfl, bwT⟩
      · simp [backSt] at hR
        obtain ⟨rfl, rfl⟩ := hR
        go_enter Try.func88, Try.ntmps88
        go_wp2
        exact bodyPost_ret (v := .agg #[.int .i64 4, .int .i64 2]) (by simp [results, Try.results88, go_sem]) rfl ⟨rfl, bwT⟩
      · simp [backSt] at hR
        obtain ⟨rfl, rfl⟩ := hR
        go_enter Try.func88, Try.ntmps88
        go_wp2
        exact bodyPost_ret (v := .agg #[.int .i64 4, .int .i64 1]) (by simp [results, Try.results88, go_sem]) rfl ⟨rfl, bwT⟩
  · rcases hs with rfl | rfl
    · simp [backSt] at hR
      obtain ⟨rfl, rfl⟩ := hR
      go_enter Try.func88, Try.ntmps88
      go_wp2
      exact bodyPost_ret (v := .agg #[.int .i64 1, .int .i64 0]) (by simp [results, Try.results88, go_sem]) rfl ⟨rfl, bwT⟩
    · simp [backSt] at hR
      obtain ⟨rfl, rfl⟩ := hR
      go_enter Try.func88, Try.ntmps88
      go_wp2
      exact bodyPost_ret (v := .agg #[.int .i64 2, .int .i64 0]) (by simp [results, Try.results88, go_sem]) rfl ⟨rfl, bwT⟩
  · rcases hs with rfl | rfl
    · simp [backSt] at hR
      obtain ⟨rfl, rfl⟩ := hR
      go_enter Try.func88, Try.ntmps88
      go_wp2
      exact bodyPost_ret (v := .agg #[.int .i64 1, .int .i64 0]) (by simp [results, Try.results88, go_sem]) rfl ⟨rfl, bwT⟩
    · simp [backSt] at hR
      obtain ⟨rfl, rfl⟩ := hR
      go_enter Try.func88, Try.ntmps88
      go_wp2
      exact bodyPost_ret (v := .agg #[.int .i64 2, .int .i64 0]) (by simp [results, Try.results88, go_sem]) rfl ⟨rfl, bwT⟩
  · rcases hs with rfl | rfl
    · simp [backSt] at hR
      obtain ⟨rfl, rfl⟩ := hR
      go_enter Try.func88, Try.ntmps88
      go_wp2
      exact bodyPost_ret (v := .agg #[.int .i64 8, .int .i64 0]) (by simp [results, Try.results88, go_sem]) rfl ⟨rfl, bwT⟩
    · simp [backSt] at hR
      obtain ⟨rfl, rfl⟩ := hR
      go_enter Try.func88, Try.ntmps88
      go_wp2
      exact bodyPost_ret (v := .agg #[.int .i64 8, .int .i64 0]) (by simp [results, Try.results88, go_sem]) rfl ⟨rfl, bwT⟩
  · rcases hs with rfl | rfl
    · simp [backSt] at hR
      obtain ⟨rfl, rfl⟩ := hR
      go_enter Try.func88, Try.ntmps88
      go_wp2
      exact bodyPost_ret (v := .agg #[.int .i64 7, .int .i64 0]) (by simp [results, Try.results88, go_sem]) rfl ⟨rfl, bwT⟩
    · simp [backSt] at hR
      obtain ⟨rfl, rfl⟩ := hR
      go_enter Try.func88, Try.ntmps88
      go_wp2
      exact bodyPost_ret (v := .agg #[.int .i64 7, .int .i64 0]) (by simp [results, Try.results88, go_sem]) rfl ⟨rfl, bwT⟩
set_option maxRecDepth 20000 in
set_option maxHeartbeats 8000000 in
theorem reverseS_any {z : Bool} {lo hi : Nat} (w : World) (a b : Value) (t : Kin) (h : Rd z lo hi w [a, b] t) : Calls Try.prog 47 #[.agg #[a, b]] w (PostKB w (revX t) (revV t)) := by
  obtain ⟨V, hV⟩ : ∃ V, V = revV t := ⟨_, rfl⟩
  obtain ⟨X, hX⟩ : ∃ X, X = revX t := ⟨_, rfl⟩
  rw [← hV, ← hX]
  have HV := Lib.hid hV
  have HX := Lib.hid (show X = if V = true then revK t else (0, []) by rw [hX, hV]; rfl)
  clear hV hX
  have HT := Lib.hid h
  obtain ⟨rfl, hti, hb⟩ := h.kin
  obtain ⟨sao, sn, scap, rfl, hsn, hsc, hsm, -⟩ := hb.shape
  subst hsn
  unfold maxLen at hsm
  have HB := Lib.hid hb
  obtain ⟨r1, hlet_r1⟩ : ∃ r, r = isKin t := ⟨_, rfl⟩
  have H1 := Lib.hid hlet_r1
  clear hlet_r1
  clear h hb
  go_enter Try.func47, Try.ntmps47
  have HE := Lib.hid (show revV t = (isKin t && decide (t.2 = [] ∨ egoOf t ≠ 0)) from rfl)
  go_upto_region 1 with fail
  go_cut [22] (fun s22 wx => s22 = .bool (!V) ∧ wx.cell? ⟨w.heap.size, 0, none⟩ = some (.int .i64 t.1) ∧ wx.cell? ⟨w.heap.size, 1, none⟩ = some (.slice sao t.2.length scap) ∧ wx.cell? ⟨w.heap.size + 1, 0, none⟩ = some (.int .i64 0) ∧ wx.cell? ⟨w.heap.size + 1, 1, none⟩ = some (.slice none 0 0) ∧ (∀ o, wx.frozen? ⟨w.heap.size + 1, o, none⟩ = false) ∧ w.heap.size + 1 < wx.heap.size ∧ Below w.heap.size w wx)
  case first =>
    go_wp2_with fail
    refine (isTypeS_b _ _ _ t (HT.out.below bwT) r1 H1.out).mono ?_
    rintro e1 w1 ⟨rfl, hbw1⟩
    have hpw1 : Below w.heap.size w w1 := Below.after bwT hbw1 szT
    have sw1 := hpw1.size
    have hBw1 : Below w.heap.size w w1 := hpw1
    have l_t : w.heap.size < w1.heap.size := by have := hbw1.size; simp at this; omega
    have q_t0 : w1.cell? ⟨w.heap.size, 0, none⟩ = some (.int .i64 t.1) := oldc hbw1 ltT (by simp [go_sem])
    have q_t1 : w1.cell? ⟨w.heap.size, 1, none⟩ = some (.slice sao t.2.length scap) := oldc hbw1 ltT (by simp [go_sem])
    have l_r : w.heap.size + 1 < w1.heap.size := by have := hbw1.size; simp at this; omega
    have q_r0 : w1.cell? ⟨w.heap.size + 1, 0, none⟩ = some (.int .i64 0) := oldc hbw1 ltT (by simp [go_sem])
    have q_r1 : w1.cell? ⟨w.heap.size + 1, 1, none⟩ = some (.slice none 0 0) := oldc hbw1 ltT (by simp [go_sem])
    have f_r : ∀ o, w1.frozen? ⟨w.heap.size + 1, o, none⟩ = false := fun o => (hbw1.frozen (p := ⟨w.heap.size + 1, o, none⟩) ltT).trans (by simp [go_sem])
    clear hbw1 hpw1
    cases r1
    · obtain rfl : V = false := by rw [HV.out, HE.out, ← H1.out]; rfl
      clear HV HE H1 HX
      go_wp2
      go_meet
      exact ⟨rfl, q_t0, q_t1, q_r0, q_r1, f_r, l_r, hBw1⟩
    by_cases hl : t.2.length = 0
    · have hn : ¬ (0 : Int) < (t.2.length : Int) := by omega
      obtain rfl : V = true := by rw [HV.out, HE.out, ← H1.out, decide_eq_true (.inl (List.eq_nil_of_length_eq_zero hl))]; rfl
      clear HV HE H1 HX hl
      go_wp2
      go_meet
      exact ⟨rfl, q_t0, q_t1, q_r0, q_r1, f_r, l_r, hBw1⟩
    have hn : (0 : Int) < (t.2.length : Int) := by omega
    have HNE := Lib.hid (show ¬ t.2 = [] from fun e => hl (by rw [e]; rfl))
    obtain ⟨e, hlet_e⟩ : ∃ r, r = egoOf t := ⟨_, rfl⟩
    have HEG := Lib.hid hlet_e
    clear hlet_e
    clear hl
    go_wp2_with fail
    refine (egoS_any _ _ _ t (HT.out.below bwT) e HEG.out).mono ?_
    rintro e2 w2 ⟨rfl, hbw2⟩
    have hpw2 : Below w1.heap.size w1 w2 := Below.after bwT hbw2 szT
    have sw2 := hpw2.size
    have hBw2 : Below w.heap.size w w2 := Below.trans hBw1 (Below.mono hpw2 hBw1.size)
    have q_t0 := oldc hpw2 l_t q_t0
    have q_t1 := oldc hpw2 l_t q_t1
    have q_r0 := oldc hpw2 l_r q_r0
    have q_r1 := oldc hpw2 l_r q_r1
    have f_r : ∀ o, w2.frozen? ⟨w.heap.size + 1, o, none⟩ = false := fun o => (hpw2.frozen (p := ⟨w.heap.size + 1, o, none⟩) l_r).trans (f_r o)
    have l_r := Nat.lt_of_lt_of_le l_r sw2
    have l_t := Nat.lt_of_lt_of_le l_t sw2
    clear hbw2 hpw2
    by_cases h0 : e = 0
    · have h0' : (e == 0) = true := by simp [h0]
      obtain rfl : V = false := by rw [HV.out, HE.out, ← H1.out, ← HEG.out, decide_eq_false (by simp [HNE.out, h0])]; rfl
      clear HV HE H1 HX HEG HNE h0
      go_wp2
      go_meet
      exact ⟨rfl, q_t0, q_t1, q_r0, q_r1, f_r, l_r, hBw2⟩
    · have h0' : (e == 0) = false := by simp [h0]
      obtain rfl : V = true := by rw [HV.out, HE.out, ← H1.out, ← HEG.out, decide_eq_true (.inr h0)]; rfl
      clear HV HE H1 HX HEG HNE h0
      go_wp2
      go_meet
      exact ⟨rfl, q_t0, q_t1, q_r0, q_r1, f_r, l_r, hBw2⟩
  case rest =>
    obtain ⟨rfl, q_t0, q_t1, q_r0, q_r1, f_r, l_r, hB1⟩ := hcut
    obtain ⟨W1, hW1⟩ : ∃ W : World, W = wc := ⟨_, rfl⟩
    subst hW1
    have s1 := hB1.size
    cases V
    · obtain rfl : X = (0, []) := HX.out
      clear HV HX HE H1
      go_wp2
      exact bodyPost_ret (v := .tuple #[.agg #[.int .i64 0, .slice none 0 0], .bool false]) (by simp [results, Try.results47, go_sem, *]) rfl ⟨_, rfl, Ow.kin_mk (by unfold I64; omega) (Ow.nil _ _ _), bwT⟩
    have hVf := HE.out
    rw [← HV.out] at hVf
    have HKN := Lib.hid (show isKin t = true by have := hVf.symm; simp only [Bool.and_eq_true] at this; exact this.1)
    have hK := isKin_facts HKN.out
    have hk8 : t.2.length ≤ 8 := hK.2.1
    have HKM := Lib.hid hK.2.2.2
    have heg : egoOf t = 1 ∨ egoOf t = 2 ∨ t.2 = [] := by
      have hE := HE.out.symm
      rw [← HV.out] at hE
      simp only [Bool.and_eq_true, decide_eq_true_eq] at hE
      have h3 := egoOf_in HKN.out
      rcases hE.2 with e | e
      · exact .inr (.inr e)
      · omega
    have HEG := Lib.hid heg
    obtain ⟨sx, hlet_sx⟩ : ∃ r, r = sexOf t := ⟨_, rfl⟩
    have HS := Lib.hid hlet_sx
    clear hlet_sx
    obtain ⟨BL, hlet_BL⟩ : ∃ r, r = backs (egoOf t) t.2 := ⟨_, rfl⟩
    have HBL := Lib.hid hlet_BL
    clear hlet_BL
    have hBLl : BL.length = t.2.length := by rw [HBL.out]; exact backs_len _ _
    have HLN := Lib.hid hBLl
    obtain rfl : X = (sx, BL.reverse) := by rw [HX.out, HS.out, HBL.out]; rfl
    have hsx : sx = 0 ∨ sx = 1 ∨ sx = 2 := by
      rw [HS.out]; unfold sexOf
      have := hK.1
      split
      · rename_i x _; rcases stSex_in x.1 with e | e <;> rw [e] <;> simp
      · omega
    clear heg hVf HV HE H1 HX hK hBLl
    go_wp2_with fail
    refine (lastS_any _ _ _ t (HT.out.below hB1) HKN.out sx HS.out).mono ?_
    rintro e2 w2 ⟨rfl, hb2⟩
    have s2 := hb2.size
    have hB2 : Below w.heap.size w w2 := hB1.trans (hb2.mono s1)
    have l_r2 : w.heap.size + 1 < w2.heap.size := by omega
    have l_t2 : w.heap.size < w2.heap.size := by omega
    have t0 := oldc hb2 (by omega) q_t0
    have t1 := oldc hb2 (by omega) q_t1
    have r0 := oldc hb2 l_r q_r0
    have r1' := oldc hb2 l_r q_r1
    have rf : ∀ o, w2.frozen? ⟨w.heap.size + 1, o, none⟩ = false := fun o => (hb2.frozen (p := ⟨w.heap.size + 1, o, none⟩) l_r).trans (f_r o)
    clear q_t0 q_t1 q_r0 q_r1 f_r l_r hb2 hB1 s1 s2
    obtain ⟨e0, hlet_e0⟩ : ∃ r, r = egoOf t := ⟨_, rfl⟩
    have HE0 := Lib.hid hlet_e0
    clear hlet_e0
    go_wp2_with fail
    refine (egoS_any _ _ _ t (HT.out.below ?b1) e0 HE0.out).mono ?_
    case b1 => exact bwT
    rintro e3 w3 ⟨rfl, hb3⟩
    have s3 := hb3.size
    simp only [World.size_alloc] at s3
    have hb23 : Below w2.heap.size w2 w3 := Below.trans (show Below w2.heap.size w2 _ from bwT) (hb3.mono szT)
    have g0 : w3.cell? ⟨w2.heap.size, 0, none⟩ = some (.int .i64 sx) := oldc hb3 ltT (by simp [go_sem])
    have g1 : w3.cell? ⟨w2.heap.size, 1, none⟩ = some (.slice none 0 0) := oldc hb3 ltT (by simp [go_sem])
    have gf : ∀ o, w3.frozen? ⟨w2.heap.size, o, none⟩ = false := fun o => (hb3.frozen (p := ⟨w2.heap.size, o, none⟩) ltT).trans (by simp [go_sem])
    have lg : w2.heap.size < w3.heap.size := by omega
    have t0 := oldc hb23 l_t2 t0
    have t1 := oldc hb23 l_t2 t1
    have r0 := oldc hb23 l_r2 r0
    have r1' := oldc hb23 l_r2 r1'
    have rf : ∀ o, w3.frozen? ⟨w.heap.size + 1, o, none⟩ = false := fun o => (hb23.frozen (p := ⟨w.heap.size + 1, o, none⟩) l_r2).trans (rf o)
    have hB3 : Below w.heap.size w w3 := hB2.trans (hb23.mono (by omega))
    have l_t3 : w.heap.size < w3.heap.size := by omega
    have l_r3 : w.heap.size + 1 < w3.heap.size := by omega
    clear hb3 hb23
    go_wp2
    go_loopw [5, 6, 8, 33] (fun s5 s6 _ s33 wr => ∃ (i : Nat) (q : Int), i ≤ t.2.length ∧ s33 = .int .i64 i ∧ s5 = .int .i64 q ∧ Hid (q = sexAt t i) ∧ Hid (GL true w3.heap.size w3.heap.size wr.heap.size wr 110 s6 (BL.take i).reverse) ∧ Below w3.heap.size w3 wr) (fun _ _ _ s33 _ => t.2.length - (intOf s33).toNat)
    case atStart => exact ⟨0, _, Nat.zero_le _, rfl, rfl, HE0, Lib.hid ((GL.lit0 true _ _ _ _ (Nat.le_refl _)).top), bwT⟩
    case round =>
      obtain ⟨wb, hwb⟩ : ∃ wm : World, wm = wr := ⟨_, rfl⟩
      subst hwb
      obtain ⟨i, q, hi, rfl, rfl, HQ, hG, hbb⟩ := hrel
      have sB := hbb.size
      have hBb : Below w.heap.size w wb := hB3.trans (hbb.mono (by omega))
      obtain ⟨ao, cap, rfl, -, -⟩ := hG.out.len
      obtain ⟨nl, hnl⟩ : ∃ nl, nl = (BL.take i).reverse.length := ⟨_, rfl⟩
      rw [← hnl] at hG ⊢
      clear hnl
      by_cases hi0 : i < t.2.length
      · have hmi : (i : Int) < (t.2.length : Int) := by omega
        obtain ⟨sb, soff, ki, ag, rfl, hx, c0, c1, -, -, -, -, sbl, -⟩ := HB.out.stp_at (i := i) hi0
        have hka := HKM.out _ (List.mem_of_getElem? hx.out)
        dsimp only at hka
        have k0 := oldc hBb sbl c0
        have k1 := oldc hBb sbl c1
        obtain ⟨z1, z2, HRS⟩ : ∃ z1 z2 : Int, Hid ((z1, z2) = backSt (ki, ag) q) := ⟨_, _, Lib.hid rfl⟩
        have hz : (1 ≤ z1 ∧ z1 ≤ 8) ∧ (0 ≤ z2 ∧ z2 ≤ 2) := by
          have := backSt_in (s := (ki, ag)) (sex := q) hka.2
          rw [← HRS.out] at this; exact this
        have hq12 : q = 1 ∨ q = 2 := by
          rw [HQ.out]
          cases i with
          | zero => rcases HEG.out with e | e | e; exact .inl e; exact .inr e; rw [e] at hi0; simp at hi0
          | succ k =>
            have hk : t.2[k]? = some t.2[k] := List.getElem?_eq_getElem (by omega)
            show sexAt t (k + 1) = 1 ∨ sexAt t (k + 1) = 2
            rw [sexAt_succ hk]; exact stSex_in _
        have HQ1 := Lib.hid (show stSex ki = sexAt t (i + 1) from (sexAt_succ hx.out).symm)
        have HNX := Lib.hid (show [(z1, z2)] ++ (BL.take i).reverse = (BL.take (i + 1)).reverse from (take_rev (by rw [HBL.out, HRS.out, HQ.out]; exact revK_at hx.out)).symm)
        have hln : (BL.take i).reverse.length ≤ 8 := by rw [List.length_reverse, List.length_take]; omega
        obtain ⟨LB, hLB⟩ : ∃ L, L = (BL.take i).reverse := ⟨_, rfl⟩
        rw [← hLB] at hG HNX hln
        clear hx c0 c1 hLB HQ
        go_wp2_with fail
        refine (backS_any _ ki ag q hka.1 hka.2 hq12 (z1, z2) HRS.out).mono ?_
        rintro e4 w4 ⟨rfl, hb4⟩
        have s4 := hb4.size
        simp only [World.size_alloc] at s4
        have hb24 : Below wb.heap.size wb w4 := Below.trans (show Below wb.heap.size wb _ from bwT) (hb4.mono szT)
        have b0 : w4.cell? ⟨wb.heap.size, 0, none⟩ = some (.int .i64 ki) := oldc hb4 ltT (by simp [go_sem])
        have lb4 : wb.heap.size < w4.heap.size := by omega
        have hG4 := Lib.hid ((hG.out.below hb24).rd (l0 := 0) (Nat.zero_le _) (Nat.zero_le _))
        have hLn := Lib.hid (GL.lone (α := Stp) true w4.heap.size w4 110 [.int .i64 z1, .int .i64 z2] (z1, z2) (w' := w4) ⟨[_], [_], [], [], rfl, rfl, ⟨rfl, ⟨by omega, by omega⟩, rfl⟩, ⟨rfl, ⟨by omega, by omega⟩, rfl⟩⟩ (Nat.le_refl _))
        clear hb4 hG
        go_wp2_with (at_builtin; refine wpList_spread_flat rfl rfl slStep (by show (0 : Nat) < 2; omega) hLn.out rfl rfl (hG4.out.below bwT) (by simp; unfold maxLen; omega) (by simp; omega) (by simp) ?_)
        rintro v5 w5 hG5 hg5 hb5
        have hN5 := Lib.hid (show GL true w3.heap.size w3.heap.size w5.heap.size w5 110 v5 (BL.take (i + 1)).reverse by rw [← HNX.out]; exact hG5.lower (by omega) (by omega))
        have hb35 : Below w3.heap.size w3 w5 := Below.trans (show Below w3.heap.size w3 _ from (hbb.trans (hb24.mono sB)).alloc (by omega) _) (hb5.mono (by omega))
        have b05 := oldc hb5 lb4 (show (w4.alloc (.cells #[.int .i64 z1, .int .i64 z2] 110)).cell? ⟨wb.heap.size, 0, none⟩ = some (.int .i64 ki) from by simp [go_sem, *])
        clear hG5 hg5 hb5 hG4 hLn HNX HRS b0
        go_wp2_with fail
        refine (stepSexS_any _ ki hka.1).mono ?_
        rintro e6 w6 ⟨rfl, hb6⟩
        have hN6 := Lib.hid (hN5.out.below hb6).top
        have hb36 : Below w3.heap.size w3 w6 := hb35.trans (hb6.mono hb35.size)
        rw [HQ1.out]
        clear hb6 hN5 b05
        go_wp2
        go_roundw
        case rel => exact ⟨i + 1, _, by omega, by go_num, rfl, Lib.hid rfl, hN6, hb36⟩
        case measure => simp [intOf]; omega
      · obtain rfl : i = t.2.length := by omega
        have nI : ¬ (t.2.length : Int) < (t.2.length : Int) := by omega
        have hGL := hG.out
        rw [List.take_of_length_le (by rw [HLN.out]; exact Nat.le_refl _)] at hGL
        have HW := Lib.hid (hGL.ow (l0 := w3.heap.size) (Nat.le_refl _) (Nat.le_refl _))
        have g0 := oldc hbb lg g0
        have g1 := oldc hbb lg g1
        have gf : ∀ o, wb.frozen? ⟨w2.heap.size, o, none⟩ = false := fun o => (hbb.frozen (p := ⟨w2.heap.size, o, none⟩) lg).trans (gf o)
        have y0 := oldc hbb l_r3 r0
        have y1 := oldc hbb l_r3 r1'
        have yf : ∀ o, wb.frozen? ⟨w.heap.size + 1, o, none⟩ = false := fun o => (hbb.frozen (p := ⟨w.heap.size + 1, o, none⟩) l_r3).trans (rf o)
        have lgb : w2.heap.size < wb.heap.size := by omega
        have lrb : w.heap.size + 1 < wb.heap.size := by omega
        have hne1 : ¬ w2.heap.size = w.heap.size + 1 := by omega
        have hne2 : ¬ w.heap.size + 1 = w2.heap.size := by omega
        have HI := Lib.hid (show I64 sx by unfold I64; omega)
        clear hG hGL hi HQ
        go_wp2
        exact bodyPost_ret (v := .tuple #[.agg #[.int .i64 sx, .slice ao nl cap], .bool true]) (by simp [results, Try.results47, go_sem, *]) rfl ⟨_, rfl, (Ow.kin_mk HI.out (HW.out.keep zmT)).top.mono (by omega) (Nat.le_refl _), bwT⟩

end Go.Proofs.Ytnfgdkbapffjcaa
