/- Contract of PermutePeople (spec). Written by prm_gen3.py. -/
import Derived.Test.YtomigopkejlmcaaPrm2
namespace Go.Proofs.Ytomigopkejlmcaa
set_option linter.unusedVariables false
set_option linter.unusedSimpArgs false
open Go.RowKit

set_option maxRecDepth 20000 in
set_option maxHeartbeats 8000000 in
theorem permuteS_any {z z' : Bool} {lo hi lo' hi' : Nat} (w : World) (v v2 v3 : Value) (f : Fam) (xs : List Int) (h : Rd z lo hi w [v, v2] f) (h' : Rd z' lo' hi' w [v3] xs) (hxl0 : xs.length ≤ 1048576) (hfl0 : f.1.length ≤ 1048576) (V : Bool) (hV : V = permV f xs) :
    Calls Try.prog 42 #[.agg #[v, v2], v3] w (PostOw2B w (permX f xs) V) := by
  obtain ⟨ha, hb⟩ := h.fam
  obtain ⟨ao, n, cap, rfl, hn, hnc, hcm, hnone⟩ := ha.shape
  obtain ⟨ao2, n2, cap2, rfl, hn2, hnc2, hcm2, hnone2⟩ := hb.shape
  subst hn hn2
  obtain ⟨go, n5, gap, rfl, hn5, hnc5, hcm5, hnone5⟩ := h'.shape
  subst hn5
  unfold maxLen at *
  obtain ⟨r1, hlet_r1⟩ : ∃ r, r = famB f := ⟨_, rfl⟩
  have H1 := Lib.hid hlet_r1
  clear hlet_r1
  obtain ⟨r3, hlet_r3⟩ : ∃ r, r = famB (ordF f xs) := ⟨_, rfl⟩
  have H3 := Lib.hid hlet_r3
  clear hlet_r3
  obtain ⟨r4, hlet_r4⟩ : ∃ r, r = (decide (xs.length = f.1.length) && isPerm xs) := ⟨_, rfl⟩
  have H4 := Lib.hid hlet_r4
  clear hlet_r4
  have HV := Lib.hid (show V = (r1 && r4 && r3) by rw [hV, permV, permOk, H1.out, H3.out, H4.out])
  obtain ⟨X, hX⟩ : ∃ X, X = permX f xs := ⟨_, rfl⟩
  rw [← hX]
  have HX := Lib.hid (show X = if V = true then ordF f xs else ([], []) by rw [hX, permX, hV])
  clear hX hV hnone hnone2 hnone5
  cases r4
  · have HL := Lib.hid (show l1Inv xs f.1.length = none by
      by_cases e : xs.length = f.1.length
      · have hp : isPerm xs = false := by have := H4.out; simpa [e] using this
        rw [← e, l1Inv_eq, if_neg (by simp [hp])]
      · rw [l1Inv, if_neg e])
    obtain rfl : V = false := by rw [HV.out]; simp
    have HF := Lib.hid (show X = ([], []) by rw [HX.out]; rfl)
    clear HX H4
    go_enter Try.func42, Try.ntmps42
    go_wp2_with fail
    refine (l1Inverse_any _ _ xs f.1.length (h'.below (by repeat' (first | (with_reducible exact Below.refl _ _) | (with_reducible assumption) | (with_reducible refine Below.alloc ?_ (by first | omega | (simp; omega) | simp) _) | (with_reducible refine Below.setCell ?_ (by first | omega | (simp; omega) | simp) _) | (with_reducible refine Below.drew ?_) | (with_reducible refine below_drewN ?_ _)))) hxl0 hfl0).mono ?_
    rw [HL.out]
    rintro e w1 ⟨rfl, hb1⟩
    have hB1 : Below w.heap.size w w1 := Below.after (by repeat' (first | (with_reducible exact Below.refl _ _) | (with_reducible assumption) | (with_reducible refine Below.alloc ?_ (by first | omega | (simp; omega) | simp) _) | (with_reducible refine Below.setCell ?_ (by first | omega | (simp; omega) | simp) _) | (with_reducible refine Below.drew ?_) | (with_reducible refine below_drewN ?_ _))) hb1 (by first | omega | (simp only [World.size_alloc, World.size_setCell, World.size_drew] at *; omega) | (simp; omega) | simp)
    have e_r0 := oldc (b := w.heap.size + 1) (o := 0) hb1 (by simp) (show _ = some (.slice none 0 0) by simp [go_sem])
    have e_r1 := oldc (b := w.heap.size + 1) (o := 1) hb1 (by simp) (show _ = some (.slice none 0 0) by simp [go_sem])
    have e_rf : ∀ o, w1.frozen? ⟨w.heap.size + 1, o, none⟩ = false := fun o => (hb1.frozen (p := ⟨w.heap.size + 1, o, none⟩) (by simp)).trans (by simp [go_sem])
    have l_r : w.heap.size + 1 < w1.heap.size := by have := hb1.size; simp at this; omega
    clear h h' ha hb hb1
    go_wp2
    exact bodyPost_ret (v := .tuple #[.agg #[.slice none 0 0, .slice none 0 0], .bool false]) (by simp [results, Try.results42, go_sem, *]) rfl ⟨_, _, rfl, by rw [HF.out]; exact Ow.nilF _ _ _, (by repeat' (first | (with_reducible exact Below.refl _ _) | (with_reducible assumption) | (with_reducible refine Below.alloc ?_ (by first | omega | (simp; omega) | simp) _) | (with_reducible refine Below.setCell ?_ (by first | omega | (simp; omega) | simp) _) | (with_reducible refine Below.drew ?_) | (with_reducible refine below_drewN ?_ _)))⟩
  have h4 : xs.length = f.1.length ∧ isPerm xs = true := by simpa using H4.out.symm
  obtain ⟨hxl, hper⟩ := h4
  have HL := Lib.hid (show l1Inv xs f.1.length = some (inv xs) by rw [← hxl, l1Inv_eq, if_pos hper])
  have HXL := Lib.hid hxl
  have HPER := Lib.hid hper
  clear hxl hper H4
  go_enter Try.func42, Try.ntmps42
  go_wp2_with fail
  refine (l1Inverse_any _ _ xs f.1.length (h'.below (by repeat' (first | (with_reducible exact Below.refl _ _) | (with_reducible assumption) | (with_reducible refine Below.alloc ?_ (by first | omega | (simp; omega) | simp) _) | (with_reducible refine Below.setCell ?_ (by first | omega | (simp; omega) | simp) _) | (with_reducible refine Below.drew ?_) | (with_reducible refine below_drewN ?_ _)))) hxl0 hfl0).mono ?_
  rw [HL.out]
  rintro e wA ⟨⟨tv, rfl, hof⟩, hbA⟩
  simp only [World.size_alloc] at hof
  have hpwA : Below w.heap.size w wA := Below.after (by repeat' (first | (with_reducible exact Below.refl _ _) | (with_reducible assumption) | (with_reducible refine Below.alloc ?_ (by first | omega | (simp; omega) | simp) _) | (with_reducible refine Below.setCell ?_ (by first | omega | (simp; omega) | simp) _) | (with_reducible refine Below.drew ?_) | (with_reducible refine below_drewN ?_ _))) hbA (by first | omega | (simp only [World.size_alloc, World.size_setCell, World.size_drew] at *; omega) | (simp; omega) | simp)
  have swA := hpwA.size
  have hBwA : Below w.heap.size w wA := hpwA
  have l_f : w.heap.size < wA.heap.size := by have := hbA.size; simp at this; omega
  have q_f0 : wA.cell? ⟨w.heap.size, 0, none⟩ = some (.slice ao f.1.length cap) := oldc hbA (by first | omega | (simp; omega) | (simp; done)) (by simp [go_sem])
  have q_f1 : wA.cell? ⟨w.heap.size, 1, none⟩ = some (.slice ao2 f.2.length cap2) := oldc hbA (by first | omega | (simp; omega) | (simp; done)) (by simp [go_sem])
  have l_r : w.heap.size + 1 < wA.heap.size := by have := hbA.size; simp at this; omega
  have q_r0 : wA.cell? ⟨w.heap.size + 1, 0, none⟩ = some (.slice none 0 0) := oldc hbA (by first | omega | (simp; omega) | (simp; done)) (by simp [go_sem])
  have q_r1 : wA.cell? ⟨w.heap.size + 1, 1, none⟩ = some (.slice none 0 0) := oldc hbA (by first | omega | (simp; omega) | (simp; done)) (by simp [go_sem])
  have f_r : ∀ o, wA.frozen? ⟨w.heap.size + 1, o, none⟩ = false := fun o => (hbA.frozen (p := ⟨w.heap.size + 1, o, none⟩) (by first | omega | (simp; omega) | (simp; done))).trans (by simp [go_sem])
  clear hbA
  obtain ⟨tao, tn, tcap, rfl, htn, htc, htm, -⟩ := hof.rd.shape
  rw [inv_len] at htn
  subst htn
  unfold maxLen at htm
  have hloT := hBwA.size
  obtain ⟨HIT, hHIT⟩ : ∃ H : Nat, H = wA.heap.size := ⟨_, rfl⟩
  rw [← hHIT] at hof
  have hHa : HIT ≤ wA.heap.size := by omega
  clear hHIT
  go_wp2_with fail
  refine (isFamS_b _ _ _ f (h.below (by repeat' (first | (with_reducible exact Below.refl _ _) | (with_reducible assumption) | (with_reducible refine Below.alloc ?_ (by first | omega | (simp; omega) | simp) _) | (with_reducible refine Below.setCell ?_ (by first | omega | (simp; omega) | simp) _) | (with_reducible refine Below.drew ?_) | (with_reducible refine below_drewN ?_ _)))) r1 H1.out).mono ?_
  rintro e1 w1 ⟨rfl, hbw1⟩
  have hpw1 : Below wA.heap.size wA w1 := Below.after (by repeat' (first | (with_reducible exact Below.refl _ _) | (with_reducible assumption) | (with_reducible refine Below.alloc ?_ (by first | omega | (simp; omega) | simp) _) | (with_reducible refine Below.setCell ?_ (by first | omega | (simp; omega) | simp) _) | (with_reducible refine Below.drew ?_) | (with_reducible refine below_drewN ?_ _))) hbw1 (by first | omega | (simp only [World.size_alloc, World.size_setCell, World.size_drew] at *; omega) | (simp; omega) | simp)
  have sw1 := hpw1.size
  have hBw1 : Below w.heap.size w w1 := Below.trans hBwA (Below.mono hpw1 hBwA.size)
  have q_f0 := oldc hpw1 l_f q_f0
  have q_f1 := oldc hpw1 l_f q_f1
  have q_r0 := oldc hpw1 l_r q_r0
  have q_r1 := oldc hpw1 l_r q_r1
  have f_r : ∀ o, w1.frozen? ⟨w.heap.size + 1, o, none⟩ = false := fun o => (hpw1.frozen (p := ⟨w.heap.size + 1, o, none⟩) l_r).trans (f_r o)
  have l_f := Nat.lt_of_lt_of_le l_f sw1
  have l_r := Nat.lt_of_lt_of_le l_r sw1
  have hof := Ow.below hof hpw1
  clear hbw1 hpw1
  cases r1
  · obtain rfl : V = false := by rw [HV.out]; rfl
    have HF := Lib.hid (show X = ([], []) by rw [HX.out]; rfl)
    clear HX h h' hof ha hb
    go_wp2
    exact bodyPost_ret (v := .tuple #[.agg #[.slice none 0 0, .slice none 0 0], .bool false]) (by simp [results, Try.results42, go_sem, *]) rfl ⟨_, _, rfl, by rw [HF.out]; exact Ow.nilF _ _ _, (by repeat' (first | (with_reducible exact Below.refl _ _) | (with_reducible assumption) | (with_reducible refine Below.alloc ?_ (by first | omega | (simp; omega) | simp) _) | (with_reducible refine Below.setCell ?_ (by first | omega | (simp; omega) | simp) _) | (with_reducible refine Below.drew ?_) | (with_reducible refine below_drewN ?_ _)))⟩
  obtain ⟨h40, h60, hP, hU⟩ := famB_facts H1.out.symm
  have HR := Lib.hid (isPerm_range HPER.out)
  have HT := Lib.hid (show ∀ i, i < xs.length → I64 (getI (inv xs) (i : Int)) from fun i hi => by have := getI_in (inv_range (xs := xs)) (i := i) (by rw [inv_len]; exact hi); unfold I64; omega)
  have HP := Lib.hid hP
  have HU := Lib.hid hU
  have hx40 : xs.length ≤ 40 := by have := HXL.out; omega
  clear hP hU h
  obtain ⟨V1, hV1⟩ : ∃ W : World, W = w1 := ⟨_, rfl⟩
  subst hV1
  have hbw : Below w.heap.size w V1 := hBw1
  have sV := hbw.size
  have hHI : HIT ≤ V1.heap.size := by omega
  have hT := Lib.hid hof
  clear hof
  go_wp2
  have hz2 := inz1 V1.heap.size
  have qf0 : (V1.alloc (.cells #[.slice none 0 0, .slice none 0 0] 32)).cell? ⟨w.heap.size, 0, none⟩ = some (.slice ao f.1.length cap) := oldc ((Below.refl V1.heap.size V1).alloc (Nat.le_refl _) _) l_f q_f0
  have qf1 : (V1.alloc (.cells #[.slice none 0 0, .slice none 0 0] 32)).cell? ⟨w.heap.size, 1, none⟩ = some (.slice ao2 f.2.length cap2) := oldc ((Below.refl V1.heap.size V1).alloc (Nat.le_refl _) _) l_f q_f1
  have qr0 : (V1.alloc (.cells #[.slice none 0 0, .slice none 0 0] 32)).cell? ⟨w.heap.size + 1, 0, none⟩ = some (.slice none 0 0) := oldc ((Below.refl V1.heap.size V1).alloc (Nat.le_refl _) _) l_r q_r0
  have qr1 : (V1.alloc (.cells #[.slice none 0 0, .slice none 0 0] 32)).cell? ⟨w.heap.size + 1, 1, none⟩ = some (.slice none 0 0) := oldc ((Below.refl V1.heap.size V1).alloc (Nat.le_refl _) _) l_r q_r1
  have fr : ∀ o, (V1.alloc (.cells #[.slice none 0 0, .slice none 0 0] 32)).frozen? ⟨w.heap.size + 1, o, none⟩ = false := fun o => (((Below.refl V1.heap.size V1).alloc (Nat.le_refl _) _).frozen (p := ⟨w.heap.size + 1, o, none⟩) l_r).trans (f_r o)
  have hT0 := Lib.hid (hT.out.below ((Below.refl V1.heap.size V1).alloc (Nat.le_refl _) (.cells #[.slice none 0 0, .slice none 0 0] 32)))
  have hbw0 : Below w.heap.size w (V1.alloc (.cells #[.slice none 0 0, .slice none 0 0] 32)) := hbw.alloc (by omega) _
  clear q_f0 q_f1 q_r0 q_r1 f_r hT
  obtain ⟨W0, hW0⟩ : ∃ W, W = (V1.alloc (.cells #[.slice none 0 0, .slice none 0 0] 32)) := ⟨_, rfl⟩
  have z0 : W0.heap.size = V1.heap.size + 1 := by rw [hW0]; simp
  rw [← hW0] at qf0 qf1 qr0 qr1 fr hT0 hbw0
  have HW0 := Lib.hid hW0
  have Z0 := Lib.hid z0
  have zl : V1.heap.size < W0.heap.size := by omega
  have zg : W0.heap.size ≤ V1.heap.size + 1 := by omega
  have lo_f : w.heap.size < W0.heap.size := by omega
  have lo_r : w.heap.size + 1 < W0.heap.size := by omega
  have hs1 := Lib.hid (show (V1.alloc (.cells #[.slice none 0 0, .slice none 0 0] 32)).cell? ⟨V1.heap.size, 0, none⟩ = some (.slice none 0 0) ∧ (V1.alloc (.cells #[.slice none 0 0, .slice none 0 0] 32)).cell? ⟨V1.heap.size, 1, none⟩ = some (.slice none 0 0) ∧ ∀ o, (V1.alloc (.cells #[.slice none 0 0, .slice none 0 0] 32)).frozen? ⟨V1.heap.size, o, none⟩ = false from ⟨by simp [go_sem], by simp [go_sem], fun o => by simp [go_sem]⟩)
  clear z0 hW0
  go_loopw [10, 11, 33] (fun _ _ s31 wr => ∃ (k : Nat) (vp : Value), k ≤ xs.length ∧ s31 = .int .i64 k ∧ wr.cell? ⟨V1.heap.size, 0, none⟩ = some vp ∧ wr.cell? ⟨V1.heap.size, 1, none⟩ = some (.slice none 0 0) ∧ (∀ o, wr.frozen? ⟨V1.heap.size, o, none⟩ = false) ∧ Hid (GL true W0.heap.size W0.heap.size wr.heap.size wr 91 vp (ordP f.1 (inv xs) (xs.take k))) ∧ OffF [V1.heap.size] W0 wr) (fun _ _ s31 _ => xs.length - (intOf s31).toNat)
  case atStart => exact ⟨0, _, Nat.zero_le _, rfl, hs1.out.1, hs1.out.2.1, hs1.out.2.2, Lib.hid (GL.start _ _ _ _ _ _), by rw [← HW0.out]; exact OffF.refl _ _⟩
  case round =>
    clear hs1
    obtain ⟨k, vp, hk, rfl, q_o0, q_o1, f_o, hG, hoff2⟩ := hrel
    have sR := hoff2.size
    have hbw2 : Below w.heap.size w wr := hbw0.trans (hoff2.toBelow hbw0.size (fun b hb => by simp at hb; omega))
    have q_f0 := offc hoff2 hz2 (.inl (by omega)) lo_f qf0
    have l_f : w.heap.size < wr.heap.size := by omega
    have l_o : V1.heap.size < wr.heap.size := by omega
    by_cases hlt : k < xs.length
    · have hI : (k : Int) < (xs.length : Int) := by omega
      obtain ⟨b, off, x, rfl, HK, hc, hx1, hx2, -, -, bl, -⟩ := (h'.below hbw2).int_at hlt
      have hin := HR.out x (List.mem_of_getElem? HK.out)
      obtain ⟨m, rfl⟩ := Int.eq_ofNat_of_zero_le hin.1
      have hmm : m < f.1.length := by have := HXL.out; omega
      have hmI : (m : Int) < (f.1.length : Int) := by omega
      obtain ⟨pb, poff, nm, sx, fa, mo, bo, di, rfl, HP1, p0, p1, p2, p3, p4, p5, h0, h1, h2, h3, h4, h5, -, -, pbl, -⟩ := (ha.below hbw2).per_at hmm
      obtain ⟨-, -, -, hfa, hmo, -⟩ := HP.out.at hmm HP1.out
      have hTr := hT0.out.rd.keep (hoff2.zone (l := w.heap.size + 1 + 1) (u := HIT) (by omega) hz2 (.inr (by omega)))
      obtain ⟨tb, toff, rfl, tb1, tb2, tbl⟩ := hTr.pos (by omega)
      have nO1 : ¬ V1.heap.size = wr.heap.size := by omega
      have nO2 : ¬ wr.heap.size = V1.heap.size := by omega
      have lT : tb < wr.heap.size := tbl
      have nT1 : ¬ tb = wr.heap.size := by omega
      have nT2 : ¬ wr.heap.size = tb := by omega
      have nT3 : ¬ tb = V1.heap.size := by omega
      have nT4 : ¬ V1.heap.size = tb := by omega
      have hll := ordP_len f.1 (inv xs) (xs.take k)
      rw [List.length_take] at hll
      have hll2 : (ordP f.1 (inv xs) (xs.take k)).length ≤ 40 := by omega
      clear hll hin h' ha hb HU
      rcases hfa with rfl | ⟨hfa0, hfa1⟩
      · rcases hmo with rfl | ⟨hmo0, hmo1⟩
        · skip
          have HX3 := Lib.hid (show ordP f.1 (inv xs) (xs.take (k + 1)) = ordP f.1 (inv xs) (xs.take k) ++ [((nm, sx, (-1), (-1), bo, di) : Per)] by rw [ordP_snoc HK.out HP1.out, moveP]; simp [moveI])
          clear HK HP1 HP HT hTr HR
          have hG := hG.out
          go_wp2_with (at_builtin; refine wpList_push rfl rfl slPerson (by show (0 : Nat) < 6; omega) (hG.keep (by repeat' (first | (with_reducible exact Zone.refl _ _ _) | (with_reducible refine Zone.setCell ?_ (by first | (left; omega) | (right; omega) | (left; simp; omega) | (right; simp; omega) | (left; simp; done)) _) | (with_reducible refine Zone.alloc ?_ (by first | omega | (simp; omega) | simp) _) | (with_reducible refine Zone.drew ?_))) (by repeat' (first | (with_reducible exact Zone.refl _ _ _) | (with_reducible refine Zone.setCell ?_ (by first | (left; omega) | (right; omega) | (left; simp; omega) | (right; simp; omega) | (left; simp; done)) _) | (with_reducible refine Zone.alloc ?_ (by first | omega | (simp; omega) | simp) _) | (with_reducible refine Zone.drew ?_)))) rfl (ad := ⟨wr.heap.size + 1, 0, none⟩) rfl (cs := [.string nm, .int .i64 sx, .int .i64 (-1), .int .i64 (-1), .int .i64 bo, .int .i64 di]) (y := (nm, sx, (-1), (-1), bo, di)) (lx := wr.heap.size) (hx' := wr.heap.size) ?p1nn (It.flat (z := true) (w0 := wr) (fp := []) (repPer_mk h0 h1 (by unfold I64; omega) (by unfold I64; omega) h4 h5)) (by omega) (.inl (by first | omega | (simp only [World.size_alloc, World.size_setCell, World.size_drew] at *; omega) | (simp; omega) | simp)) (by unfold maxLen; omega) (by omega) ?p2nn ?_)
          case p1nn =>
            intro j c hj
            match j, hj with
            | 0, hj => simp at hj; subst hj; simp [Addr.add]
            | 1, hj => simp at hj; subst hj; simp [Addr.add]
            | 2, hj => simp at hj; subst hj; simp [Addr.add]
            | 3, hj => simp at hj; subst hj; simp [Addr.add]
            | 4, hj => simp at hj; subst hj; simp [Addr.add]
            | 5, hj => simp at hj; subst hj; simp [Addr.add]
          case p2nn => first | omega | (simp; omega)
          intro v5 w3 hG3 _ hb3
          obtain ⟨n5, g5, cp5, rfl⟩ : ∃ n g c, v5 = .slice (some ⟨g, 0, none⟩) n c := by obtain ⟨g, c, e, -⟩ := hG3.form (by simp); exact ⟨_, g, c, e⟩
          have e_o0 := oldc (o := 0) hb3 (show V1.heap.size < W0.heap.size from zl) (show _ = some vp by simp [go_sem, *])
          have e_o1 := oldc (o := 1) hb3 (show V1.heap.size < W0.heap.size from zl) (show _ = some (.slice none 0 0) by simp [go_sem, *])
          have e_f := fun o => (hb3.frozen (p := ⟨V1.heap.size, o, none⟩) zl).trans (show _ = false by simp [go_sem, *])
          have hoff3 := hoff2.low (Below.trans (show Below W0.heap.size wr _ from (by repeat' (first | (with_reducible exact Below.refl _ _) | (with_reducible assumption) | (with_reducible refine Below.alloc ?_ (by first | omega | (simp; omega) | simp) _) | (with_reducible refine Below.setCell ?_ (by first | omega | (simp; omega) | simp) _) | (with_reducible refine Below.drew ?_) | (with_reducible refine below_drewN ?_ _)))) hb3)
          have HG3 := Lib.hid (show GL true W0.heap.size W0.heap.size w3.heap.size w3 91 _ (ordP f.1 (inv xs) (xs.take (k + 1))) by rw [HX3.out]; exact hG3)
          clear hG hG3 hb3 hoff2
          go_wp2
          go_roundw
          case rel => exact ⟨k + 1, _, by omega, by go_num, by simp [go_sem, *], by simp [go_sem, *], fun o => frozen_setCell _ _ _ _ _ (e_f o), Lib.hid ((HG3.out.keep (by repeat' (first | (with_reducible exact Zone.refl _ _ _) | (with_reducible refine Zone.setCell ?_ (Or.inl (by first | omega | (simp; omega) | simp)) _) | (with_reducible refine Zone.alloc ?_ (by first | omega | (simp; omega) | simp) _) | (with_reducible refine Zone.drew ?_))) (by repeat' (first | (with_reducible exact Zone.refl _ _ _) | (with_reducible refine Zone.setCell ?_ (Or.inl (by first | omega | (simp; omega) | simp)) _) | (with_reducible refine Zone.alloc ?_ (by first | omega | (simp; omega) | simp) _) | (with_reducible refine Zone.drew ?_)))).mono (by simp)), hoff3.setCell (by simp) _⟩
          case measure => simp [intOf]; omega
        · skip
          obtain ⟨v, rfl⟩ := Int.eq_ofNat_of_zero_le hmo0
          have hvn : v < xs.length := by have := HXL.out; omega
          have vI : (v : Int) < (xs.length : Int) := by omega
          have cv := hTr.num (i := v) hvn
          have HTv := Lib.hid (HT.out v hvn)
          have HX3 := Lib.hid (show ordP f.1 (inv xs) (xs.take (k + 1)) = ordP f.1 (inv xs) (xs.take k) ++ [((nm, sx, (-1), (getI (inv xs) (v : Int)), bo, di) : Per)] by rw [ordP_snoc HK.out HP1.out, moveP]; simp [moveI])
          clear HK HP1 HP HT hTr HR
          have hG := hG.out
          go_wp2_with (at_builtin; refine wpList_push rfl rfl slPerson (by show (0 : Nat) < 6; omega) (hG.keep (by repeat' (first | (with_reducible exact Zone.refl _ _ _) | (with_reducible refine Zone.setCell ?_ (by first | (left; omega) | (right; omega) | (left; simp; omega) | (right; simp; omega) | (left; simp; done)) _) | (with_reducible refine Zone.alloc ?_ (by first | omega | (simp; omega) | simp) _) | (with_reducible refine Zone.drew ?_))) (by repeat' (first | (with_reducible exact Zone.refl _ _ _) | (with_reducible refine Zone.setCell ?_ (by first | (left; omega) | (right; omega) | (left; simp; omega) | (right; simp; omega) | (left; simp; done)) _) | (with_reducible refine Zone.alloc ?_ (by first | omega | (simp; omega) | simp) _) | (with_reducible refine Zone.drew ?_)))) rfl (ad := ⟨wr.heap.size + 1, 0, none⟩) rfl (cs := [.string nm, .int .i64 sx, .int .i64 (-1), .int .i64 (getI (inv xs) (v : Int)), .int .i64 bo, .int .i64 di]) (y := (nm, sx, (-1), (getI (inv xs) (v : Int)), bo, di)) (lx := wr.heap.size) (hx' := wr.heap.size) ?p1ny (It.flat (z := true) (w0 := wr) (fp := []) (repPer_mk h0 h1 (by unfold I64; omega) HTv.out h4 h5)) (by omega) (.inl (by first | omega | (simp only [World.size_alloc, World.size_setCell, World.size_drew] at *; omega) | (simp; omega) | simp)) (by unfold maxLen; omega) (by omega) ?p2ny ?_)
          case p1ny =>
            intro j c hj
            match j, hj with
            | 0, hj => simp at hj; subst hj; simp [Addr.add]
            | 1, hj => simp at hj; subst hj; simp [Addr.add]
            | 2, hj => simp at hj; subst hj; simp [Addr.add]
            | 3, hj => simp at hj; subst hj; simp [Addr.add]
            | 4, hj => simp at hj; subst hj; simp [Addr.add]
            | 5, hj => simp at hj; subst hj; simp [Addr.add]
          case p2ny => first | omega | (simp; omega)
          intro v5 w3 hG3 _ hb3
          obtain ⟨n5, g5, cp5, rfl⟩ : ∃ n g c, v5 = .slice (some ⟨g, 0, none⟩) n c := by obtain ⟨g, c, e, -⟩ := hG3.form (by simp); exact ⟨_, g, c, e⟩
          have e_o0 := oldc (o := 0) hb3 (show V1.heap.size < W0.heap.size from zl) (show _ = some vp by simp [go_sem, *])
          have e_o1 := oldc (o := 1) hb3 (show V1.heap.size < W0.heap.size from zl) (show _ = some (.slice none 0 0) by simp [go_sem, *])
          have e_f := fun o => (hb3.frozen (p := ⟨V1.heap.size, o, none⟩) zl).trans (show _ = false by simp [go_sem, *])
          have hoff3 := hoff2.low (Below.trans (show Below W0.heap.size wr _ from (by repeat' (first | (with_reducible exact Below.refl _ _) | (with_reducible assumption) | (with_reducible refine Below.alloc ?_ (by first | omega | (simp; omega) | simp) _) | (with_reducible refine Below.setCell ?_ (by first | omega | (simp; omega) | simp) _) | (with_reducible refine Below.drew ?_) | (with_reducible refine below_drewN ?_ _)))) hb3)
          have HG3 := Lib.hid (show GL true W0.heap.size W0.heap.size w3.heap.size w3 91 _ (ordP f.1 (inv xs) (xs.take (k + 1))) by rw [HX3.out]; exact hG3)
          clear hG hG3 hb3 hoff2
          go_wp2
          go_roundw
          case rel => exact ⟨k + 1, _, by omega, by go_num, by simp [go_sem, *], by simp [go_sem, *], fun o => frozen_setCell _ _ _ _ _ (e_f o), Lib.hid ((HG3.out.keep (by repeat' (first | (with_reducible exact Zone.refl _ _ _) | (with_reducible refine Zone.setCell ?_ (Or.inl (by first | omega | (simp; omega) | simp)) _) | (with_reducible refine Zone.alloc ?_ (by first | omega | (simp; omega) | simp) _) | (with_reducible refine Zone.drew ?_))) (by repeat' (first | (with_reducible exact Zone.refl _ _ _) | (with_reducible refine Zone.setCell ?_ (Or.inl (by first | omega | (simp; omega) | simp)) _) | (with_reducible refine Zone.alloc ?_ (by first | omega | (simp; omega) | simp) _) | (with_reducible refine Zone.drew ?_)))).mono (by simp)), hoff3.setCell (by simp) _⟩
          case measure => simp [intOf]; omega
      · skip
        obtain ⟨u, rfl⟩ := Int.eq_ofNat_of_zero_le hfa0
        have hun : u < xs.length := by have := HXL.out; omega
        have uI : (u : Int) < (xs.length : Int) := by omega
        have cu := hTr.num (i := u) hun
        have HTu := Lib.hid (HT.out u hun)
        rcases hmo with rfl | ⟨hmo0, hmo1⟩
        · skip
          have HX3 := Lib.hid (show ordP f.1 (inv xs) (xs.take (k + 1)) = ordP f.1 (inv xs) (xs.take k) ++ [((nm, sx, (getI (inv xs) (u : Int)), (-1), bo, di) : Per)] by rw [ordP_snoc HK.out HP1.out, moveP]; simp [moveI])
          clear HK HP1 HP HT hTr HR
          have hG := hG.out
          go_wp2_with (at_builtin; refine wpList_push rfl rfl slPerson (by show (0 : Nat) < 6; omega) (hG.keep (by repeat' (first | (with_reducible exact Zone.refl _ _ _) | (with_reducible refine Zone.setCell ?_ (by first | (left; omega) | (right; omega) | (left; simp; omega) | (right; simp; omega) | (left; simp; done)) _) | (with_reducible refine Zone.alloc ?_ (by first | omega | (simp; omega) | simp) _) | (with_reducible refine Zone.drew ?_))) (by repeat' (first | (with_reducible exact Zone.refl _ _ _) | (with_reducible refine Zone.setCell ?_ (by first | (left; omega) | (right; omega) | (left; simp; omega) | (right; simp; omega) | (left; simp; done)) _) | (with_reducible refine Zone.alloc ?_ (by first | omega | (simp; omega) | simp) _) | (with_reducible refine Zone.drew ?_)))) rfl (ad := ⟨wr.heap.size + 1, 0, none⟩) rfl (cs := [.string nm, .int .i64 sx, .int .i64 (getI (inv xs) (u : Int)), .int .i64 (-1), .int .i64 bo, .int .i64 di]) (y := (nm, sx, (getI (inv xs) (u : Int)), (-1), bo, di)) (lx := wr.heap.size) (hx' := wr.heap.size) ?p1yn (It.flat (z := true) (w0 := wr) (fp := []) (repPer_mk h0 h1 HTu.out (by unfold I64; omega) h4 h5)) (by omega) (.inl (by first | omega | (simp only [World.size_alloc, World.size_setCell, World.size_drew] at *; omega) | (simp; omega) | simp)) (by unfold maxLen; omega) (by omega) ?p2yn ?_)
          case p1yn =>
            intro j c hj
            match j, hj with
            | 0, hj => simp at hj; subst hj; simp [Addr.add]
            | 1, hj => simp at hj; subst hj; simp [Addr.add]
            | 2, hj => simp at hj; subst hj; simp [Addr.add]
            | 3, hj => simp at hj; subst hj; simp [Addr.add]
            | 4, hj => simp at hj; subst hj; simp [Addr.add]
            | 5, hj => simp at hj; subst hj; simp [Addr.add]
          case p2yn => first | omega | (simp; omega)
          intro v5 w3 hG3 _ hb3
          obtain ⟨n5, g5, cp5, rfl⟩ : ∃ n g c, v5 = .slice (some ⟨g, 0, none⟩) n c := by obtain ⟨g, c, e, -⟩ := hG3.form (by simp); exact ⟨_, g, c, e⟩
          have e_o0 := oldc (o := 0) hb3 (show V1.heap.size < W0.heap.size from zl) (show _ = some vp by simp [go_sem, *])
          have e_o1 := oldc (o := 1) hb3 (show V1.heap.size < W0.heap.size from zl) (show _ = some (.slice none 0 0) by simp [go_sem, *])
          have e_f := fun o => (hb3.frozen (p := ⟨V1.heap.size, o, none⟩) zl).trans (show _ = false by simp [go_sem, *])
          have hoff3 := hoff2.low (Below.trans (show Below W0.heap.size wr _ from (by repeat' (first | (with_reducible exact Below.refl _ _) | (with_reducible assumption) | (with_reducible refine Below.alloc ?_ (by first | omega | (simp; omega) | simp) _) | (with_reducible refine Below.setCell ?_ (by first | omega | (simp; omega) | simp) _) | (with_reducible refine Below.drew ?_) | (with_reducible refine below_drewN ?_ _)))) hb3)
          have HG3 := Lib.hid (show GL true W0.heap.size W0.heap.size w3.heap.size w3 91 _ (ordP f.1 (inv xs) (xs.take (k + 1))) by rw [HX3.out]; exact hG3)
          clear hG hG3 hb3 hoff2
          go_wp2
          go_roundw
          case rel => exact ⟨k + 1, _, by omega, by go_num, by simp [go_sem, *], by simp [go_sem, *], fun o => frozen_setCell _ _ _ _ _ (e_f o), Lib.hid ((HG3.out.keep (by repeat' (first | (with_reducible exact Zone.refl _ _ _) | (with_reducible refine Zone.setCell ?_ (Or.inl (by first | omega | (simp; omega) | simp)) _) | (with_reducible refine Zone.alloc ?_ (by first | omega | (simp; omega) | simp) _) | (with_reducible refine Zone.drew ?_))) (by repeat' (first | (with_reducible exact Zone.refl _ _ _) | (with_reducible refine Zone.setCell ?_ (Or.inl (by first | omega | (simp; omega) | simp)) _) | (with_reducible refine Zone.alloc ?_ (by first | omega | (simp; omega) | simp) _) | (with_reducible refine Zone.drew ?_)))).mono (by simp)), hoff3.setCell (by simp) _⟩
          case measure => simp [intOf]; omega
        · skip
          obtain ⟨v, rfl⟩ := Int.eq_ofNat_of_zero_le hmo0
          have hvn : v < xs.length := by have := HXL.out; omega
          have vI : (v : Int) < (xs.length : Int) := by omega
          have cv := hTr.num (i := v) hvn
          have HTv := Lib.hid (HT.out v hvn)
          have HX3 := Lib.hid (show ordP f.1 (inv xs) (xs.take (k + 1)) = ordP f.1 (inv xs) (xs.take k) ++ [((nm, sx, (getI (inv xs) (u : Int)), (getI (inv xs) (v : Int)), bo, di) : Per)] by rw [ordP_snoc HK.out HP1.out, moveP]; simp [moveI])
          clear HK HP1 HP HT hTr HR
          have hG := hG.out
          go_wp2_with (at_builtin; refine wpList_push rfl rfl slPerson (by show (0 : Nat) < 6; omega) (hG.keep (by repeat' (first | (with_reducible exact Zone.refl _ _ _) | (with_reducible refine Zone.setCell ?_ (by first | (left; omega) | (right; omega) | (left; simp; omega) | (right; simp; omega) | (left; simp; done)) _) | (with_reducible refine Zone.alloc ?_ (by first | omega | (simp; omega) | simp) _) | (with_reducible refine Zone.drew ?_))) (by repeat' (first | (with_reducible exact Zone.refl _ _ _) | (with_reducible refine Zone.setCell ?_ (by first | (left; omega) | (right; omega) | (left; simp; omega) | (right; simp; omega) | (left; simp; done)) _) | (with_reducible refine Zone.alloc ?_ (by first | omega | (simp; omega) | simp) _) | (with_reducible refine Zone.drew ?_)))) rfl (ad := ⟨wr.heap.size + 1, 0, none⟩) rfl (cs := [.string nm, .int .i64 sx, .int .i64 (getI (inv xs) (u : Int)), .int .i64 (getI (inv xs) (v : Int)), .int .i64 bo, .int .i64 di]) (y := (nm, sx, (getI (inv xs) (u : Int)), (getI (inv xs) (v : Int)), bo, di)) (lx := wr.heap.size) (hx' := wr.heap.size) ?p1yy (It.flat (z := true) (w0 := wr) (fp := []) (repPer_mk h0 h1 HTu.out HTv.out h4 h5)) (by omega) (.inl (by first | omega | (simp only [World.size_alloc, World.size_setCell, World.size_drew] at *; omega) | (simp; omega) | simp)) (by unfold maxLen; omega) (by omega) ?p2yy ?_)
          case p1yy =>
            intro j c hj
            match j, hj with
            | 0, hj => simp at hj; subst hj; simp [Addr.add]
            | 1, hj => simp at hj; subst hj; simp [Addr.add]
            | 2, hj => simp at hj; subst hj; simp [Addr.add]
            | 3, hj => simp at hj; subst hj; simp [Addr.add]
            | 4, hj => simp at hj; subst hj; simp [Addr.add]
            | 5, hj => simp at hj; subst hj; simp [Addr.add]
          case p2yy => first | omega | (simp; omega)
          intro v5 w3 hG3 _ hb3
          obtain ⟨n5, g5, cp5, rfl⟩ : ∃ n g c, v5 = .slice (some ⟨g, 0, none⟩) n c := by obtain ⟨g, c, e, -⟩ := hG3.form (by simp); exact ⟨_, g, c, e⟩
          have e_o0 := oldc (o := 0) hb3 (show V1.heap.size < W0.heap.size from zl) (show _ = some vp by simp [go_sem, *])
          have e_o1 := oldc (o := 1) hb3 (show V1.heap.size < W0.heap.size from zl) (show _ = some (.slice none 0 0) by simp [go_sem, *])
          have e_f := fun o => (hb3.frozen (p := ⟨V1.heap.size, o, none⟩) zl).trans (show _ = false by simp [go_sem, *])
          have hoff3 := hoff2.low (Below.trans (show Below W0.heap.size wr _ from (by repeat' (first | (with_reducible exact Below.refl _ _) | (with_reducible assumption) | (with_reducible refine Below.alloc ?_ (by first | omega | (simp; omega) | simp) _) | (with_reducible refine Below.setCell ?_ (by first | omega | (simp; omega) | simp) _) | (with_reducible refine Below.drew ?_) | (with_reducible refine below_drewN ?_ _)))) hb3)
          have HG3 := Lib.hid (show GL true W0.heap.size W0.heap.size w3.heap.size w3 91 _ (ordP f.1 (inv xs) (xs.take (k + 1))) by rw [HX3.out]; exact hG3)
          clear hG hG3 hb3 hoff2
          go_wp2
          go_roundw
          case rel => exact ⟨k + 1, _, by omega, by go_num, by simp [go_sem, *], by simp [go_sem, *], fun o => frozen_setCell _ _ _ _ _ (e_f o), Lib.hid ((HG3.out.keep (by repeat' (first | (with_reducible exact Zone.refl _ _ _) | (with_reducible refine Zone.setCell ?_ (Or.inl (by first | omega | (simp; omega) | simp)) _) | (with_reducible refine Zone.alloc ?_ (by first | omega | (simp; omega) | simp) _) | (with_reducible refine Zone.drew ?_))) (by repeat' (first | (with_reducible exact Zone.refl _ _ _) | (with_reducible refine Zone.setCell ?_ (Or.inl (by first | omega | (simp; omega) | simp)) _) | (with_reducible refine Zone.alloc ?_ (by first | omega | (simp; omega) | simp) _) | (with_reducible refine Zone.drew ?_)))).mono (by simp)), hoff3.setCell (by simp) _⟩
          case measure => simp [intOf]; omega
    · obtain rfl : k = xs.length := by omega
      have nI : ¬ (xs.length : Int) < (xs.length : Int) := by omega
      obtain ⟨V2, hV2⟩ : ∃ wm : World, wm = wr := ⟨_, rfl⟩
      subst hV2
      have HG2 := Lib.hid (show GL true W0.heap.size W0.heap.size V2.heap.size V2 91 vp (ordP f.1 (inv xs) xs) by have := hG.out; rw [List.take_length] at this; exact this)
      have q_f1 := offc hoff2 hz2 (.inl (by omega)) lo_f qf1
      have q_r0 := offc hoff2 hz2 (.inl (by omega)) lo_r qr0
      have q_r1 := offc hoff2 hz2 (.inl (by omega)) lo_r qr1
      have f_r : ∀ o, V2.frozen? ⟨w.heap.size + 1, o, none⟩ = false := fun o => (World.frozen?_of_block (a := ⟨w.heap.size + 1, o, none⟩) (hoff2.block _ lo_r (by simp; omega))).trans (fr o)
      have hT2 := Lib.hid (hT0.out.rd.keep (hoff2.zone (l := w.heap.size + 1 + 1) (u := HIT) (by omega) hz2 (.inr (by omega))))
      have hs1 := Lib.hid (And.intro q_o0 (And.intro q_o1 f_o))
      have lo_o : V1.heap.size < V2.heap.size := l_o
      have lr2 : w.heap.size + 1 < V2.heap.size := by omega
      clear hG q_o0 q_o1 f_o hT0 qf0 qf1 qr0 qr1 fr hoff2 HP HR h' ha
      go_wp2
      go_loopw [13, 70] (fun _ s68 wr => ∃ (k : Nat) (vu : Value), k ≤ f.2.length ∧ s68 = .int .i64 k ∧ wr.cell? ⟨V1.heap.size, 0, none⟩ = some vp ∧ wr.cell? ⟨V1.heap.size, 1, none⟩ = some vu ∧ (∀ o, wr.frozen? ⟨V1.heap.size, o, none⟩ = false) ∧ Hid (GL true V2.heap.size V2.heap.size wr.heap.size wr 76 vu ((f.2.take k).map (moveU (inv xs)))) ∧ OffF [V1.heap.size] V2 wr) (fun _ s68 _ => f.2.length - (intOf s68).toNat)
      case atStart => exact ⟨0, _, Nat.zero_le _, rfl, hs1.out.1, hs1.out.2.1, hs1.out.2.2, Lib.hid (GL.start _ _ _ _ _ _), OffF.refl _ _⟩
      case round =>
        clear hs1
        obtain ⟨k, vu, hk, rfl, q_o0, q_o1, f_o, hG, hoff2⟩ := hrel
        have sR := hoff2.size
        have hbw3 : Below w.heap.size w wr := hbw2.trans (hoff2.toBelow hbw2.size (fun b hb => by simp at hb; omega))
        have q_f1 := offc hoff2 hz2 (.inl (by omega)) l_f q_f1
        have l_f : w.heap.size < wr.heap.size := by omega
        have l_o : V1.heap.size < wr.heap.size := by omega
        by_cases hlt : k < f.2.length
        · have hI : (k : Int) < (f.2.length : Int) := by omega
          obtain ⟨b, off, ma, wo, fr, tl, rfl, hu, p0, p1, p2, p3, h0, h1, h2, h3, -, -, bl, -⟩ := (hb.below hbw3).uni_at hlt
          obtain ⟨⟨um1, um2⟩, ⟨uw1, uw2⟩⟩ := uniOk_facts (HU.out k hlt) hu.out
          obtain ⟨mi, rfl⟩ := Int.eq_ofNat_of_zero_le um1
          obtain ⟨wi, rfl⟩ := Int.eq_ofNat_of_zero_le uw1
          have hmn : mi < xs.length := by have := HXL.out; omega
          have hwn : wi < xs.length := by have := HXL.out; omega
          have hTr := hT2.out.keep (hoff2.zone (l := w.heap.size + 1 + 1) (u := HIT) (by omega) hz2 (.inr (by omega)))
          obtain ⟨tb, toff, rfl, tb1, tb2, tbl⟩ := hTr.pos (by omega)
          have cm := hTr.num (i := mi) hmn
          have cw := hTr.num (i := wi) hwn
          have mI : (mi : Int) < (xs.length : Int) := by omega
          have wI : (wi : Int) < (xs.length : Int) := by omega
          have HTm := Lib.hid (HT.out mi hmn)
          have HTw := Lib.hid (HT.out wi hwn)
          have nO1 : ¬ V1.heap.size = wr.heap.size := by omega
          have nO2 : ¬ wr.heap.size = V1.heap.size := by omega
          have lT : tb < wr.heap.size := tbl
          have nT1 : ¬ tb = wr.heap.size := by omega
          have nT2 : ¬ wr.heap.size = tb := by omega
          have nT3 : ¬ tb = V1.heap.size := by omega
          have nT4 : ¬ V1.heap.size = tb := by omega
          have hll2 : ((f.2.take k).map (moveU (inv xs))).length ≤ 60 := by rw [List.length_map, List.length_take]; omega
          obtain ⟨tm, htm⟩ : ∃ t, t = getI (inv xs) (mi : Int) := ⟨_, rfl⟩
          obtain ⟨tw, htw⟩ : ∃ t, t = getI (inv xs) (wi : Int) := ⟨_, rfl⟩
          have HX2 := Lib.hid (show (f.2.take (k + 1)).map (moveU (inv xs)) = (f.2.take k).map (moveU (inv xs)) ++ [((tm, tw, fr, tl) : Uni)] by rw [take_snoc hu.out, List.map_append, htm, htw]; rfl)
          rw [← htm] at cm HTm
          rw [← htw] at cw HTw
          clear hu hTr HT HU hb htm htw
          go_upto_region 18 with fail
          have hG := hG.out
          have tb3 : tb < V2.heap.size := by omega
          refine wp_region_held_drew (S := (fun w' => w'.cell? ⟨wr.heap.size, 0, none⟩ = some (.int .i64 (mi : Int)) ∧ w'.cell? ⟨wr.heap.size, 1, none⟩ = some (.int .i64 (wi : Int)) ∧ w'.cell? ⟨wr.heap.size, 2, none⟩ = some (.int .i64 fr) ∧ w'.cell? ⟨wr.heap.size, 3, none⟩ = some (.int .i64 tl) ∧ w'.cell? ⟨tb, toff + mi, none⟩ = some (.int .i64 tm) ∧ w'.cell? ⟨tb, toff + wi, none⟩ = some (.int .i64 tw))) (by kernel_rfl) ?_ (fun hHeld => ?_)
          · (try dsimp only); go_keep
          refine wpAnyH_take (i := 0) (oi := _) (v := ?_) (by simp only [List.getElem?_toArray, List.getElem?_cons_succ, List.getElem?_cons_zero]; rfl) (by kernel_rfl) (by kernel_rfl) (by kernel_rfl) (by exact fun _ _ _ h => h) (Or.inl ⟨by rfl, ?_⟩) (by assumption) ?_
          rotate_left
          · intro w hSw; (try dsimp only at hSw); go_simp <;> with_reducible rfl
          try simp only [Act.put, List.setIfInBounds_toArray, List.set_cons_zero, List.set_cons_succ]
          refine wpAnyH_take (i := 2) (oi := _) (v := ?_) (by simp only [List.getElem?_toArray, List.getElem?_cons_succ, List.getElem?_cons_zero]; rfl) (by kernel_rfl) (by kernel_rfl) (by kernel_rfl) (by exact fun _ _ _ h => h) (Or.inl ⟨by rfl, ?_⟩) (by assumption) ?_
          rotate_left
          · intro w hSw; (try dsimp only at hSw); go_simp <;> with_reducible rfl
          try simp only [Act.put, List.setIfInBounds_toArray, List.set_cons_zero, List.set_cons_succ]
          refine wpAnyH_take (i := 3) (oi := _) (v := ?_) (by simp only [List.getElem?_toArray, List.getElem?_cons_succ, List.getElem?_cons_zero]; rfl) (by kernel_rfl) (by kernel_rfl) (by kernel_rfl) (by exact fun _ _ _ h => h) (Or.inl ⟨by rfl, ?_⟩) (by assumption) ?_
          rotate_left
          · intro w hSw; (try dsimp only at hSw); go_simp <;> with_reducible rfl
          try simp only [Act.put, List.setIfInBounds_toArray, List.set_cons_zero, List.set_cons_succ]
          refine wpAnyH_take (i := 7) (oi := _) (v := ?_) (by simp only [List.getElem?_toArray, List.getElem?_cons_succ, List.getElem?_cons_zero]; rfl) (by kernel_rfl) (by kernel_rfl) (by kernel_rfl) (by exact fun _ _ _ h => h) (Or.inl ⟨by rfl, ?_⟩) (by assumption) ?_
          rotate_left
          · intro w hSw; (try dsimp only at hSw); go_simp <;> with_reducible rfl
          try simp only [Act.put, List.setIfInBounds_toArray, List.set_cons_zero, List.set_cons_succ]
          refine wpAnyH_take (i := 8) (oi := _) (v := ?_) (by simp only [List.getElem?_toArray, List.getElem?_cons_succ, List.getElem?_cons_zero]; rfl) (by kernel_rfl) (by kernel_rfl) (by kernel_rfl) (by exact fun _ _ _ h => h) (Or.inl ⟨by rfl, ?_⟩) (by assumption) ?_
          rotate_left
          · intro w hSw; (try dsimp only at hSw); go_simp <;> with_reducible rfl
          try simp only [Act.put, List.setIfInBounds_toArray, List.set_cons_zero, List.set_cons_succ]
          refine wpAnyH_take (i := 12) (oi := _) (v := ?_) (by simp only [List.getElem?_toArray, List.getElem?_cons_succ, List.getElem?_cons_zero]; rfl) (by kernel_rfl) (by kernel_rfl) (by kernel_rfl) (by exact fun _ _ _ h => h) (Or.inl ⟨by rfl, ?_⟩) (by assumption) ?_
          rotate_left
          · intro w hSw; (try dsimp only at hSw); go_simp <;> with_reducible rfl
          try simp only [Act.put, List.setIfInBounds_toArray, List.set_cons_zero, List.set_cons_succ]
          refine wpAnyH_take (i := 14) (oi := _) (v := ?_) (by simp only [List.getElem?_toArray, List.getElem?_cons_succ, List.getElem?_cons_zero]; rfl) (by kernel_rfl) (by kernel_rfl) (by kernel_rfl) (by exact fun _ _ _ h => h) (Or.inl ⟨by rfl, ?_⟩) (by assumption) ?_
          rotate_left
          · intro w hSw; (try dsimp only at hSw); go_simp <;> with_reducible rfl
          try simp only [Act.put, List.setIfInBounds_toArray, List.set_cons_zero, List.set_cons_succ]
          refine wpAnyH_take (i := 4) (oi := _) (v := ?_) (by simp only [List.getElem?_toArray, List.getElem?_cons_succ, List.getElem?_cons_zero]; rfl) (by kernel_rfl) (by kernel_rfl) (by kernel_rfl) (by exact fun _ _ _ h => h) (Or.inl ⟨by rfl, ?_⟩) (by assumption) ?_
          rotate_left
          · intro w hSw; (try dsimp only at hSw); go_simp <;> with_reducible rfl
          try simp only [Act.put, List.setIfInBounds_toArray, List.set_cons_zero, List.set_cons_succ]
          refine wpAnyH_take (i := 9) (oi := _) (v := ?_) (by simp only [List.getElem?_toArray, List.getElem?_cons_succ, List.getElem?_cons_zero]; rfl) (by kernel_rfl) (by kernel_rfl) (by kernel_rfl) (by exact fun _ _ _ h => h) (Or.inl ⟨by rfl, ?_⟩) (by assumption) ?_
          rotate_left
          · intro w hSw; (try dsimp only at hSw); go_simp <;> with_reducible rfl
          try simp only [Act.put, List.setIfInBounds_toArray, List.set_cons_zero, List.set_cons_succ]
          refine wpAnyH_take (i := 13) (oi := _) (v := ?_) (by simp only [List.getElem?_toArray, List.getElem?_cons_succ, List.getElem?_cons_zero]; rfl) (by kernel_rfl) (by kernel_rfl) (by kernel_rfl) (by exact fun _ _ _ h => h) (Or.inl ⟨by rfl, ?_⟩) (by assumption) ?_
          rotate_left
          · intro w hSw; (try dsimp only at hSw); go_simp <;> with_reducible rfl
          try simp only [Act.put, List.setIfInBounds_toArray, List.set_cons_zero, List.set_cons_succ]
          refine wpAnyH_take (i := 15) (oi := _) (v := ?_) (by simp only [List.getElem?_toArray, List.getElem?_cons_succ, List.getElem?_cons_zero]; rfl) (by kernel_rfl) (by kernel_rfl) (by kernel_rfl) (by exact fun _ _ _ h => h) (Or.inl ⟨by rfl, ?_⟩) (by assumption) ?_
          rotate_left
          · intro w hSw; (try dsimp only at hSw); go_simp <;> with_reducible rfl
          try simp only [Act.put, List.setIfInBounds_toArray, List.set_cons_zero, List.set_cons_succ]
          refine wpAnyH_take (i := 5) (oi := _) (v := ?_) (by simp only [List.getElem?_toArray, List.getElem?_cons_succ, List.getElem?_cons_zero]; rfl) (by kernel_rfl) (by kernel_rfl) (by kernel_rfl) (by exact fun _ _ _ h => h) (Or.inl ⟨by rfl, ?_⟩) (by assumption) ?_
          rotate_left
          · intro w hSw; (try dsimp only at hSw); go_simp <;> with_reducible rfl
          try simp only [Act.put, List.setIfInBounds_toArray, List.set_cons_zero, List.set_cons_succ]
          refine wpAnyH_take (i := 10) (oi := _) (v := ?_) (by simp only [List.getElem?_toArray, List.getElem?_cons_succ, List.getElem?_cons_zero]; rfl) (by kernel_rfl) (by kernel_rfl) (by kernel_rfl) (by exact fun _ _ _ h => h) (Or.inl ⟨by rfl, ?_⟩) (by assumption) ?_
          rotate_left
          · intro w hSw; (try dsimp only at hSw); go_simp <;> with_reducible rfl
          try simp only [Act.put, List.setIfInBounds_toArray, List.set_cons_zero, List.set_cons_succ]
          refine wpAnyH_take (i := 6) (oi := _) (v := ?_) (by simp only [List.getElem?_toArray, List.getElem?_cons_succ, List.getElem?_cons_zero]; rfl) (by kernel_rfl) (by kernel_rfl) (by kernel_rfl) (by exact fun _ _ _ h => h) (Or.inl ⟨by rfl, ?_⟩) (by assumption) ?_
          rotate_left
          · intro w hSw; (try dsimp only at hSw); go_simp <;> with_reducible rfl
          try simp only [Act.put, List.setIfInBounds_toArray, List.set_cons_zero, List.set_cons_succ]
          refine wpAnyH_take (i := 11) (oi := _) (v := ?_) (by simp only [List.getElem?_toArray, List.getElem?_cons_succ, List.getElem?_cons_zero]; rfl) (by kernel_rfl) (by kernel_rfl) (by kernel_rfl) (by exact fun _ _ _ h => h) (Or.inl ⟨by rfl, ?_⟩) (by assumption) ?_
          rotate_left
          · intro w hSw; (try dsimp only at hSw); go_simp <;> with_reducible rfl
          try simp only [Act.put, List.setIfInBounds_toArray, List.set_cons_zero, List.set_cons_succ]
          refine wpAnyH_take (i := 16) (oi := _) (v := ?_) (by simp only [List.getElem?_toArray, List.getElem?_cons_succ, List.getElem?_cons_zero]; rfl) (by kernel_rfl) (by kernel_rfl) (by kernel_rfl) (by exact fun _ _ _ h => h) (Or.inl ⟨by rfl, ?_⟩) (by assumption) ?_
          rotate_left
          · intro w hSw; (try dsimp only at hSw); go_simp <;> with_reducible rfl
          try simp only [Act.put, List.setIfInBounds_toArray, List.set_cons_zero, List.set_cons_succ]
          refine wpAnyH_ready (rs := [1, 17]) (by kernel_rfl) (by simp) ?_
          refine AllReadyH.cons (o := _) (by simp only [List.getElem?_toArray, List.getElem?_cons_succ, List.getElem?_cons_zero]; rfl) (fun K hK => ?_) ?_
          · go_simp
            refine hK.out _ _ ?_ (fun hHeld => ?_)
            · (try dsimp only); first | (go_keep; done) | (simp [go_sem, *]; done) | go_keep
            clear hK K
            try simp only [Act.put, List.setIfInBounds_toArray, List.set_cons_zero, List.set_cons_succ]
            refine wpAnyH_ready (rs := [17]) (by kernel_rfl) (by simp) ?_
            refine AllReadyH.cons (o := _) (by simp only [List.getElem?_toArray, List.getElem?_cons_succ, List.getElem?_cons_zero]; rfl) (fun K hK => ?_) ?_
            · go_simp
              refine hK.out _ _ ?_ (fun hHeld => ?_)
              · (try dsimp only); first | (go_keep; done) | (simp [go_sem, *]; done) | go_keep
              clear hK K
              try simp only [Act.put, List.setIfInBounds_toArray, List.set_cons_zero, List.set_cons_succ]
              refine wpAnyH_ready (rs := [18]) (by kernel_rfl) (by simp) ?_
              refine AllReadyH.cons (o := _) (by simp only [List.getElem?_toArray, List.getElem?_cons_succ, List.getElem?_cons_zero]; rfl) (fun K hK => ?_) ?_
              · refine step_push rfl rfl slUnion (by show (0 : Nat) < 4; omega) (hG.keep (by repeat' (first | (with_reducible exact Zone.refl _ _ _) | (with_reducible refine Zone.setCell ?_ (by first | (left; omega) | (right; omega) | (left; simp; omega) | (right; simp; omega) | (left; simp; done)) _) | (with_reducible refine Zone.alloc ?_ (by first | omega | (simp; omega) | simp) _) | (with_reducible refine Zone.drew ?_))) (by repeat' (first | (with_reducible exact Zone.refl _ _ _) | (with_reducible refine Zone.setCell ?_ (by first | (left; omega) | (right; omega) | (left; simp; omega) | (right; simp; omega) | (left; simp; done)) _) | (with_reducible refine Zone.alloc ?_ (by first | omega | (simp; omega) | simp) _) | (with_reducible refine Zone.drew ?_)))) (by simp [Act.eval, Act.put]) (ad := ⟨wr.heap.size + 1, 0, none⟩) (c := 1) (by simp [Act.eval, Act.put]) (cs := [.int .i64 tm, .int .i64 tw, .int .i64 fr, .int .i64 tl]) (y := (tm, tw, fr, tl)) (lx := wr.heap.size) (hx' := wr.heap.size) (by
              intro j c hj
              match j, hj with
              | 0, hj => simp at hj; subst hj; simp [Addr.add, go_sem]
              | 1, hj => simp at hj; subst hj; simp [Addr.add, go_sem]
              | 2, hj => simp at hj; subst hj; simp [Addr.add, go_sem]
              | 3, hj => simp at hj; subst hj; simp [Addr.add, go_sem]) (It.flat (z := true) (w0 := wr) (fp := []) (repUni_mk HTm.out HTw.out h2 h3)) (by omega) (.inl (by first | omega | (simp only [World.size_alloc, World.size_setCell, World.size_drew] at *; omega) | (simp; omega) | simp)) (by unfold maxLen; omega) (by omega) (by first | omega | (simp; omega)) rfl rfl ?_
                rintro g5 cp5 w3 hG3 hg5 hat5 hlg5 hgw5 hb3
                have e_o0 := oldc (o := 0) hb3 lo_o (show _ = some vp by simp [go_sem, *])
                have e_o1 := oldc (o := 1) hb3 lo_o (show _ = some vu by simp [go_sem, *])
                have e_f := fun o => (hb3.frozen (p := ⟨V1.heap.size, o, none⟩) lo_o).trans (show _ = false by simp [go_sem, *])
                have hoff3 := hoff2.low (Below.trans (show Below V2.heap.size wr _ from (by repeat' (first | (with_reducible exact Below.refl _ _) | (with_reducible assumption) | (with_reducible refine Below.alloc ?_ (by first | omega | (simp; omega) | simp) _) | (with_reducible refine Below.setCell ?_ (by first | omega | (simp; omega) | simp) _) | (with_reducible refine Below.drew ?_) | (with_reducible refine below_drewN ?_ _)))) hb3)
                obtain ⟨hc5, hf5⟩ := bcell hb3
                (try simp only [World.size_alloc, World.size_drew] at hc5 hf5)
                have lw3 : V1.heap.size < w3.heap.size := by omega
                have cbx := fun o => World.cell?_of_block (a := ⟨wr.heap.size, o, none⟩) (hg5.block wr.heap.size (by first | omega | (simp; omega) | simp) (GL.notown hG (Nat.le_refl _)))
                refine hK.out _ _ ?_ (fun hHeld => ?_)
                · (try dsimp only); first | (go_keep; done) | (simp [go_sem, *]; done) | go_keep
                clear hK K
                try simp only [Act.put, List.setIfInBounds_toArray, List.set_cons_zero, List.set_cons_succ]
                refine wpAnyH_take (i := 19) (oi := _) (v := ?_) (by simp only [List.getElem?_toArray, List.getElem?_cons_succ, List.getElem?_cons_zero]; rfl) (by kernel_rfl) (by kernel_rfl) (by kernel_rfl) (by exact fun _ _ _ h => h) (Or.inl ⟨by rfl, ?_⟩) (by assumption) ?_
                rotate_left
                · intro w hSw; (try dsimp only at hSw); go_simp <;> with_reducible rfl
                try simp only [Act.put, List.setIfInBounds_toArray, List.set_cons_zero, List.set_cons_succ]
                refine wpAnyH_ready (rs := [20]) (by kernel_rfl) (by simp) ?_
                refine AllReadyH.cons (o := _) (by simp only [List.getElem?_toArray, List.getElem?_cons_succ, List.getElem?_cons_zero]; rfl) (fun K hK => ?_) ?_
                · go_simp
                  refine hK.out _ _ ?_ (fun hHeld => ?_)
                  · (try dsimp only); first | (go_keep; done) | (simp [go_sem, *]; done) | go_keep
                  clear hK K
                  try simp only [Act.put, List.setIfInBounds_toArray, List.set_cons_zero, List.set_cons_succ]
                  refine wpAnyH_done (by kernel_rfl) ?_ _
                  have HG3 := Lib.hid (show GL true V2.heap.size V2.heap.size w3.heap.size w3 76 _ ((f.2.take (k + 1)).map (moveU (inv xs))) by rw [HX2.out]; exact hG3)
                  clear hG hG3 hb3 hoff2
                  go_wp2
                  go_roundw
                  case rel => exact ⟨k + 1, _, by omega, by go_num, by simp [go_sem, *], by simp [go_sem, *], fun o => frozen_setCell _ _ _ _ _ (e_f o), Lib.hid ((HG3.out.keep (by repeat' (first | (with_reducible exact Zone.refl _ _ _) | (with_reducible refine Zone.setCell ?_ (Or.inl (by first | omega | (simp; omega) | simp)) _) | (with_reducible refine Zone.alloc ?_ (by first | omega | (simp; omega) | simp) _) | (with_reducible refine Zone.drew ?_))) (by repeat' (first | (with_reducible exact Zone.refl _ _ _) | (with_reducible refine Zone.setCell ?_ (Or.inl (by first | omega | (simp; omega) | simp)) _) | (with_reducible refine Zone.alloc ?_ (by first | omega | (simp; omega) | simp) _) | (with_reducible refine Zone.drew ?_)))).mono (by simp)), hoff3.setCell (by simp) _⟩
                  case measure => simp [intOf]; omega
                exact AllReadyH.nil
              exact AllReadyH.nil
            exact AllReadyH.nil
          refine AllReadyH.cons (o := _) (by simp only [List.getElem?_toArray, List.getElem?_cons_succ, List.getElem?_cons_zero]; rfl) (fun K hK => ?_) ?_
          · go_simp
            refine hK.out _ _ ?_ (fun hHeld => ?_)
            · (try dsimp only); first | (go_keep; done) | (simp [go_sem, *]; done) | go_keep
            clear hK K
            try simp only [Act.put, List.setIfInBounds_toArray, List.set_cons_zero, List.set_cons_succ]
            refine wpAnyH_ready (rs := [1]) (by kernel_rfl) (by simp) ?_
            refine AllReadyH.cons (o := _) (by simp only [List.getElem?_toArray, List.getElem?_cons_succ, List.getElem?_cons_zero]; rfl) (fun K hK => ?_) ?_
            · go_simp
              refine hK.out _ _ ?_ (fun hHeld => ?_)
              · (try dsimp only); first | (go_keep; done) | (simp [go_sem, *]; done) | go_keep
              clear hK K
              try simp only [Act.put, List.setIfInBounds_toArray, List.set_cons_zero, List.set_cons_succ]
              refine wpAnyH_ready (rs := [18]) (by kernel_rfl) (by simp) ?_
              refine AllReadyH.cons (o := _) (by simp only [List.getElem?_toArray, List.getElem?_cons_succ, List.getElem?_cons_zero]; rfl) (fun K hK => ?_) ?_
              · refine step_push rfl rfl slUnion (by show (0 : Nat) < 4; omega) (hG.keep (by repeat' (first | (with_reducible exact Zone.refl _ _ _) | (with_reducible refine Zone.setCell ?_ (by first | (left; omega) | (right; omega) | (left; simp; omega) | (right; simp; omega) | (left; simp; done)) _) | (with_reducible refine Zone.alloc ?_ (by first | omega | (simp; omega) | simp) _) | (with_reducible refine Zone.drew ?_))) (by repeat' (first | (with_reducible exact Zone.refl _ _ _) | (with_reducible refine Zone.setCell ?_ (by first | (left; omega) | (right; omega) | (left; simp; omega) | (right; simp; omega) | (left; simp; done)) _) | (with_reducible refine Zone.alloc ?_ (by first | omega | (simp; omega) | simp) _) | (with_reducible refine Zone.drew ?_)))) (by simp [Act.eval, Act.put]) (ad := ⟨wr.heap.size + 1, 0, none⟩) (c := 1) (by simp [Act.eval, Act.put]) (cs := [.int .i64 tm, .int .i64 tw, .int .i64 fr, .int .i64 tl]) (y := (tm, tw, fr, tl)) (lx := wr.heap.size) (hx' := wr.heap.size) (by
              intro j c hj
              match j, hj with
              | 0, hj => simp at hj; subst hj; simp [Addr.add, go_sem]
              | 1, hj => simp at hj; subst hj; simp [Addr.add, go_sem]
              | 2, hj => simp at hj; subst hj; simp [Addr.add, go_sem]
              | 3, hj => simp at hj; subst hj; simp [Addr.add, go_sem]) (It.flat (z := true) (w0 := wr) (fp := []) (repUni_mk HTm.out HTw.out h2 h3)) (by omega) (.inl (by first | omega | (simp only [World.size_alloc, World.size_setCell, World.size_drew] at *; omega) | (simp; omega) | simp)) (by unfold maxLen; omega) (by omega) (by first | omega | (simp; omega)) rfl rfl ?_
                rintro g5 cp5 w3 hG3 hg5 hat5 hlg5 hgw5 hb3
                have e_o0 := oldc (o := 0) hb3 lo_o (show _ = some vp by simp [go_sem, *])
                have e_o1 := oldc (o := 1) hb3 lo_o (show _ = some vu by simp [go_sem, *])
                have e_f := fun o => (hb3.frozen (p := ⟨V1.heap.size, o, none⟩) lo_o).trans (show _ = false by simp [go_sem, *])
                have hoff3 := hoff2.low (Below.trans (show Below V2.heap.size wr _ from (by repeat' (first | (with_reducible exact Below.refl _ _) | (with_reducible assumption) | (with_reducible refine Below.alloc ?_ (by first | omega | (simp; omega) | simp) _) | (with_reducible refine Below.setCell ?_ (by first | omega | (simp; omega) | simp) _) | (with_reducible refine Below.drew ?_) | (with_reducible refine below_drewN ?_ _)))) hb3)
                obtain ⟨hc5, hf5⟩ := bcell hb3
                (try simp only [World.size_alloc, World.size_drew] at hc5 hf5)
                have lw3 : V1.heap.size < w3.heap.size := by omega
                have cbx := fun o => World.cell?_of_block (a := ⟨wr.heap.size, o, none⟩) (hg5.block wr.heap.size (by first | omega | (simp; omega) | simp) (GL.notown hG (Nat.le_refl _)))
                refine hK.out _ _ ?_ (fun hHeld => ?_)
                · (try dsimp only); first | (go_keep; done) | (simp [go_sem, *]; done) | go_keep
                clear hK K
                try simp only [Act.put, List.setIfInBounds_toArray, List.set_cons_zero, List.set_cons_succ]
                refine wpAnyH_take (i := 19) (oi := _) (v := ?_) (by simp only [List.getElem?_toArray, List.getElem?_cons_succ, List.getElem?_cons_zero]; rfl) (by kernel_rfl) (by kernel_rfl) (by kernel_rfl) (by exact fun _ _ _ h => h) (Or.inl ⟨by rfl, ?_⟩) (by assumption) ?_
                rotate_left
                · intro w hSw; (try dsimp only at hSw); go_simp <;> with_reducible rfl
                try simp only [Act.put, List.setIfInBounds_toArray, List.set_cons_zero, List.set_cons_succ]
                refine wpAnyH_ready (rs := [20]) (by kernel_rfl) (by simp) ?_
                refine AllReadyH.cons (o := _) (by simp only [List.getElem?_toArray, List.getElem?_cons_succ, List.getElem?_cons_zero]; rfl) (fun K hK => ?_) ?_
                · go_simp
                  refine hK.out _ _ ?_ (fun hHeld => ?_)
                  · (try dsimp only); first | (go_keep; done) | (simp [go_sem, *]; done) | go_keep
                  clear hK K
                  try simp only [Act.put, List.setIfInBounds_toArray, List.set_cons_zero, List.set_cons_succ]
                  refine wpAnyH_done (by kernel_rfl) ?_ _
                  have HG3 := Lib.hid (show GL true V2.heap.size V2.heap.size w3.heap.size w3 76 _ ((f.2.take (k + 1)).map (moveU (inv xs))) by rw [HX2.out]; exact hG3)
                  clear hG hG3 hb3 hoff2
                  go_wp2
                  go_roundw
                  case rel => exact ⟨k + 1, _, by omega, by go_num, by simp [go_sem, *], by simp [go_sem, *], fun o => frozen_setCell _ _ _ _ _ (e_f o), Lib.hid ((HG3.out.keep (by repeat' (first | (with_reducible exact Zone.refl _ _ _) | (with_reducible refine Zone.setCell ?_ (Or.inl (by first | omega | (simp; omega) | simp)) _) | (with_reducible refine Zone.alloc ?_ (by first | omega | (simp; omega) | simp) _) | (with_reducible refine Zone.drew ?_))) (by repeat' (first | (with_reducible exact Zone.refl _ _ _) | (with_reducible refine Zone.setCell ?_ (Or.inl (by first | omega | (simp; omega) | simp)) _) | (with_reducible refine Zone.alloc ?_ (by first | omega | (simp; omega) | simp) _) | (with_reducible refine Zone.drew ?_)))).mono (by simp)), hoff3.setCell (by simp) _⟩
                  case measure => simp [intOf]; omega
                exact AllReadyH.nil
              exact AllReadyH.nil
            exact AllReadyH.nil
          exact AllReadyH.nil
        · obtain rfl : k = f.2.length := by omega
          have nI2 : ¬ (f.2.length : Int) < (f.2.length : Int) := by omega
          have q_r0 := offc hoff2 hz2 (.inl (by omega)) lr2 q_r0
          have q_r1 := offc hoff2 hz2 (.inl (by omega)) lr2 q_r1
          have f_r : ∀ o, wr.frozen? ⟨w.heap.size + 1, o, none⟩ = false := fun o => (World.frozen?_of_block (a := ⟨w.heap.size + 1, o, none⟩) (hoff2.block _ lr2 (by simp; omega))).trans (f_r o)
          have l_r : w.heap.size + 1 < wr.heap.size := by omega
          have hGu := hG.out
          rw [List.take_length] at hGu
          have hGp := HG2.out.keep (hoff2.zone (Nat.le_refl _) hz2 (.inl (by omega))) (hoff2.zone (Nat.le_refl _) hz2 (.inl (by omega)))
          obtain ⟨aP, cP, rfl, -, -⟩ := hGp.len
          obtain ⟨aU, cU, rfl, -, -⟩ := hGu.len
          have HO := Lib.hid (show Ow W0.heap.size wr.heap.size wr [_, _] (ordF f xs) from Ow.pair (GL.ow (l0 := W0.heap.size) hGp (Nat.le_refl _) (Nat.le_refl _)) (GL.ow (l0 := V2.heap.size) hGu (Nat.le_refl _) (Nat.le_refl _)) (.inl (Nat.le_refl _)) (l := W0.heap.size) (h := wr.heap.size) (by omega) (by omega) (by omega) (by omega))
          obtain ⟨nP, hnP⟩ : ∃ n, n = (ordP f.1 (inv xs) xs).length := ⟨_, rfl⟩
          obtain ⟨nU, hnU⟩ : ∃ n, n = (f.2.map (moveU (inv xs))).length := ⟨_, rfl⟩
          rw [← hnP, ← hnU] at HO
          rw [← hnP] at q_o0
          rw [← hnU] at q_o1
          clear hG hGu hGp hnP hnU
          have l_o2 : V1.heap.size < wr.heap.size := by omega
          have ho : Ow W0.heap.size wr.heap.size wr [.slice aP nP cP, .slice aU nU cU] (ordF f xs) := HO.out
          have hBwr : Below w.heap.size w wr := hbw3
          have hlW : w.heap.size ≤ W0.heap.size := by omega
          clear HO
          have q_o1 := q_o1
          go_wp2_with fail
          refine (isFamS_b _ _ _ (ordF f xs) (ho.rd.below (by repeat' (first | (with_reducible exact Below.refl _ _) | (with_reducible assumption) | (with_reducible refine Below.alloc ?_ (by first | omega | (simp; omega) | simp) _) | (with_reducible refine Below.setCell ?_ (by first | omega | (simp; omega) | simp) _) | (with_reducible refine Below.drew ?_) | (with_reducible refine below_drewN ?_ _)))) r3 H3.out).mono ?_
          rintro e2 w2 ⟨rfl, hbw2⟩
          have hpw2 : Below wr.heap.size wr w2 := Below.after (by repeat' (first | (with_reducible exact Below.refl _ _) | (with_reducible assumption) | (with_reducible refine Below.alloc ?_ (by first | omega | (simp; omega) | simp) _) | (with_reducible refine Below.setCell ?_ (by first | omega | (simp; omega) | simp) _) | (with_reducible refine Below.drew ?_) | (with_reducible refine below_drewN ?_ _))) hbw2 (by first | omega | (simp only [World.size_alloc, World.size_setCell, World.size_drew] at *; omega) | (simp; omega) | simp)
          have sw2 := hpw2.size
          have hBw2 : Below w.heap.size w w2 := Below.trans hBwr (Below.mono hpw2 hBwr.size)
          have q_r0 := oldc hpw2 l_r q_r0
          have q_r1 := oldc hpw2 l_r q_r1
          have q_o0 := oldc hpw2 l_o2 q_o0
          have q_o1 := oldc hpw2 l_o2 q_o1
          have f_r : ∀ o, w2.frozen? ⟨w.heap.size + 1, o, none⟩ = false := fun o => (hpw2.frozen (p := ⟨w.heap.size + 1, o, none⟩) l_r).trans (f_r o)
          have l_o2 := Nat.lt_of_lt_of_le l_o2 sw2
          have l_r := Nat.lt_of_lt_of_le l_r sw2
          have ho := Ow.below ho hpw2
          clear hbw2 hpw2
          have n1 : ¬ w.heap.size + 1 = V1.heap.size := by omega
          have n2 : ¬ V1.heap.size = w.heap.size + 1 := by omega
          have n3 : w.heap.size + 1 < W0.heap.size := by omega
          cases r3
          · obtain rfl : V = false := by rw [HV.out]; rfl
            have HF := Lib.hid (show X = ([], []) by rw [HX.out]; rfl)
            clear HX ho
            go_wp2
            exact bodyPost_ret (v := .tuple #[.agg #[.slice none 0 0, .slice none 0 0], .bool false]) (by simp [results, Try.results42, go_sem, *]) rfl ⟨_, _, rfl, by rw [HF.out]; exact Ow.nilF _ _ _, (by repeat' (first | (with_reducible exact Below.refl _ _) | (with_reducible assumption) | (with_reducible refine Below.alloc ?_ (by first | omega | (simp; omega) | simp) _) | (with_reducible refine Below.setCell ?_ (by first | omega | (simp; omega) | simp) _) | (with_reducible refine Below.drew ?_) | (with_reducible refine below_drewN ?_ _)))⟩
          obtain rfl : V = true := by rw [HV.out]; rfl
          have HO := Lib.hid (show Ow _ _ _ _ X by rw [HX.out]; exact ho)
          clear HX ho
          go_wp2
          exact bodyPost_ret (v := .tuple #[.agg #[.slice aP nP cP, .slice aU nU cU], .bool true]) (by simp [results, Try.results42, go_sem, *]) rfl ⟨_, _, rfl, (HO.out.keep (by repeat' (first | (with_reducible exact Zone.refl _ _ _) | (with_reducible refine Zone.setCell ?_ (by first | (left; omega) | (right; omega) | (left; simp; omega) | (right; simp; omega) | (left; simp; done)) _) | (with_reducible refine Zone.alloc ?_ (by first | omega | (simp; omega) | simp) _) | (with_reducible refine Zone.drew ?_)))).mono (by omega) (by simp; omega), (by repeat' (first | (with_reducible exact Below.refl _ _) | (with_reducible assumption) | (with_reducible refine Below.alloc ?_ (by first | omega | (simp; omega) | simp) _) | (with_reducible refine Below.setCell ?_ (by first | omega | (simp; omega) | simp) _) | (with_reducible refine Below.drew ?_) | (with_reducible refine below_drewN ?_ _)))⟩
end Go.Proofs.Ytomigopkejlmcaa
