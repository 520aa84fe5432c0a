/- Contract of ordered (impl). Written by prm_gen2.py. -/
import Derived.Test.YtomigopkejlmcaaPrm
import Derived.Test.YtomigopkejlmcaaGrow3
import Derived.Test.YtomigopkejlmcaaErrI
namespace Go.Proofs.Ytomigopkejlmcaa
set_option linter.unusedVariables false
set_option linter.unusedSimpArgs false
open Go.RowKit

set_option maxRecDepth 20000 in
set_option maxHeartbeats 8000000 in
theorem orderedI_any {z z' : Bool} {lo hi lo' hi' : Nat} (w : World) (v v2 v3 : Value) (f : Fam) (xs : List Int) (h : Rd z lo hi w [v, v2] f) (h' : Rd z' lo' hi' w [v3] xs) (hV : permOk f xs = true) :
    Calls Try.prog 75 #[.agg #[v, v2], v3] w (PostOw2 w (ordF f xs)) := by
  obtain ⟨hfam, hxl, hper⟩ := permOk_facts hV
  obtain ⟨h40, h60, hP, hU⟩ := famB_facts hfam
  have HR := Lib.hid (isPerm_range hper)
  have HT := Lib.hid (show ∀ i, i < xs.length → I64 (getI (inv xs) (i : Int)) from fun i hi => by have := getI_in (inv_range (xs := xs)) (i := i) (by rw [inv_len]; exact hi); unfold I64; omega)
  have HIL := Lib.hid (inv_len xs)
  have HP := Lib.hid hP
  have HU := Lib.hid hU
  have hx40 : xs.length ≤ 40 := by omega
  obtain ⟨ha, hb⟩ := h.fam
  obtain ⟨ao, n, cap, rfl, hn, hnc, hcm, hnone⟩ := ha.shape
  obtain ⟨ao2, n2, cap2, rfl, hn2, hnc2, hcm2, hnone2⟩ := hb.shape
  subst hn hn2
  obtain ⟨go, n5, gap, rfl, hn5, hnc5, hcm5, hnone5⟩ := h'.shape
  subst hn5
  have HXL := Lib.hid hxl
  clear hxl hper hfam hV hP hU h hnone hnone2 hnone5
  unfold maxLen at *
  go_enter Try.func75, Try.ntmps75
  go_wp2_with (at_make; refine wpList_mk (α := Int) rfl rfl slInt (y0 := 0) (fun _ => ⟨rfl, by unfold I64; omega, rfl⟩) rfl rfl rfl rfl (by omega) (by unfold maxLen; omega) ?_; intro wA how hbA hlt1)
  simp only [World.size_alloc] at how hlt1
  have hpwA : Below w.heap.size w wA := Below.after (by repeat' (first | (with_reducible exact Below.refl _ _) | (with_reducible assumption) | (with_reducible refine Below.alloc ?_ (by first | omega | (simp; omega) | simp) _) | (with_reducible refine Below.setCell ?_ (by first | omega | (simp; omega) | simp) _) | (with_reducible refine Below.drew ?_) | (with_reducible refine below_drewN ?_ _))) hbA (by first | omega | (simp only [World.size_alloc, World.size_setCell, World.size_drew] at *; omega) | (simp; omega) | simp)
  have swA := hpwA.size
  have hBwA : Below w.heap.size w wA := hpwA
  have l_f : w.heap.size < wA.heap.size := by have := hbA.size; simp at this; omega
  have q_f0 : wA.cell? ⟨w.heap.size, 0, none⟩ = some (.slice ao f.1.length cap) := oldc hbA (by first | omega | (simp; omega) | (simp; done)) (by simp [go_sem])
  have q_f1 : wA.cell? ⟨w.heap.size, 1, none⟩ = some (.slice ao2 f.2.length cap2) := oldc hbA (by first | omega | (simp; omega) | (simp; done)) (by simp [go_sem])
  have l_r : w.heap.size + 1 < wA.heap.size := by have := hbA.size; simp at this; omega
  have q_r0 : wA.cell? ⟨w.heap.size + 1, 0, none⟩ = some (.slice none 0 0) := oldc hbA (by first | omega | (simp; omega) | (simp; done)) (by simp [go_sem])
  have q_r1 : wA.cell? ⟨w.heap.size + 1, 1, none⟩ = some (.slice none 0 0) := oldc hbA (by first | omega | (simp; omega) | (simp; done)) (by simp [go_sem])
  have f_r : ∀ o, wA.frozen? ⟨w.heap.size + 1, o, none⟩ = false := fun o => (hbA.frozen (p := ⟨w.heap.size + 1, o, none⟩) (by first | omega | (simp; omega) | (simp; done))).trans (by simp [go_sem])
  clear hbA
  have hz1 := inz1 (w.heap.size + 1 + 1)
  have HS0 := Lib.hid (show invSet (List.replicate xs.length 0) 0 (xs.drop 0) = inv xs from rfl)
  have how0 := Lib.hid how
  clear how
  have sA := hBwA.size
  go_loopw [6, 7, 19] (fun _ _ s19 wr => ∃ (k : Nat) (s : List Int), k ≤ xs.length ∧ s19 = .int .i64 k ∧ Ow (w.heap.size + 1 + 1) (w.heap.size + 1 + 1 + 1) wr [.slice (some ⟨w.heap.size + 1 + 1, 0, none⟩) xs.length xs.length] s ∧ Hid (invSet s k (xs.drop k) = inv xs) ∧ OffF [w.heap.size + 1 + 1] wA wr) (fun _ _ s19 _ => xs.length - (intOf s19).toNat)
  case atStart => exact ⟨0, _, Nat.zero_le _, rfl, how0.out, HS0, OffF.refl _ _⟩
  case round =>
    clear how0 HS0
    obtain ⟨V1, hV1⟩ : ∃ wm : World, wm = wr := ⟨_, rfl⟩
    subst hV1
    obtain ⟨k, s, hk, rfl, hm, HS, hoff⟩ := hrel
    have hM := Lib.hid hm
    clear hm
    have sR := hoff.size
    have hbw : Below w.heap.size w V1 := hBwA.trans (hoff.toBelow sA (fun b hb => by simp at hb; omega))
    have q_f0 := offc hoff hz1 (.inl (by omega)) l_f q_f0
    have q_f1 := offc hoff hz1 (.inl (by omega)) l_f q_f1
    have q_r0 := offc hoff hz1 (.inl (by omega)) l_r q_r0
    have q_r1 := offc hoff hz1 (.inl (by omega)) l_r q_r1
    have f_r : ∀ o, V1.frozen? ⟨w.heap.size + 1, o, none⟩ = false := fun o => (World.frozen?_of_block (a := ⟨w.heap.size + 1, o, none⟩) (hoff.block _ l_r (by simp))).trans (f_r o)
    have l_f := Nat.lt_of_lt_of_le l_f sR
    have l_r := Nat.lt_of_lt_of_le l_r sR
    by_cases hlt : k < xs.length
    · have hI : (k : Int) < (xs.length : Int) := by omega
      obtain ⟨b, off, x, rfl, hx, hc, hx1, hx2, _⟩ := (h'.below hbw).int_at hlt
      have hin := HR.out x (List.mem_of_getElem? hx.out)
      obtain ⟨m, rfl⟩ := Int.eq_ofNat_of_zero_le hin.1
      have hmm : m < xs.length := by omega
      have hmI : (m : Int) < xs.length := by omega
      have hp' := HS.out
      rw [drop_cons hx.out, invSet] at hp'
      have HN := Lib.hid hp'
      obtain ⟨y, hy, hcy, hy1, hy2, hfy, _⟩ := hM.out.int_at0 (i := m) hmm
      have HO := Lib.hid (hM.out.int_set0 (i := m) hmm (y := k) ⟨by omega, by omega⟩)
      clear hp' HS hx h' hin hM hy HR HU HP
      go_wp2
      go_roundw
      case rel => exact ⟨k + 1, _, by omega, by go_num, HO.out, HN.out, hoff.setCell (by simp) _⟩
      case measure => simp [intOf]; omega
    · obtain rfl : k = xs.length := by omega
      have nI : ¬ (xs.length : Int) < (xs.length : Int) := by omega
      have HF := Lib.hid (show s = inv xs by have := HS.out; rw [List.drop_length] at this; exact this)
      have hT := Lib.hid (show Ow (w.heap.size + 1 + 1) (w.heap.size + 1 + 1 + 1) V1 [.slice (some ⟨w.heap.size + 1 + 1, 0, none⟩) xs.length xs.length] (inv xs) by rw [← HF.out]; exact hM.out)
      clear HS HF hM
      have sV := hbw.size
      have lt2 : w.heap.size + 1 + 1 < V1.heap.size := by omega
      go_wp2

      have hz2 := inz1 V1.heap.size
      have qf0 : (V1.alloc (.cells #[.slice none 0 0, .slice none 0 0] 32)).cell? ⟨w.heap.size, 0, none⟩ = some (.slice ao f.1.length cap) := oldc ((Below.refl V1.heap.size V1).alloc (Nat.le_refl _) _) l_f q_f0
      have qf1 : (V1.alloc (.cells #[.slice none 0 0, .slice none 0 0] 32)).cell? ⟨w.heap.size, 1, none⟩ = some (.slice ao2 f.2.length cap2) := oldc ((Below.refl V1.heap.size V1).alloc (Nat.le_refl _) _) l_f q_f1
      have qr0 : (V1.alloc (.cells #[.slice none 0 0, .slice none 0 0] 32)).cell? ⟨w.heap.size + 1, 0, none⟩ = some (.slice none 0 0) := oldc ((Below.refl V1.heap.size V1).alloc (Nat.le_refl _) _) l_r q_r0
      have qr1 : (V1.alloc (.cells #[.slice none 0 0, .slice none 0 0] 32)).cell? ⟨w.heap.size + 1, 1, none⟩ = some (.slice none 0 0) := oldc ((Below.refl V1.heap.size V1).alloc (Nat.le_refl _) _) l_r q_r1
      have fr : ∀ o, (V1.alloc (.cells #[.slice none 0 0, .slice none 0 0] 32)).frozen? ⟨w.heap.size + 1, o, none⟩ = false := fun o => (((Below.refl V1.heap.size V1).alloc (Nat.le_refl _) _).frozen (p := ⟨w.heap.size + 1, o, none⟩) l_r).trans (f_r o)
      have hT0 := Lib.hid (hT.out.below ((Below.refl V1.heap.size V1).alloc (Nat.le_refl _) (.cells #[.slice none 0 0, .slice none 0 0] 32)))
      have hbw0 : Below w.heap.size w (V1.alloc (.cells #[.slice none 0 0, .slice none 0 0] 32)) := hbw.alloc (by omega) _
      clear q_f0 q_f1 q_r0 q_r1 f_r hT
      obtain ⟨W0, hW0⟩ : ∃ W, W = (V1.alloc (.cells #[.slice none 0 0, .slice none 0 0] 32)) := ⟨_, rfl⟩
      have z0 : W0.heap.size = V1.heap.size + 1 := by rw [hW0]; simp
      rw [← hW0] at qf0 qf1 qr0 qr1 fr hT0 hbw0
      have HW0 := Lib.hid hW0
      have Z0 := Lib.hid z0
      have zl : V1.heap.size < W0.heap.size := by omega
      have zg : W0.heap.size ≤ V1.heap.size + 1 := by omega
      have lo_f : w.heap.size < W0.heap.size := by omega
      have lo_r : w.heap.size + 1 < W0.heap.size := by omega
      have hs1 := Lib.hid (show (V1.alloc (.cells #[.slice none 0 0, .slice none 0 0] 32)).cell? ⟨V1.heap.size, 0, none⟩ = some (.slice none 0 0) ∧ (V1.alloc (.cells #[.slice none 0 0, .slice none 0 0] 32)).cell? ⟨V1.heap.size, 1, none⟩ = some (.slice none 0 0) ∧ ∀ o, (V1.alloc (.cells #[.slice none 0 0, .slice none 0 0] 32)).frozen? ⟨V1.heap.size, o, none⟩ = false from ⟨by simp [go_sem], by simp [go_sem], fun o => by simp [go_sem]⟩)
      clear z0 hW0
      go_loopw [10, 11, 31] (fun _ _ s31 wr => ∃ (k : Nat) (vp : Value), k ≤ xs.length ∧ s31 = .int .i64 k ∧ wr.cell? ⟨V1.heap.size, 0, none⟩ = some vp ∧ wr.cell? ⟨V1.heap.size, 1, none⟩ = some (.slice none 0 0) ∧ (∀ o, wr.frozen? ⟨V1.heap.size, o, none⟩ = false) ∧ Hid (GL true W0.heap.size W0.heap.size wr.heap.size wr 91 vp (ordP f.1 (inv xs) (xs.take k))) ∧ OffF [V1.heap.size] W0 wr) (fun _ _ s31 _ => xs.length - (intOf s31).toNat)
      case atStart => exact ⟨0, _, Nat.zero_le _, rfl, hs1.out.1, hs1.out.2.1, hs1.out.2.2, Lib.hid (GL.start _ _ _ _ _ _), by rw [← HW0.out]; exact OffF.refl _ _⟩
      case round =>
        clear hs1
        obtain ⟨k, vp, hk, rfl, q_o0, q_o1, f_o, hG, hoff2⟩ := hrel
        have sR := hoff2.size
        have hbw2 : Below w.heap.size w wr := hbw0.trans (hoff2.toBelow hbw0.size (fun b hb => by simp at hb; omega))
        have q_f0 := offc hoff2 hz2 (.inl (by omega)) lo_f qf0
        have l_f : w.heap.size < wr.heap.size := by omega
        have l_o : V1.heap.size < wr.heap.size := by omega
        by_cases hlt : k < xs.length
        · have hI : (k : Int) < (xs.length : Int) := by omega
          obtain ⟨b, off, x, rfl, HK, hc, hx1, hx2, -, -, bl, -⟩ := (h'.below hbw2).int_at hlt
          have hin := HR.out x (List.mem_of_getElem? HK.out)
          obtain ⟨m, rfl⟩ := Int.eq_ofNat_of_zero_le hin.1
          have hmm : m < f.1.length := by have := HXL.out; omega
          have hmI : (m : Int) < (f.1.length : Int) := by omega
          obtain ⟨pb, poff, nm, sx, fa, mo, bo, di, rfl, HP1, p0, p1, p2, p3, p4, p5, h0, h1, h2, h3, h4, h5, -, -, pbl, -⟩ := (ha.below hbw2).per_at hmm
          obtain ⟨-, -, -, hfa, hmo, -⟩ := HP.out.at hmm HP1.out
          have hTr := hT0.out.rd.keep (hoff2.zone (l := w.heap.size + 1 + 1) (u := w.heap.size + 1 + 1 + 1) (by omega) hz2 (.inr (by omega)))
          have nO1 : ¬ V1.heap.size = wr.heap.size := by omega
          have nO2 : ¬ wr.heap.size = V1.heap.size := by omega
          have lT : w.heap.size + 1 + 1 < wr.heap.size := by omega
          have nT1 : ¬ w.heap.size + 1 + 1 = wr.heap.size := by omega
          have nT2 : ¬ wr.heap.size = w.heap.size + 1 + 1 := by omega
          have hll := ordP_len f.1 (inv xs) (xs.take k)
          rw [List.length_take] at hll
          have hll2 : (ordP f.1 (inv xs) (xs.take k)).length ≤ 40 := by omega
          clear hll hin h' ha hb HU
          rcases hfa with rfl | ⟨hfa0, hfa1⟩
          · rcases hmo with rfl | ⟨hmo0, hmo1⟩
            · skip
              have HX := Lib.hid (show ordP f.1 (inv xs) (xs.take (k + 1)) = ordP f.1 (inv xs) (xs.take k) ++ [((nm, sx, (-1), (-1), bo, di) : Per)] by rw [ordP_snoc HK.out HP1.out, moveP]; simp [moveI])
              clear HK HP1 HP HT hTr HR
              have hG := hG.out
              go_wp2_with (at_builtin; refine wpList_push rfl rfl slPerson (by show (0 : Nat) < 6; omega) (hG.keep (by repeat' (first | (with_reducible exact Zone.refl _ _ _) | (with_reducible refine Zone.setCell ?_ (by first | (left; omega) | (right; omega) | (left; simp; omega) | (right; simp; omega) | (left; simp; done)) _) | (with_reducible refine Zone.alloc ?_ (by first | omega | (simp; omega) | simp) _) | (with_reducible refine Zone.drew ?_))) (by repeat' (first | (with_reducible exact Zone.refl _ _ _) | (with_reducible refine Zone.setCell ?_ (by first | (left; omega) | (right; omega) | (left; simp; omega) | (right; simp; omega) | (left; simp; done)) _) | (with_reducible refine Zone.alloc ?_ (by first | omega | (simp; omega) | simp) _) | (with_reducible refine Zone.drew ?_)))) rfl (ad := ⟨wr.heap.size + 1, 0, none⟩) rfl (cs := [.string nm, .int .i64 sx, .int .i64 (-1), .int .i64 (-1), .int .i64 bo, .int .i64 di]) (y := (nm, sx, (-1), (-1), bo, di)) (lx := wr.heap.size) (hx' := wr.heap.size) ?p1nn (It.flat (z := true) (w0 := wr) (fp := []) (repPer_mk h0 h1 (by unfold I64; omega) (by unfold I64; omega) h4 h5)) (by omega) (.inl (by first | omega | (simp only [World.size_alloc, World.size_setCell, World.size_drew] at *; omega) | (simp; omega) | simp)) (by unfold maxLen; omega) (by omega) ?p2nn ?_)
              case p1nn =>
                intro j c hj
                match j, hj with
                | 0, hj => simp at hj; subst hj; simp [Addr.add]
                | 1, hj => simp at hj; subst hj; simp [Addr.add]
                | 2, hj => simp at hj; subst hj; simp [Addr.add]
                | 3, hj => simp at hj; subst hj; simp [Addr.add]
                | 4, hj => simp at hj; subst hj; simp [Addr.add]
                | 5, hj => simp at hj; subst hj; simp [Addr.add]
              case p2nn => first | omega | (simp; omega)
              intro v5 w3 hG3 _ hb3
              obtain ⟨n5, g5, cp5, rfl⟩ : ∃ n g c, v5 = .slice (some ⟨g, 0, none⟩) n c := by obtain ⟨g, c, e, -⟩ := hG3.form (by simp); exact ⟨_, g, c, e⟩
              have e_o0 := oldc (o := 0) hb3 (show V1.heap.size < W0.heap.size from zl) (show _ = some vp by simp [go_sem, *])
              have e_o1 := oldc (o := 1) hb3 (show V1.heap.size < W0.heap.size from zl) (show _ = some (.slice none 0 0) by simp [go_sem, *])
              have e_f := fun o => (hb3.frozen (p := ⟨V1.heap.size, o, none⟩) zl).trans (show _ = false by simp [go_sem, *])
              have hoff3 := hoff2.low (Below.trans (show Below W0.heap.size wr _ from (by repeat' (first | (with_reducible exact Below.refl _ _) | (with_reducible assumption) | (with_reducible refine Below.alloc ?_ (by first | omega | (simp; omega) | simp) _) | (with_reducible refine Below.setCell ?_ (by first | omega | (simp; omega) | simp) _) | (with_reducible refine Below.drew ?_) | (with_reducible refine below_drewN ?_ _)))) hb3)
              have HG3 := Lib.hid (show GL true W0.heap.size W0.heap.size w3.heap.size w3 91 _ (ordP f.1 (inv xs) (xs.take (k + 1))) by rw [HX.out]; exact hG3)
              clear hG hG3 hb3 hoff2
              go_wp2
              go_roundw
              case rel => exact ⟨k + 1, _, by omega, by go_num, by simp [go_sem, *], by simp [go_sem, *], fun o => frozen_setCell _ _ _ _ _ (e_f o), Lib.hid ((HG3.out.keep (by repeat' (first | (with_reducible exact Zone.refl _ _ _) | (with_reducible refine Zone.setCell ?_ (Or.inl (by first | omega | (simp; omega) | simp)) _) | (with_reducible refine Zone.alloc ?_ (by first | omega | (simp; omega) | simp) _) | (with_reducible refine Zone.drew ?_))) (by repeat' (first | (with_reducible exact Zone.refl _ _ _) | (with_reducible refine Zone.setCell ?_ (Or.inl (by first | omega | (simp; omega) | simp)) _) | (with_reducible refine Zone.alloc ?_ (by first | omega | (simp; omega) | simp) _) | (with_reducible refine Zone.drew ?_)))).mono (by simp)), hoff3.setCell (by simp) _⟩
              case measure => simp [intOf]; omega
            · skip
              obtain ⟨v, rfl⟩ := Int.eq_ofNat_of_zero_le hmo0
              have hvn : v < xs.length := by have := HXL.out; omega
              have vI : (v : Int) < (xs.length : Int) := by omega
              have cv := hTr.num (i := v) hvn
              rw [Nat.zero_add] at cv
              have HTv := Lib.hid (HT.out v hvn)
              have HX := Lib.hid (show ordP f.1 (inv xs) (xs.take (k + 1)) = ordP f.1 (inv xs) (xs.take k) ++ [((nm, sx, (-1), (getI (inv xs) (v : Int)), bo, di) : Per)] by rw [ordP_snoc HK.out HP1.out, moveP]; simp [moveI])
              clear HK HP1 HP HT hTr HR
              have hG := hG.out
              go_wp2_with (at_builtin; refine wpList_push rfl rfl slPerson (by show (0 : Nat) < 6; omega) (hG.keep (by repeat' (first | (with_reducible exact Zone.refl _ _ _) | (with_reducible refine Zone.setCell ?_ (by first | (left; omega) | (right; omega) | (left; simp; omega) | (right; simp; omega) | (left; simp; done)) _) | (with_reducible refine Zone.alloc ?_ (by first | omega | (simp; omega) | simp) _) | (with_reducible refine Zone.drew ?_))) (by repeat' (first | (with_reducible exact Zone.refl _ _ _) | (with_reducible refine Zone.setCell ?_ (by first | (left; omega) | (right; omega) | (left; simp; omega) | (right; simp; omega) | (left; simp; done)) _) | (with_reducible refine Zone.alloc ?_ (by first | omega | (simp; omega) | simp) _) | (with_reducible refine Zone.drew ?_)))) rfl (ad := ⟨wr.heap.size + 1, 0, none⟩) rfl (cs := [.string nm, .int .i64 sx, .int .i64 (-1), .int .i64 (getI (inv xs) (v : Int)), .int .i64 bo, .int .i64 di]) (y := (nm, sx, (-1), (getI (inv xs) (v : Int)), bo, di)) (lx := wr.heap.size) (hx' := wr.heap.size) ?p1ny (It.flat (z := true) (w0 := wr) (fp := []) (repPer_mk h0 h1 (by unfold I64; omega) HTv.out h4 h5)) (by omega) (.inl (by first | omega | (simp only [World.size_alloc, World.size_setCell, World.size_drew] at *; omega) | (simp; omega) | simp)) (by unfold maxLen; omega) (by omega) ?p2ny ?_)
              case p1ny =>
                intro j c hj
                match j, hj with
                | 0, hj => simp at hj; subst hj; simp [Addr.add]
                | 1, hj => simp at hj; subst hj; simp [Addr.add]
                | 2, hj => simp at hj; subst hj; simp [Addr.add]
                | 3, hj => simp at hj; subst hj; simp [Addr.add]
                | 4, hj => simp at hj; subst hj; simp [Addr.add]
                | 5, hj => simp at hj; subst hj; simp [Addr.add]
              case p2ny => first | omega | (simp; omega)
              intro v5 w3 hG3 _ hb3
              obtain ⟨n5, g5, cp5, rfl⟩ : ∃ n g c, v5 = .slice (some ⟨g, 0, none⟩) n c := by obtain ⟨g, c, e, -⟩ := hG3.form (by simp); exact ⟨_, g, c, e⟩
              have e_o0 := oldc (o := 0) hb3 (show V1.heap.size < W0.heap.size from zl) (show _ = some vp by simp [go_sem, *])
              have e_o1 := oldc (o := 1) hb3 (show V1.heap.size < W0.heap.size from zl) (show _ = some (.slice none 0 0) by simp [go_sem, *])
              have e_f := fun o => (hb3.frozen (p := ⟨V1.heap.size, o, none⟩) zl).trans (show _ = false by simp [go_sem, *])
              have hoff3 := hoff2.low (Below.trans (show Below W0.heap.size wr _ from (by repeat' (first | (with_reducible exact Below.refl _ _) | (with_reducible assumption) | (with_reducible refine Below.alloc ?_ (by first | omega | (simp; omega) | simp) _) | (with_reducible refine Below.setCell ?_ (by first | omega | (simp; omega) | simp) _) | (with_reducible refine Below.drew ?_) | (with_reducible refine below_drewN ?_ _)))) hb3)
              have HG3 := Lib.hid (show GL true W0.heap.size W0.heap.size w3.heap.size w3 91 _ (ordP f.1 (inv xs) (xs.take (k + 1))) by rw [HX.out]; exact hG3)
              clear hG hG3 hb3 hoff2
              go_wp2
              go_roundw
              case rel => exact ⟨k + 1, _, by omega, by go_num, by simp [go_sem, *], by simp [go_sem, *], fun o => frozen_setCell _ _ _ _ _ (e_f o), Lib.hid ((HG3.out.keep (by repeat' (first | (with_reducible exact Zone.refl _ _ _) | (with_reducible refine Zone.setCell ?_ (Or.inl (by first | omega | (simp; omega) | simp)) _) | (with_reducible refine Zone.alloc ?_ (by first | omega | (simp; omega) | simp) _) | (with_reducible refine Zone.drew ?_))) (by repeat' (first | (with_reducible exact Zone.refl _ _ _) | (with_reducible refine Zone.setCell ?_ (Or.inl (by first | omega | (simp; omega) | simp)) _) | (with_reducible refine Zone.alloc ?_ (by first | omega | (simp; omega) | simp) _) | (with_reducible refine Zone.drew ?_)))).mono (by simp)), hoff3.setCell (by simp) _⟩
              case measure => simp [intOf]; omega
          · skip
            obtain ⟨u, rfl⟩ := Int.eq_ofNat_of_zero_le hfa0
            have hun : u < xs.length := by have := HXL.out; omega
            have uI : (u : Int) < (xs.length : Int) := by omega
            have cu := hTr.num (i := u) hun
            rw [Nat.zero_add] at cu
            have HTu := Lib.hid (HT.out u hun)
            rcases hmo with rfl | ⟨hmo0, hmo1⟩
            · skip
              have HX := Lib.hid (show ordP f.1 (inv xs) (xs.take (k + 1)) = ordP f.1 (inv xs) (xs.take k) ++ [((nm, sx, (getI (inv xs) (u : Int)), (-1), bo, di) : Per)] by rw [ordP_snoc HK.out HP1.out, moveP]; simp [moveI])
              clear HK HP1 HP HT hTr HR
              have hG := hG.out
              go_wp2_with (at_builtin; refine wpList_push rfl rfl slPerson (by show (0 : Nat) < 6; omega) (hG.keep (by repeat' (first | (with_reducible exact Zone.refl _ _ _) | (with_reducible refine Zone.setCell ?_ (by first | (left; omega) | (right; omega) | (left; simp; omega) | (right; simp; omega) | (left; simp; done)) _) | (with_reducible refine Zone.alloc ?_ (by first | omega | (simp; omega) | simp) _) | (with_reducible refine Zone.drew ?_))) (by repeat' (first | (with_reducible exact Zone.refl _ _ _) | (with_reducible refine Zone.setCell ?_ (by first | (left; omega) | (right; omega) | (left; simp; omega) | (right; simp; omega) | (left; simp; done)) _) | (with_reducible refine Zone.alloc ?_ (by first | omega | (simp; omega) | simp) _) | (with_reducible refine Zone.drew ?_)))) rfl (ad := ⟨wr.heap.size + 1, 0, none⟩) rfl (cs := [.string nm, .int .i64 sx, .int .i64 (getI (inv xs) (u : Int)), .int .i64 (-1), .int .i64 bo, .int .i64 di]) (y := (nm, sx, (getI (inv xs) (u : Int)), (-1), bo, di)) (lx := wr.heap.size) (hx' := wr.heap.size) ?p1yn (It.flat (z := true) (w0 := wr) (fp := []) (repPer_mk h0 h1 HTu.out (by unfold I64; omega) h4 h5)) (by omega) (.inl (by first | omega | (simp only [World.size_alloc, World.size_setCell, World.size_drew] at *; omega) | (simp; omega) | simp)) (by unfold maxLen; omega) (by omega) ?p2yn ?_)
              case p1yn =>
                intro j c hj
                match j, hj with
                | 0, hj => simp at hj; subst hj; simp [Addr.add]
                | 1, hj => simp at hj; subst hj; simp [Addr.add]
                | 2, hj => simp at hj; subst hj; simp [Addr.add]
                | 3, hj => simp at hj; subst hj; simp [Addr.add]
                | 4, hj => simp at hj; subst hj; simp [Addr.add]
                | 5, hj => simp at hj; subst hj; simp [Addr.add]
              case p2yn => first | omega | (simp; omega)
              intro v5 w3 hG3 _ hb3
              obtain ⟨n5, g5, cp5, rfl⟩ : ∃ n g c, v5 = .slice (some ⟨g, 0, none⟩) n c := by obtain ⟨g, c, e, -⟩ := hG3.form (by simp); exact ⟨_, g, c, e⟩
              have e_o0 := oldc (o := 0) hb3 (show V1.heap.size < W0.heap.size from zl) (show _ = some vp by simp [go_sem, *])
              have e_o1 := oldc (o := 1) hb3 (show V1.heap.size < W0.heap.size from zl) (show _ = some (.slice none 0 0) by simp [go_sem, *])
              have e_f := fun o => (hb3.frozen (p := ⟨V1.heap.size, o, none⟩) zl).trans (show _ = false by simp [go_sem, *])
              have hoff3 := hoff2.low (Below.trans (show Below W0.heap.size wr _ from (by repeat' (first | (with_reducible exact Below.refl _ _) | (with_reducible assumption) | (with_reducible refine Below.alloc ?_ (by first | omega | (simp; omega) | simp) _) | (with_reducible refine Below.setCell ?_ (by first | omega | (simp; omega) | simp) _) | (with_reducible refine Below.drew ?_) | (with_reducible refine below_drewN ?_ _)))) hb3)
              have HG3 := Lib.hid (show GL true W0.heap.size W0.heap.size w3.heap.size w3 91 _ (ordP f.1 (inv xs) (xs.take (k + 1))) by rw [HX.out]; exact hG3)
              clear hG hG3 hb3 hoff2
              go_wp2
              go_roundw
              case rel => exact ⟨k + 1, _, by omega, by go_num, by simp [go_sem, *], by simp [go_sem, *], fun o => frozen_setCell _ _ _ _ _ (e_f o), Lib.hid ((HG3.out.keep (by repeat' (first | (with_reducible exact Zone.refl _ _ _) | (with_reducible refine Zone.setCell ?_ (Or.inl (by first | omega | (simp; omega) | simp)) _) | (with_reducible refine Zone.alloc ?_ (by first | omega | (simp; omega) | simp) _) | (with_reducible refine Zone.drew ?_))) (by repeat' (first | (with_reducible exact Zone.refl _ _ _) | (with_reducible refine Zone.setCell ?_ (Or.inl (by first | omega | (simp; omega) | simp)) _) | (with_reducible refine Zone.alloc ?_ (by first | omega | (simp; omega) | simp) _) | (with_reducible refine Zone.drew ?_)))).mono (by simp)), hoff3.setCell (by simp) _⟩
              case measure => simp [intOf]; omega
            · skip
              obtain ⟨v, rfl⟩ := Int.eq_ofNat_of_zero_le hmo0
              have hvn : v < xs.length := by have := HXL.out; omega
              have vI : (v : Int) < (xs.length : Int) := by omega
              have cv := hTr.num (i := v) hvn
              rw [Nat.zero_add] at cv
              have HTv := Lib.hid (HT.out v hvn)
              have HX := Lib.hid (show ordP f.1 (inv xs) (xs.take (k + 1)) = ordP f.1 (inv xs) (xs.take k) ++ [((nm, sx, (getI (inv xs) (u : Int)), (getI (inv xs) (v : Int)), bo, di) : Per)] by rw [ordP_snoc HK.out HP1.out, moveP]; simp [moveI])
              clear HK HP1 HP HT hTr HR
              have hG := hG.out
              go_wp2_with (at_builtin; refine wpList_push rfl rfl slPerson (by show (0 : Nat) < 6; omega) (hG.keep (by repeat' (first | (with_reducible exact Zone.refl _ _ _) | (with_reducible refine Zone.setCell ?_ (by first | (left; omega) | (right; omega) | (left; simp; omega) | (right; simp; omega) | (left; simp; done)) _) | (with_reducible refine Zone.alloc ?_ (by first | omega | (simp; omega) | simp) _) | (with_reducible refine Zone.drew ?_))) (by repeat' (first | (with_reducible exact Zone.refl _ _ _) | (with_reducible refine Zone.setCell ?_ (by first | (left; omega) | (right; omega) | (left; simp; omega) | (right; simp; omega) | (left; simp; done)) _) | (with_reducible refine Zone.alloc ?_ (by first | omega | (simp; omega) | simp) _) | (with_reducible refine Zone.drew ?_)))) rfl (ad := ⟨wr.heap.size + 1, 0, none⟩) rfl (cs := [.string nm, .int .i64 sx, .int .i64 (getI (inv xs) (u : Int)), .int .i64 (getI (inv xs) (v : Int)), .int .i64 bo, .int .i64 di]) (y := (nm, sx, (getI (inv xs) (u : Int)), (getI (inv xs) (v : Int)), bo, di)) (lx := wr.heap.size) (hx' := wr.heap.size) ?p1yy (It.flat (z := true) (w0 := wr) (fp := []) (repPer_mk h0 h1 HTu.out HTv.out h4 h5)) (by omega) (.inl (by first | omega | (simp only [World.size_alloc, World.size_setCell, World.size_drew] at *; omega) | (simp; omega) | simp)) (by unfold maxLen; omega) (by omega) ?p2yy ?_)
              case p1yy =>
                intro j c hj
                match j, hj with
                | 0, hj => simp at hj; subst hj; simp [Addr.add]
                | 1, hj => simp at hj; subst hj; simp [Addr.add]
                | 2, hj => simp at hj; subst hj; simp [Addr.add]
                | 3, hj => simp at hj; subst hj; simp [Addr.add]
                | 4, hj => simp at hj; subst hj; simp [Addr.add]
                | 5, hj => simp at hj; subst hj; simp [Addr.add]
              case p2yy => first | omega | (simp; omega)
              intro v5 w3 hG3 _ hb3
              obtain ⟨n5, g5, cp5, rfl⟩ : ∃ n g c, v5 = .slice (some ⟨g, 0, none⟩) n c := by obtain ⟨g, c, e, -⟩ := hG3.form (by simp); exact ⟨_, g, c, e⟩
              have e_o0 := oldc (o := 0) hb3 (show V1.heap.size < W0.heap.size from zl) (show _ = some vp by simp [go_sem, *])
              have e_o1 := oldc (o := 1) hb3 (show V1.heap.size < W0.heap.size from zl) (show _ = some (.slice none 0 0) by simp [go_sem, *])
              have e_f := fun o => (hb3.frozen (p := ⟨V1.heap.size, o, none⟩) zl).trans (show _ = false by simp [go_sem, *])
              have hoff3 := hoff2.low (Below.trans (show Below W0.heap.size wr _ from (by repeat' (first | (with_reducible exact Below.refl _ _) | (with_reducible assumption) | (with_reducible refine Below.alloc ?_ (by first | omega | (simp; omega) | simp) _) | (with_reducible refine Below.setCell ?_ (by first | omega | (simp; omega) | simp) _) | (with_reducible refine Below.drew ?_) | (with_reducible refine below_drewN ?_ _)))) hb3)
              have HG3 := Lib.hid (show GL true W0.heap.size W0.heap.size w3.heap.size w3 91 _ (ordP f.1 (inv xs) (xs.take (k + 1))) by rw [HX.out]; exact hG3)
              clear hG hG3 hb3 hoff2
              go_wp2
              go_roundw
              case rel => exact ⟨k + 1, _, by omega, by go_num, by simp [go_sem, *], by simp [go_sem, *], fun o => frozen_setCell _ _ _ _ _ (e_f o), Lib.hid ((HG3.out.keep (by repeat' (first | (with_reducible exact Zone.refl _ _ _) | (with_reducible refine Zone.setCell ?_ (Or.inl (by first | omega | (simp; omega) | simp)) _) | (with_reducible refine Zone.alloc ?_ (by first | omega | (simp; omega) | simp) _) | (with_reducible refine Zone.drew ?_))) (by repeat' (first | (with_reducible exact Zone.refl _ _ _) | (with_reducible refine Zone.setCell ?_ (Or.inl (by first | omega | (simp; omega) | simp)) _) | (with_reducible refine Zone.alloc ?_ (by first | omega | (simp; omega) | simp) _) | (with_reducible refine Zone.drew ?_)))).mono (by simp)), hoff3.setCell (by simp) _⟩
              case measure => simp [intOf]; omega
        · obtain rfl : k = xs.length := by omega
          have nI : ¬ (xs.length : Int) < (xs.length : Int) := by omega
          obtain ⟨V2, hV2⟩ : ∃ wm : World, wm = wr := ⟨_, rfl⟩
          subst hV2
          have HG2 := Lib.hid (show GL true W0.heap.size W0.heap.size V2.heap.size V2 91 vp (ordP f.1 (inv xs) xs) by have := hG.out; rw [List.take_length] at this; exact this)
          have q_f1 := offc hoff2 hz2 (.inl (by omega)) lo_f qf1
          have q_r0 := offc hoff2 hz2 (.inl (by omega)) lo_r qr0
          have q_r1 := offc hoff2 hz2 (.inl (by omega)) lo_r qr1
          have f_r : ∀ o, V2.frozen? ⟨w.heap.size + 1, o, none⟩ = false := fun o => (World.frozen?_of_block (a := ⟨w.heap.size + 1, o, none⟩) (hoff2.block _ lo_r (by simp; omega))).trans (fr o)
          have hT2 := Lib.hid (hT0.out.rd.keep (hoff2.zone (l := w.heap.size + 1 + 1) (u := w.heap.size + 1 + 1 + 1) (by omega) hz2 (.inr (by omega))))
          have hs1 := Lib.hid (And.intro q_o0 (And.intro q_o1 f_o))
          have lo_o : V1.heap.size < V2.heap.size := l_o
          have lr2 : w.heap.size + 1 < V2.heap.size := by omega
          clear hG q_o0 q_o1 f_o hT0 qf0 qf1 qr0 qr1 fr hoff2 HP HR h' ha
          go_wp2
          go_loopw [13, 68] (fun _ s68 wr => ∃ (k : Nat) (vu : Value), k ≤ f.2.length ∧ s68 = .int .i64 k ∧ wr.cell? ⟨V1.heap.size, 0, none⟩ = some vp ∧ wr.cell? ⟨V1.heap.size, 1, none⟩ = some vu ∧ (∀ o, wr.frozen? ⟨V1.heap.size, o, none⟩ = false) ∧ Hid (GL true V2.heap.size V2.heap.size wr.heap.size wr 76 vu ((f.2.take k).map (moveU (inv xs)))) ∧ OffF [V1.heap.size] V2 wr) (fun _ s68 _ => f.2.length - (intOf s68).toNat)
          case atStart => exact ⟨0, _, Nat.zero_le _, rfl, hs1.out.1, hs1.out.2.1, hs1.out.2.2, Lib.hid (GL.start _ _ _ _ _ _), OffF.refl _ _⟩
          case round =>
            clear hs1
            obtain ⟨k, vu, hk, rfl, q_o0, q_o1, f_o, hG, hoff2⟩ := hrel
            have sR := hoff2.size
            have hbw3 : Below w.heap.size w wr := hbw2.trans (hoff2.toBelow hbw2.size (fun b hb => by simp at hb; omega))
            have q_f1 := offc hoff2 hz2 (.inl (by omega)) l_f q_f1
            have l_f : w.heap.size < wr.heap.size := by omega
            have l_o : V1.heap.size < wr.heap.size := by omega
            by_cases hlt : k < f.2.length
            · have hI : (k : Int) < (f.2.length : Int) := by omega
              obtain ⟨b, off, ma, wo, fr, tl, rfl, hu, p0, p1, p2, p3, h0, h1, h2, h3, -, -, bl, -⟩ := (hb.below hbw3).uni_at hlt
              obtain ⟨⟨um1, um2⟩, ⟨uw1, uw2⟩⟩ := uniOk_facts (HU.out k hlt) hu.out
              obtain ⟨mi, rfl⟩ := Int.eq_ofNat_of_zero_le um1
              obtain ⟨wi, rfl⟩ := Int.eq_ofNat_of_zero_le uw1
              have hmn : mi < xs.length := by have := HXL.out; omega
              have hwn : wi < xs.length := by have := HXL.out; omega
              have hTr := hT2.out.keep (hoff2.zone (l := w.heap.size + 1 + 1) (u := w.heap.size + 1 + 1 + 1) (by omega) hz2 (.inr (by omega)))
              have cm := hTr.num (i := mi) hmn
              have cw := hTr.num (i := wi) hwn
              rw [Nat.zero_add] at cm cw
              have mI : (mi : Int) < (xs.length : Int) := by omega
              have wI : (wi : Int) < (xs.length : Int) := by omega
              have HTm := Lib.hid (HT.out mi hmn)
              have HTw := Lib.hid (HT.out wi hwn)
              have nO1 : ¬ V1.heap.size = wr.heap.size := by omega
              have nO2 : ¬ wr.heap.size = V1.heap.size := by omega
              have lT : w.heap.size + 1 + 1 < wr.heap.size := by omega
              have nT1 : ¬ w.heap.size + 1 + 1 = wr.heap.size := by omega
              have nT2 : ¬ wr.heap.size = w.heap.size + 1 + 1 := by omega
              have hll2 : ((f.2.take k).map (moveU (inv xs))).length ≤ 60 := by rw [List.length_map, List.length_take]; omega
              obtain ⟨tm, htm⟩ : ∃ t, t = getI (inv xs) (mi : Int) := ⟨_, rfl⟩
              obtain ⟨tw, htw⟩ : ∃ t, t = getI (inv xs) (wi : Int) := ⟨_, rfl⟩
              have HX := Lib.hid (show (f.2.take (k + 1)).map (moveU (inv xs)) = (f.2.take k).map (moveU (inv xs)) ++ [((tm, tw, fr, tl) : Uni)] by rw [take_snoc hu.out, List.map_append, htm, htw]; rfl)
              rw [← htm] at cm HTm
              rw [← htw] at cw HTw
              clear hu hTr HT HU hb htm htw
              go_wp2
              go_region
              have hG := hG.out
              go_wp2_with (at_builtin; refine wpList_push rfl rfl slUnion (by show (0 : Nat) < 4; omega) (hG.keep (by repeat' (first | (with_reducible exact Zone.refl _ _ _) | (with_reducible refine Zone.setCell ?_ (by first | (left; omega) | (right; omega) | (left; simp; omega) | (right; simp; omega) | (left; simp; done)) _) | (with_reducible refine Zone.alloc ?_ (by first | omega | (simp; omega) | simp) _) | (with_reducible refine Zone.drew ?_))) (by repeat' (first | (with_reducible exact Zone.refl _ _ _) | (with_reducible refine Zone.setCell ?_ (by first | (left; omega) | (right; omega) | (left; simp; omega) | (right; simp; omega) | (left; simp; done)) _) | (with_reducible refine Zone.alloc ?_ (by first | omega | (simp; omega) | simp) _) | (with_reducible refine Zone.drew ?_)))) rfl (ad := ⟨wr.heap.size + 1, 0, none⟩) rfl (cs := [.int .i64 tm, .int .i64 tw, .int .i64 fr, .int .i64 tl]) (y := (tm, tw, fr, tl)) (lx := wr.heap.size) (hx' := wr.heap.size) ?u1 (It.flat (z := true) (w0 := wr) (fp := []) (repUni_mk HTm.out HTw.out h2 h3)) (by omega) (.inl (by first | omega | (simp only [World.size_alloc, World.size_setCell, World.size_drew] at *; omega) | (simp; omega) | simp)) (by unfold maxLen; omega) (by omega) ?u2 ?_)
              case u1 =>
                intro j c hj
                match j, hj with
                | 0, hj => simp at hj; subst hj; simp [Addr.add]
                | 1, hj => simp at hj; subst hj; simp [Addr.add]
                | 2, hj => simp at hj; subst hj; simp [Addr.add]
                | 3, hj => simp at hj; subst hj; simp [Addr.add]
              case u2 => first | omega | (simp; omega)
              intro v5 w3 hG3 _ hb3
              obtain ⟨n5, g5, cp5, rfl⟩ : ∃ n g c, v5 = .slice (some ⟨g, 0, none⟩) n c := by obtain ⟨g, c, e, -⟩ := hG3.form (by simp); exact ⟨_, g, c, e⟩
              have e_o0 := oldc (o := 0) hb3 lo_o (show _ = some vp by simp [go_sem, *])
              have e_o1 := oldc (o := 1) hb3 lo_o (show _ = some vu by simp [go_sem, *])
              have e_f := fun o => (hb3.frozen (p := ⟨V1.heap.size, o, none⟩) lo_o).trans (show _ = false by simp [go_sem, *])
              have hoff3 := hoff2.low (Below.trans (show Below V2.heap.size wr _ from (by repeat' (first | (with_reducible exact Below.refl _ _) | (with_reducible assumption) | (with_reducible refine Below.alloc ?_ (by first | omega | (simp; omega) | simp) _) | (with_reducible refine Below.setCell ?_ (by first | omega | (simp; omega) | simp) _) | (with_reducible refine Below.drew ?_) | (with_reducible refine below_drewN ?_ _)))) hb3)
              have HG3 := Lib.hid (show GL true V2.heap.size V2.heap.size w3.heap.size w3 76 _ ((f.2.take (k + 1)).map (moveU (inv xs))) by rw [HX.out, List.map_take]; exact hG3)
              clear hG hG3 hb3 hoff2
              go_wp2
              go_roundw
              case rel => exact ⟨k + 1, _, by omega, by go_num, by simp [go_sem, *], by simp [go_sem, *], fun o => frozen_setCell _ _ _ _ _ (e_f o), Lib.hid ((HG3.out.keep (by repeat' (first | (with_reducible exact Zone.refl _ _ _) | (with_reducible refine Zone.setCell ?_ (Or.inl (by first | omega | (simp; omega) | simp)) _) | (with_reducible refine Zone.alloc ?_ (by first | omega | (simp; omega) | simp) _) | (with_reducible refine Zone.drew ?_))) (by repeat' (first | (with_reducible exact Zone.refl _ _ _) | (with_reducible refine Zone.setCell ?_ (Or.inl (by first | omega | (simp; omega) | simp)) _) | (with_reducible refine Zone.alloc ?_ (by first | omega | (simp; omega) | simp) _) | (with_reducible refine Zone.drew ?_)))).mono (by simp)), hoff3.setCell (by simp) _⟩
              case measure => simp [intOf]; omega
            · obtain rfl : k = f.2.length := by omega
              have nI2 : ¬ (f.2.length : Int) < (f.2.length : Int) := by omega
              have q_r0 := offc hoff2 hz2 (.inl (by omega)) lr2 q_r0
              have q_r1 := offc hoff2 hz2 (.inl (by omega)) lr2 q_r1
              have f_r : ∀ o, wr.frozen? ⟨w.heap.size + 1, o, none⟩ = false := fun o => (World.frozen?_of_block (a := ⟨w.heap.size + 1, o, none⟩) (hoff2.block _ lr2 (by simp; omega))).trans (f_r o)
              have l_r : w.heap.size + 1 < wr.heap.size := by omega
              have hGu := hG.out
              rw [List.take_length] at hGu
              have hGp := HG2.out.keep (hoff2.zone (Nat.le_refl _) hz2 (.inl (by omega))) (hoff2.zone (Nat.le_refl _) hz2 (.inl (by omega)))
              obtain ⟨aP, cP, rfl, -, -⟩ := hGp.len
              obtain ⟨aU, cU, rfl, -, -⟩ := hGu.len
              have HO := Lib.hid (show Ow W0.heap.size wr.heap.size wr [_, _] (ordF f xs) from Ow.pair (GL.ow (l0 := W0.heap.size) hGp (Nat.le_refl _) (Nat.le_refl _)) (GL.ow (l0 := V2.heap.size) hGu (Nat.le_refl _) (Nat.le_refl _)) (.inl (Nat.le_refl _)) (l := W0.heap.size) (h := wr.heap.size) (by omega) (by omega) (by omega) (by omega))
              obtain ⟨nP, hnP⟩ : ∃ n, n = (ordP f.1 (inv xs) xs).length := ⟨_, rfl⟩
              obtain ⟨nU, hnU⟩ : ∃ n, n = (f.2.map (moveU (inv xs))).length := ⟨_, rfl⟩
              rw [← hnP, ← hnU] at HO
              rw [← hnP] at q_o0
              rw [← hnU] at q_o1
              clear hG hGu hGp hnP hnU
              go_wp2
              exact bodyPost_ret (v := .agg #[.slice aP nP cP, .slice aU nU cU]) (by simp [results, Try.results75, go_sem, *]) rfl ⟨_, _, rfl, (HO.out.keep (by repeat' (first | (with_reducible exact Zone.refl _ _ _) | (with_reducible refine Zone.setCell ?_ (Or.inl (by first | omega | (simp; omega) | simp)) _) | (with_reducible refine Zone.alloc ?_ (by first | omega | (simp; omega) | simp) _) | (with_reducible refine Zone.drew ?_)))).mono (by omega) (by simp), (by repeat' (first | (with_reducible exact Below.refl _ _) | (with_reducible assumption) | (with_reducible refine Below.alloc ?_ (by first | omega | (simp; omega) | simp) _) | (with_reducible refine Below.setCell ?_ (by first | omega | (simp; omega) | simp) _) | (with_reducible refine Below.drew ?_) | (with_reducible refine below_drewN ?_ _)))⟩
end Go.Proofs.Ytomigopkejlmcaa
