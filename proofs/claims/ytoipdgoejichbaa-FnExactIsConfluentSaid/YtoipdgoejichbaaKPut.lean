/- Contract of spec.l4Put. -/
import Derived.Test.YtoipdgoejichbaaNfs
namespace Go.Proofs.Ytoipdgoejichbaa
set_option linter.unusedVariables false
set_option linter.unusedSimpArgs false
open Go.RowKit

set_option maxRecDepth 20000 in
set_option maxHeartbeats 8000000 in
theorem l4Put_any (S : Nat → Prop) (w : World) (v u1 u2 : Value) (s : List Kin) (t : Kin) (h : RdS S w [v] s) (h' : RdS S w [u1, u2] t) (hl : s.length ≤ 1000) :
    Calls Try.prog 73 #[v, .agg #[u1, u2]] w (PostRdsK S w (kins t s)) := by
  obtain ⟨ao, n, cap, rfl, hn, -⟩ := h.rd.shape
  subst hn
  have HC := Lib.hid h'
  obtain ⟨rfl, g2⟩ := h'.kin2
  obtain ⟨e, l⟩ := t
  dsimp only at g2
  obtain ⟨ub, um, ucap2, rfl, -⟩ := g2.rd.shape
  have HS := Lib.hid h
  have HL := Lib.hid g2
  clear h h' g2
  go_enter Try.func73, Try.ntmps73
  go_wp2
  obtain ⟨wq, hwq⟩ : ∃ W : World, W = w.alloc (.cells #[.int .i64 e, .slice ub um ucap2] 36) := ⟨_, rfl⟩
  have hBc : Below w.heap.size w wq := by rw [hwq]; exact (Below.refl _ _).alloc (Nat.le_refl _) _
  have lc : w.heap.size < wq.heap.size := by rw [hwq]; simp
  have y0 : wq.cell? ⟨w.heap.size, 0, none⟩ = some (.int .i64 e) := by rw [hwq]; simp [go_sem]
  have y1 : wq.cell? ⟨w.heap.size, 1, none⟩ = some (.slice ub um ucap2) := by rw [hwq]; simp [go_sem]
  have szc : wq.heap.size = w.heap.size + 1 := by rw [hwq]; simp
  rw [← hwq]
  clear hwq
  have HG0 := Lib.hid (show GR S wq.heap.size (wq.alloc (.cells #[] 36)) 36 (.slice (some ⟨w.heap.size + 1, 0, none⟩) 0 0) (putO (e, l) (s.take 0)) by
    have e := GR.lit0 (α := Kin) S wq.heap.size wq 36 (Nat.le_refl _)
    rw [show (some (⟨wq.heap.size, 0, none⟩ : Addr)) = some ⟨w.heap.size + 1, 0, none⟩ by rw [szc]] at e
    exact e)
  clear szc
  have HSc := Lib.hid (HS.out.below hBc)
  have HCc := Lib.hid (HC.out.below hBc)
  have HLc := Lib.hid (HL.out.below hBc)
  have sc := hBc.size
  go_loopw [5, 6, 8, 12] (fun s5 s6 _ s12 wr => ∃ (i : Nat) (d : Bool), i ≤ s.length ∧ s12 = .int .i64 i ∧ s6 = .bool d ∧ Hid (d = (s.take i).any (kB (e, l))) ∧ Hid (GR S wq.heap.size wr 36 s5 (putO (e, l) (s.take i))) ∧ Below wq.heap.size wq wr) (fun _ _ _ s12 _ => s.length - (intOf s12).toNat)
  case atStart => exact ⟨0, false, Nat.zero_le _, rfl, rfl, Lib.hid rfl, HG0, (Below.refl _ _).alloc (Nat.le_refl _) _⟩
  case round =>
    obtain ⟨wb, hwb⟩ : ∃ wm : World, wm = wr := ⟨_, rfl⟩
    subst hwb
    obtain ⟨i, d, hi, rfl, rfl, hd, hG, hbb⟩ := hrel
    have sB := hbb.size
    have hBb : Below w.heap.size w wb := hBc.trans (hbb.mono sc)
    have z0 := oldc hbb lc y0
    have z1 := oldc hbb lc y1
    by_cases hlt : i < s.length
    · have hI : (i : Int) < (s.length : Int) := by omega
      obtain ⟨b, off, ⟨ye, yl⟩, vy, rfl, hx, k0, k1, hR1, hbl⟩ := HSc.out.kin_at hlt
      obtain ⟨-, hvy⟩ := hR1.kin2
      dsimp only at k0 hvy hR1
      obtain ⟨a2, n2, p2, rfl, -⟩ := hvy.rd.shape
      have q0 := oldc hbb hbl k0
      have q1 := oldc hbb hbl k1
      have HX := Lib.hid hx.out
      have H1 := Lib.hid hR1
      have HY := Lib.hid hvy
      have HSL := putO_len (e, l) (s.take i)
      rw [List.length_take] at HSL
      obtain ⟨O, hO⟩ : ∃ O, O = putO (e, l) (s.take i) := ⟨_, rfl⟩
      have hOl : O.length ≤ 1001 := by rw [hO]; omega
      obtain ⟨b2, hlet_b2⟩ : ∃ r, r = beforeS l yl := ⟨_, rfl⟩
      have HB2 := Lib.hid hlet_b2
      clear hlet_b2
      have HST := Lib.hid (putO_step HX.out d b2 hd.out HB2.out)
      rw [← hO] at hG HST
      obtain ⟨eao, ecap, rfl⟩ := hG.out.len
      obtain ⟨WA, hWA⟩ : ∃ W : World, W = wb.alloc (.cells #[.int .i64 ye, .slice a2 n2 p2] 36) := ⟨_, rfl⟩
      have hbA : Below wq.heap.size wq WA := by rw [hWA]; exact hbb.alloc sB _
      have x0 : WA.cell? ⟨wb.heap.size, 0, none⟩ = some (.int .i64 ye) := by rw [hWA]; simp [go_sem]
      have x1 : WA.cell? ⟨wb.heap.size, 1, none⟩ = some (.slice a2 n2 p2) := by rw [hWA]; simp [go_sem]
      have z0 := oldc hbA lc y0
      have z1 := oldc hbA lc y1
      have lb : wb.heap.size < WA.heap.size := by rw [hWA]; simp
      have lw : w.heap.size < WA.heap.size := by omega
      have sA := hbA.size
      have HOB := Lib.hid (fun g (e : (Value.slice eao O.length ecap).ownBlock = some g) => (hG.out.ownLt e).2)
      have hGA := Lib.hid (show GR S wq.heap.size WA 36 _ O by rw [hWA]; exact hG.out.alloc _)
      clear hx k0 k1 hvy hR1 hG hO HSL
      go_upto_region 6 with fail
      rw [← hWA]
      clear hWA q0 q1
      obtain ⟨M, hM⟩ : ∃ M, M = (!d && b2) := ⟨_, rfl⟩
      have HM := Lib.hid hM
      rw [← hM] at HST
      clear hM
      go_cut [24] (fun s24 wx => s24 = .bool M ∧ Below WA.heap.size WA wx)
      case first =>
        have HCy := HLc.out.rd.below hbA
        have HXy := HY.out.rd.below hbA
        clear hGA HST hd
        cases d
        · go_wp2_with fail
          refine (l4Before_b _ _ _ l yl HCy HXy b2 HB2.out).mono ?_
          rintro e4 w4 ⟨rfl, hb4⟩
          have hp4 : Below WA.heap.size WA w4 := hb4
          clear hb4
          go_wp2_with fail
          go_meet
          exact ⟨by rw [HM.out]; rfl, hp4⟩
        · go_wp2_with fail
          go_meet
          exact ⟨by rw [HM.out]; rfl, Below.refl _ _⟩
      case rest =>
        obtain ⟨rfl, hbY⟩ := hcut
        obtain ⟨w5, hw5⟩ : ∃ W : World, W = wc := ⟨_, rfl⟩
        subst hw5
        have s5 := hbY.size
        have x0 := oldc hbY lb x0
        have x1 := oldc hbY lb x1
        have z0 := oldc hbY lw z0
        have z1 := oldc hbY lw z1
        have hb5c : Below wq.heap.size wq w5 := hbA.trans (hbY.mono sA)
        have s5c := hb5c.size
        have hG5 := Lib.hid (hGA.out.below hbY)
        clear hGA
        cases M
        · have HD := Lib.hid (show d = (s.take (i + 1)).any (kB (e, l)) from (put_d1 HM.out).symm.trans HST.out.1)
          have HO := Lib.hid (show O ++ [(ye, yl)] = putO (e, l) (s.take (i + 1)) from HST.out.2.symm)
          have hGa := Lib.hid (hG5.out.alloc (.cells #[.int .i64 ye, .slice a2 n2 p2] 36))
          clear hG5 HST HM
          go_wp2_with (at_builtin; refine wpList_push_rk rfl rfl slKin (by show (0 : Nat) < 2; omega) hGa.out rfl (ad := ⟨w5.heap.size, 0, none⟩) rfl (cs := [.int .i64 ye, .slice a2 n2 p2]) (y := ((ye, yl) : Kin)) (cells_newK w5 _ _ _) (w0 := wq) H1.out bwT (Nat.le_refl _) (by unfold maxLen; omega) (by omega) (by simp; omega) ?_)
          intro v1 w6 hG6 _ hb6
          have HG6 := Lib.hid hG6
          rw [HO.out] at HG6
          have hbb6 : Below wq.heap.size wq w6 := Below.trans (show Below wq.heap.size wq _ from bwT) hb6
          clear hG6 hb6 hGa
          go_wp2
          go_roundw
          case rel => exact ⟨i + 1, d, by omega, by go_num, rfl, HD, HG6, hbb6⟩
          case measure => simp [intOf]; omega
        · have HD := Lib.hid (show true = (s.take (i + 1)).any (kB (e, l)) from (put_d2 HM.out).symm.trans HST.out.1)
          have HO := Lib.hid (show O ++ [(e, l), (ye, yl)] = putO (e, l) (s.take (i + 1)) from (show O ++ [(e, l), (ye, yl)] = O ++ [(e, l)] ++ [(ye, yl)] by simp).trans HST.out.2.symm)
          have hGa := Lib.hid (hG5.out.alloc (.cells #[.int .i64 e, .slice ub um ucap2] 36))
          clear hG5 HST HM
          go_wp2_with (at_builtin; refine wpList_push_rk rfl rfl slKin (by show (0 : Nat) < 2; omega) hGa.out rfl (ad := ⟨w5.heap.size, 0, none⟩) rfl (cs := [.int .i64 e, .slice ub um ucap2]) (y := ((e, l) : Kin)) (cells_newK w5 _ _ _) (w0 := wq) HCc.out bwT (Nat.le_refl _) (by unfold maxLen; omega) (by omega) (by simp; omega) ?_)
          intro v1 w6 hG6 hg6 hb6
          have HG6 := Lib.hid hG6
          have hp6 : Below wq.heap.size wq w6 := Below.trans (show Below wq.heap.size wq _ from bwT) hb6
          have s6 : w5.heap.size + 1 ≤ w6.heap.size := by have := hg6.size; simpa using this
          have hwb : some wb.heap.size ≠ (Value.slice eao O.length ecap).ownBlock := fun e => by have := HOB.out _ e.symm; omega
          have xk : ∀ (o : Nat) (u : Value), w5.cell? ⟨wb.heap.size, o, none⟩ = some u → w6.cell? ⟨wb.heap.size, o, none⟩ = some u := fun o u hu => by
            have h1 := World.cell?_of_block (w := w5) (a := ⟨wb.heap.size, o, none⟩) ((hg6.block wb.heap.size (by simp; omega) hwb).trans (Below.heap_alloc w5 _ _ (by omega)))
            exact h1.trans hu
          have x0 := xk _ _ x0
          have x1 := xk _ _ x1
          have hG6b := Lib.hid (HG6.out.alloc (.cells #[.int .i64 ye, .slice a2 n2 p2] 36))
          have hp6s := hp6.size
          clear hG6 hb6 hGa hg6 xk HG6
          go_wp2_with (at_builtin; refine wpList_push_rk rfl rfl slKin (by show (0 : Nat) < 2; omega) hG6b.out rfl (ad := ⟨w6.heap.size, 0, none⟩) rfl (cs := [.int .i64 ye, .slice a2 n2 p2]) (y := ((ye, yl) : Kin)) (cells_newK w6 _ _ _) (w0 := wq) H1.out bwT (Nat.le_refl _) (by simp; unfold maxLen; omega) (by simp; omega) (by simp; omega) ?_)
          intro v2 w7 hG7 _ hb7
          have HG7 := Lib.hid hG7
          rw [HO.out] at HG7
          have hbb7 : Below wq.heap.size wq w7 := Below.trans (show Below wq.heap.size wq _ from bwT) hb7
          clear hG7 hb7 hG6b
          go_wp2
          go_roundw
          case rel => exact ⟨i + 1, true, by omega, by go_num, rfl, HD, HG7, hbb7⟩
          case measure => simp [intOf]; omega
    · obtain rfl : i = s.length := by omega
      have hI : ¬ (s.length : Int) < (s.length : Int) := by omega
      rw [List.take_length] at hd hG
      have HE := Lib.hid (putO_end d hd.out)
      have HSL := putO_len (e, l) s
      obtain ⟨O, hO⟩ : ∃ O, O = putO (e, l) s := ⟨_, rfl⟩
      have hOl : O.length ≤ 1001 := by rw [hO]; omega
      rw [← hO] at hG HE
      obtain ⟨eao, ecap, rfl⟩ := hG.out.len
      clear hd hO HSL
      cases d
      · have hGa := Lib.hid (hG.out.alloc (.cells #[.int .i64 e, .slice ub um ucap2] 36))
        clear hG
        go_wp2_with (at_builtin; refine wpList_push_rk rfl rfl slKin (by show (0 : Nat) < 2; omega) hGa.out rfl (ad := ⟨wb.heap.size, 0, none⟩) rfl (cs := [.int .i64 e, .slice ub um ucap2]) (y := ((e, l) : Kin)) (cells_newK wb _ _ _) (w0 := wq) HCc.out bwT (Nat.le_refl _) (by unfold maxLen; omega) (by omega) (by simp; omega) ?_)
        intro v1 w6 hG6 _ hb6
        have HG6 := Lib.hid (hG6.rds.mono (S' := fun b => S b ∨ w.heap.size ≤ b) fun b _ h => h.elim .inl fun h => .inr (by omega))
        have hp6 : Below wq.heap.size wq w6 := Below.trans (show Below wq.heap.size wq _ from bwT) hb6
        clear hG6 hb6 hGa
        go_wp2
        go_ret
        rw [HE.out]
        exact ⟨_, rfl, HG6.out, hBc.trans (hp6.mono sc)⟩
      · have HG6 := Lib.hid (hG.out.rds.mono (S' := fun b => S b ∨ w.heap.size ≤ b) fun b _ h => h.elim .inl fun h => .inr (by omega))
        clear hG
        go_wp2
        go_ret
        rw [HE.out]
        exact ⟨_, rfl, HG6.out, hBb⟩
end Go.Proofs.Ytoipdgoejichbaa
