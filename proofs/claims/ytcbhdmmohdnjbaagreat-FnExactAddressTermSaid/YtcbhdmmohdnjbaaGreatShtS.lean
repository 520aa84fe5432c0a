/- Contract of spec.ShortestType. -/
import Derived.Test.YtcbhdmmohdnjbaaGreatAwyS
import Derived.Test.YtcbhdmmohdnjbaaGreatShtI
namespace Go.Proofs.YtcbhdmmohdnjbaaGreat
set_option linter.unusedVariables false
set_option linter.unusedSimpArgs false
open Go.RowKit

theorem listTo_pos {o : List Bool} : 0 < (listTo o o.length).length ↔ (List.range o.length).any (fun p => o.getD p false) = true := by
  unfold listTo
  rw [List.length_map, List.length_pos_iff_exists_mem, List.any_eq_true]
  constructor
  · rintro ⟨p, hp⟩
    exact ⟨p, (List.mem_filter.1 hp).1, (List.mem_filter.1 hp).2⟩
  · rintro ⟨p, h1, h2⟩
    exact ⟨p, List.mem_filter.2 ⟨h1, h2⟩⟩
set_option maxRecDepth 20000 in
set_option maxHeartbeats 16000000 in
theorem shortestS_any {z : Bool} {lo hi : Nat} (w : World) (v v2 : Value) (f : Fam) (h : Rd z lo hi w [v, v2] f) (a b : Int) (ba : I64 a) (bb : I64 b) (X : Kin) (hX : X = shX f a b) (V : Bool) (hV : V = shV f a b) :
    Calls Tryz.prog 37 #[.agg #[v, v2], .int .i64 a, .int .i64 b] w (PostOw2B w X V) := by
  obtain ⟨ao, an, cap, rfl, hn, -⟩ := h.fam.1.shape
  subst hn
  obtain ⟨bo, bn, dap, rfl, hn2, -⟩ := h.fam.2.shape
  subst hn2
  obtain ⟨r1, hlet_r1⟩ : ∃ r, r = (famB f && inB f a) := ⟨_, rfl⟩
  have H1 := Lib.hid hlet_r1
  clear hlet_r1
  obtain ⟨r2, hlet_r2⟩ : ∃ r, r = (famB f && inB f b) := ⟨_, rfl⟩
  have H2 := Lib.hid hlet_r2
  clear hlet_r2
  have HE := Lib.hid (show hasB f [a, b] = (r1 && r2) by rw [H1.out, H2.out]; unfold hasB; simp only [List.all_cons, List.all_nil, Bool.and_true]; cases famB f <;> simp)
  have HX := Lib.hid hX
  have HV := Lib.hid hV
  have HH := Lib.hid h
  clear hX hV h
  go_enter Tryz.func37, Tryz.ntmps37
  go_wp2_with fail
  refine (l1Has_b _ _ _ f (HH.out.below bwT) a r1 H1.out).mono ?_
  rintro e1 w1 ⟨rfl, hbw1⟩
  have hpw1 : Below w.heap.size w w1 := Below.after bwT hbw1 szT
  have sw1 := hpw1.size
  have hBw1 : Below w.heap.size w w1 := hpw1
  have l_f : w.heap.size < w1.heap.size := by have := hbw1.size; simp at this; omega
  have q_f0 : w1.cell? ⟨w.heap.size, 0, none⟩ = some (.slice ao f.1.length cap) := oldc hbw1 ltT (by simp [go_sem])
  have q_f1 : w1.cell? ⟨w.heap.size, 1, none⟩ = some (.slice bo f.2.length dap) := oldc hbw1 ltT (by simp [go_sem])
  have l_r : w.heap.size + 1 < w1.heap.size := by have := hbw1.size; simp at this; omega
  have q_r0 : w1.cell? ⟨w.heap.size + 1, 0, none⟩ = some (.int .i64 0) := oldc hbw1 ltT (by simp [go_sem])
  have q_r1 : w1.cell? ⟨w.heap.size + 1, 1, none⟩ = some (.slice none 0 0) := oldc hbw1 ltT (by simp [go_sem])
  have f_r : ∀ o, w1.frozen? ⟨w.heap.size + 1, o, none⟩ = false := fun o => (hbw1.frozen (p := ⟨w.heap.size + 1, o, none⟩) ltT).trans (by simp [go_sem])
  clear hbw1 hpw1
  cases r1
  · obtain rfl : X = (0, []) := by rw [HX.out]; exact (shV_no HE.out.symm).1
    obtain rfl : V = false := by rw [HV.out]; exact (shV_no HE.out.symm).2
    clear HH HX HV H1 H2 HE
    go_wp2
    exact bodyPost_ret (v := .tuple #[.agg #[.int .i64 0, .slice none 0 0], .bool false]) (by simp [results, go_sem, *]) rfl ⟨_, _, rfl, nilKin _ _ _, bwT⟩
  go_wp2_with fail
  refine (l1Has_b _ _ _ f (HH.out.below bwT) b r2 H2.out).mono ?_
  rintro e2 w2 ⟨rfl, hbw2⟩
  have hpw2 : Below w1.heap.size w1 w2 := Below.after bwT hbw2 szT
  have sw2 := hpw2.size
  have hBw2 : Below w.heap.size w w2 := Below.trans hBw1 (Below.mono hpw2 hBw1.size)
  have q_f0 := oldc hpw2 l_f q_f0
  have q_f1 := oldc hpw2 l_f q_f1
  have q_r0 := oldc hpw2 l_r q_r0
  have q_r1 := oldc hpw2 l_r q_r1
  have f_r : ∀ o, w2.frozen? ⟨w.heap.size + 1, o, none⟩ = false := fun o => (hpw2.frozen (p := ⟨w.heap.size + 1, o, none⟩) l_r).trans (f_r o)
  have l_f := Nat.lt_of_lt_of_le l_f sw2
  have l_r := Nat.lt_of_lt_of_le l_r sw2
  clear hbw2 hpw2
  cases r2
  · obtain rfl : X = (0, []) := by rw [HX.out]; exact (shV_no HE.out.symm).1
    obtain rfl : V = false := by rw [HV.out]; exact (shV_no HE.out.symm).2
    clear HH HX HV H1 H2 HE
    go_wp2
    exact bodyPost_ret (v := .tuple #[.agg #[.int .i64 0, .slice none 0 0], .bool false]) (by simp [results, go_sem, *]) rfl ⟨_, _, rfl, nilKin _ _ _, bwT⟩
  have H1 := Lib.hid (show true = hasB f [a, b] from HE.out.symm)
  obtain ⟨hf, i, j, rfl, rfl, hi, hj⟩ := hasB2 H1.out.symm
  have h40 := (famB_facts hf).1
  obtain ⟨FR, hFR⟩ : ∃ q, q = farOf f i j := ⟨_, rfl⟩
  have HV2 := Lib.hid (show V = decide (0 ≤ FR) by rw [HV.out, (shV_yes H1.out).1, hFR])
  have HX2 := Lib.hid (show X = if 0 ≤ FR then (sexP f i, shL f i j) else (0, []) by rw [HX.out, (shV_yes H1.out).2, hFR])
  have hFR8 := farOf_le (b := j) hi
  rw [← hFR] at hFR8
  have HFR := Lib.hid (show (fars f j 8).getD i 0 = FR from hFR.symm)
  have HFB := Lib.hid hf
  clear HX HV H1 hf hFR
  clear HE H2
  go_wp2_with fail
  refine (awayS_any _ _ _ f (HH.out.below bwT) HFB.out j hj).mono ?_
  rintro e3 w3 ⟨uA, rfl, hoA, hbw3⟩
  have hpw3 : Below w2.heap.size w2 w3 := Below.after bwT hbw3 szT
  have sw3 := hpw3.size
  have hBw3 : Below w.heap.size w w3 := Below.trans hBw2 (Below.mono hpw3 hBw2.size)
  have q_f0 := oldc hpw3 l_f q_f0
  have q_f1 := oldc hpw3 l_f q_f1
  have q_r0 := oldc hpw3 l_r q_r0
  have q_r1 := oldc hpw3 l_r q_r1
  have f_r : ∀ o, w3.frozen? ⟨w.heap.size + 1, o, none⟩ = false := fun o => (hpw3.frozen (p := ⟨w.heap.size + 1, o, none⟩) l_r).trans (f_r o)
  have l_f := Nat.lt_of_lt_of_le l_f sw3
  have l_r := Nat.lt_of_lt_of_le l_r sw3
  clear hbw3 hpw3
  obtain ⟨PB, PO, nm, sx, fa, mo, bo', di, e1, hXP, -, x1, -, -, -, -, -, hsx64, -, -, -, -, -, -, pbl, -⟩ := (HH.out.below hBw3).fam.1.per_at hi
  subst e1
  have HSX := Lib.hid (show sexP f i = sx from sexP_at hXP.out)
  have hiI : (i : Int) < (f.1.length : Int) := by omega
  have hjI : (j : Int) < (f.1.length : Int) := by omega
  clear hXP
  obtain ⟨wd, hwd⟩ : ∃ W : World, W = w3 := ⟨_, rfl⟩
  subst hwd
  have hBd : Below w.heap.size w wd := hBw3
  have lfd : w.heap.size < wd.heap.size := l_f
  have lrd : w.heap.size + 1 < wd.heap.size := l_r
  have lpd := pbl
  have r0 := q_r0
  have r1 := q_r1
  have rf := f_r
  have x1' := x1
  have hofl := fars_len f j 8
  obtain ⟨aa, an2, ac, rfl, han, -⟩ := hoA.rd.shape
  rw [hofl] at han
  subst han
  obtain ⟨ab, aof, x, haa, hx, x0, xl, xh, -, -, abl, -⟩ := hoA.rd.int_at (i := i) hi
  subst haa
  have hxe : x = FR := by
    have h := HFR.out
    rw [List.getD_eq_getElem?_getD, hx.out] at h
    exact h
  subst hxe
  have HFD := Lib.hid hoA.rd
  have p0 := q_f0
  have p1 := q_f1
  clear hoA hx hofl q_f0 q_f1 q_r0 q_r1 f_r x1 l_f l_r pbl
  by_cases hx0 : x < 0
  · obtain rfl : X = (0, []) := by rw [HX2.out, if_neg (by omega)]
    obtain rfl : V = false := by rw [HV2.out, decide_eq_false (by omega)]
    clear HX2 HV2 HFD HSX HFR
    go_wp2
    refine bodyPost_ret (v := .tuple #[.agg #[.int .i64 0, .slice none 0 0], .bool false]) ?_ rfl ⟨_, _, rfl, nilKin _ _ _, ?_⟩
    · simp [results, Tryz.results37, go_sem, r0, r1, rf]
    · exact bwT
  obtain ⟨mm, rfl⟩ := Int.eq_ofNat_of_zero_le (show 0 ≤ x by omega)
  have hm8' : mm ≤ 8 := by omega
  obtain ⟨F, hF⟩ : ∃ F, F = fars f j 8 := ⟨_, rfl⟩
  obtain ⟨L, hL⟩ : ∃ L, L = wayS f F mm (single f.1.length i) := ⟨_, rfl⟩
  have HXL := Lib.hid (show X = (sx, L) by
    rw [HX2.out, if_pos (by omega), HSX.out]
    have h8 := way_eq (b := j) hi (show 0 ≤ farOf f i j by rw [show farOf f i j = (mm : Int) from HFR.out]; omega)
    rw [show farOf f i j = (mm : Int) from HFR.out, Int.toNat_natCast] at h8
    rw [← h8, hL, hF])
  have HLF := Lib.hid hL.symm
  have HFL := Lib.hid (show F.length = f.1.length by rw [hF]; exact fars_len _ _ _)
  rw [← hF] at HFD
  obtain rfl : V = true := by rw [HV2.out, decide_eq_true (by omega)]
  obtain rfl : X = (sx, L) := HXL.out
  clear HX2 HV2 HSX HFR hF hL HXL hx0
  go_upto_region 8 with (at_make; refine wpList_mk (α := Bool) rfl rfl slBool (y0 := false) (fun _ => ⟨rfl, rfl⟩) rfl rfl rfl rfl (by omega) (by unfold maxLen; omega) ?_; intro wM howM hbM hltM)
  simp only [World.size_alloc] at howM hbM hltM
  have hbDM : Below wd.heap.size wd wM := Below.trans (show Below wd.heap.size wd (wd.alloc (.cells #[.int .i64 sx, .slice none 0 0] 68)) from bwT) (hbM.mono (by omega))
  have g0 : wM.cell? ⟨wd.heap.size, 0, none⟩ = some (.int .i64 sx) := oldc hbM (Nat.lt_succ_self _) (by simp [go_sem])
  have g1 : wM.cell? ⟨wd.heap.size, 1, none⟩ = some (.slice none 0 0) := oldc hbM (Nat.lt_succ_self _) (by simp [go_sem])
  have gf : ∀ o, wM.frozen? ⟨wd.heap.size, o, none⟩ = false := fun o => (hbM.frozen (p := ⟨wd.heap.size, o, none⟩) (Nat.lt_succ_self _)).trans (by simp [go_sem])
  obtain ⟨y, -, y0, yf, -⟩ := howM.bool_at0 (i := i) hi
  obtain ⟨WS, hWS⟩ : ∃ W : World, W = wM.setCell ⟨wd.heap.size + 1, i, none⟩ (.bool true) := ⟨_, rfl⟩
  have HAT := Lib.hid (show Rd true 0 WS.heap.size WS [.slice (some ⟨wd.heap.size + 1, 0, none⟩) f.1.length f.1.length] (single f.1.length i) by rw [hWS]; exact (howM.bool_set0 hi true).rd.all)
  have hbS : Below (wd.heap.size + 1) wM WS := by rw [hWS]; exact bwT
  have hbDS : Below wd.heap.size wd WS := hbDM.trans (hbS.mono (by omega))
  have lS : wd.heap.size < WS.heap.size := by rw [hWS]; simp; omega
  have k0 := oldc hbS (Nat.lt_succ_self _) g0
  have k1 := oldc hbS (Nat.lt_succ_self _) g1
  have kf : ∀ o, WS.frozen? ⟨wd.heap.size, o, none⟩ = false := fun o => (hbS.frozen (p := ⟨wd.heap.size, o, none⟩) (Nat.lt_succ_self _)).trans (gf o)
  have z0 := oldc hbDS abl x0
  have HSL := Lib.hid (single_len f.1.length i)
  go_upto_region 9 with fail
  rw [← hWS]
  clear hWS howM hbM hltM hbDM hbS g0 g1 gf y0 yf
  go_wp2
  go_loopw [10, 11, 12, 13, 14, 69] (fun s17 s18 _ _ _ _ wl => ∃ (m : Nat) (q : Int) (o : List Bool) (pre : List Stp) (u sv : Value), m ≤ 8 ∧ s18 = .int .i64 q ∧ q = (m : Int) - 1 ∧ u = s17 ∧ wl.cell? ⟨wd.heap.size, 0, none⟩ = some (.int .i64 sx) ∧ wl.cell? ⟨wd.heap.size, 1, none⟩ = some sv ∧ (∀ o, wl.frozen? ⟨wd.heap.size, o, none⟩ = false) ∧ wd.heap.size < wl.heap.size ∧ Hid (GL true (wd.heap.size + 1) (wd.heap.size + 1) wl.heap.size wl 126 sv pre) ∧ Hid (Rd true 0 wl.heap.size wl [u] o) ∧ Hid (o.length = f.1.length) ∧ Hid (pre ++ wayS f F m o = L) ∧ pre.length + m ≤ 8 ∧ Below wd.heap.size wd wl) (fun _ s18 _ _ _ _ _ => (intOf s18 + 1).toNat)
  case atStart => exact ⟨mm, _, _, [], _, _, hm8', rfl, by first | rfl | go_num | omega, rfl, k0, k1, kf, lS, Lib.hid (GL.start _ _ _ _ _ _), HAT, HSL, Lib.hid HLF.out, by simp; omega, hbDS⟩
  case round =>
    clear k0 k1 kf lS HAT HSL HLF hbDS z0
    obtain ⟨we, hwe⟩ : ∃ y : World, y = wr := ⟨_, rfl⟩
    subst hwe
    obtain ⟨m, q, o, pre, u, sv, hm, rfl, hq, hu, g0, g1, gf, lg, HG, HO, HOL, HPL, hpm, hbe⟩ := hrel
    obtain ⟨ua, un, uc, rfl, hun, -⟩ := HO.out.shape
    subst hu
    rw [HOL.out] at hun
    subst hun
    obtain ⟨sao, scap, rfl, -, -⟩ := HG.out.len
    by_cases hm0 : 0 < m
    · obtain ⟨m', rfl⟩ : ∃ m', m = m' + 1 := ⟨m - 1, by omega⟩
      obtain rfl : q = (m' : Int) := by omega
      have hq0 : (0 : Int) ≤ (m' : Int) := by omega
      clear hq
      go_wp2
      go_loopw [10, 12, 13, 14, 69] (fun s17 s19 _ _ _ wl => ∃ kk : Nat, 1 ≤ kk ∧ kk ≤ 9 ∧ s19 = .int .i64 kk ∧ s17 = .slice ua f.1.length uc ∧ wl.cell? ⟨wd.heap.size, 0, none⟩ = some (.int .i64 sx) ∧ wl.cell? ⟨wd.heap.size, 1, none⟩ = some (.slice sao pre.length scap) ∧ (∀ o, wl.frozen? ⟨wd.heap.size, o, none⟩ = false) ∧ wd.heap.size < wl.heap.size ∧ Hid (GL true (wd.heap.size + 1) (wd.heap.size + 1) wl.heap.size wl 126 (.slice sao pre.length scap) pre) ∧ Hid (Rd true 0 wl.heap.size wl [.slice ua f.1.length uc] o) ∧ Hid (∀ j, j < kk - 1 → anyFar (stepSet (ledK f j) f.1.length o) F m' = false) ∧ Below wd.heap.size wd wl) (fun _ s19 _ _ _ _ => 9 - (intOf s19).toNat)
      case atStart => exact ⟨1, by omega, by omega, rfl, rfl, g0, g1, gf, lg, HG, HO, Lib.hid (fun j hj => by omega), hbe⟩
      case round =>
        clear g0 g1 gf lg HG HO hbe
        obtain ⟨wi, hwi⟩ : ∃ y : World, y = wr := ⟨_, rfl⟩
        subst hwi
        obtain ⟨kk, hk1, hk9, rfl, rfl, g0, g1, gf, lg, HG, HO, HNF, hbi⟩ := hrel
        by_cases hk8 : kk ≤ 8
        · have hkI : (kk : Int) ≤ 8 := by omega
          have hkB : 1 ≤ (kk : Int) ∧ (kk : Int) ≤ 8 := by omega
          obtain ⟨k, hkk⟩ : ∃ k, kk = k + 1 := ⟨kk - 1, by omega⟩
          have HKK := Lib.hid hkk
          clear hkk
          have v0 := oldc hbi lfd p0
          have v1 := oldc hbi lfd p1
          have hBi : Below w.heap.size w wi := hBd.trans (hbi.mono (by omega))
          go_wp2_with fail
          refine (reachS_any _ _ _ _ f (HH.out.below hBi) HFB.out o HO.out HOL.out (kk : Int) 0 hkB (by omega)).mono ?_
          rintro e5 w5 ⟨u5, rfl, ho5, hb5⟩
          obtain ⟨o5, ho5e⟩ : ∃ o5, o5 = stepSet (ledB f ((kk : Int), 0)) f.1.length o := ⟨_, rfl⟩
          rw [← ho5e] at ho5
          have ho5l : o5.length = f.1.length := by rw [ho5e, stepSet_len]
          obtain ⟨va, vn, vc, rfl, hvn, -⟩ := ho5.rd.shape
          rw [ho5l] at hvn
          subst hvn
          obtain ⟨nb, nof, x', hva, -, -, nlo, -, nbl, -⟩ := ho5.rd.bool_at (i := i) hi
          subst hva
          have HO5E := Lib.hid (show stepSet (ledK f k) f.1.length o = o5 by rw [ho5e, HKK.out]; rfl)
          have HO5L := Lib.hid ho5l
          have HOW5 := Lib.hid (show Ow wi.heap.size w5.heap.size w5 [.slice (some ⟨nb, nof, none⟩) f.1.length vc] (filtTo o5 F (m' : Int) 0) by rw [filtTo_zero]; exact ho5)
          have sz5 := hb5.size
          clear ho5 ho5e ho5l
          go_wp2
          go_loopw [14, 69] (fun _ s69 wl => ∃ xx : Nat, xx ≤ f.1.length ∧ s69 = .int .i64 xx ∧ Hid (Ow wi.heap.size w5.heap.size wl [.slice (some ⟨nb, nof, none⟩) f.1.length vc] (filtTo o5 F (m' : Int) xx)) ∧ Below wi.heap.size wi wl ∧ w5.heap.size ≤ wl.heap.size) (fun _ s69 _ => f.1.length - (intOf s69).toNat)
          case atStart => exact ⟨0, Nat.zero_le _, rfl, HOW5, hb5, Nat.le_refl _⟩
          case round =>
            clear HOW5
            obtain ⟨wx, hwx⟩ : ∃ y : World, y = wr := ⟨_, rfl⟩
            subst hwx
            obtain ⟨xx, hxx, rfl, HNX, hbx, sx5⟩ := hrel
            by_cases hxn : xx < f.1.length
            · have hxI : (xx : Int) < (f.1.length : Int) := by omega
              have hBx : Below wd.heap.size wd wx := hbi.trans (hbx.mono (by omega))
              obtain ⟨bx, ofx, y, e, hy, y0, -, -, -, yf⟩ := HNX.out.rd.bool_at (i := xx) hxn
              simp only [Option.some.injEq, Addr.mk.injEq, and_true] at e
              obtain ⟨rfl, rfl⟩ := e
              have yf := yf rfl
              obtain ⟨tb, tof, t, e, ht, t0, tl, th, -, -, -, -⟩ := (HFD.out.below hBx).int_at (i := xx) hxn
              simp only [Option.some.injEq, Addr.mk.injEq, and_true] at e
              obtain ⟨rfl, rfl⟩ := e
              have hyg : o5.getD xx false = y := by
                have h := hy.out
                rw [filtTo_at (by rw [HO5L.out]; exact hxn), decide_eq_true (Nat.le_refl xx), Bool.or_true, Bool.and_true] at h
                exact Option.some.inj h
              have htg : F.getD xx 0 = t := by rw [List.getD_eq_getElem?_getD, ht.out]; rfl
              have HFS := Lib.hid (show filtTo o5 F (m' : Int) (xx + 1) = (filtTo o5 F (m' : Int) xx).set xx (y && decide (t = (m' : Int))) by
                rw [filtTo_succ (by rw [HO5L.out]; exact hxn), hyg, htg])
              clear hy ht hyg htg
              cases y
              · have HN := Lib.hid (show Ow wi.heap.size w5.heap.size (wx.setCell ⟨nb, nof + xx, none⟩ (.bool false)) [.slice (some ⟨nb, nof, none⟩) f.1.length vc] (filtTo o5 F (m' : Int) (xx + 1)) by
                  rw [HFS.out, Bool.false_and]; exact HNX.out.bool_setg hxn false)
                have hb2 : Below wi.heap.size wi (wx.setCell ⟨nb, nof + xx, none⟩ (.bool false)) := hbx.setCell nlo _
                have s2 : w5.heap.size ≤ (wx.setCell ⟨nb, nof + xx, none⟩ (.bool false)).heap.size := by simp; exact sx5
                clear HNX HFS
                go_wp2
                go_roundw
                case rel => exact ⟨xx + 1, by omega, by go_num, HN, hb2, s2⟩
                case measure => simp [intOf]; omega
              · obtain ⟨c, hc⟩ : ∃ c, c = decide (t = (m' : Int)) := ⟨_, rfl⟩
                have e1 : (t == (m' : Int)) = c := by rw [hc]; rfl
                have HN := Lib.hid (show Ow wi.heap.size w5.heap.size (wx.setCell ⟨nb, nof + xx, none⟩ (.bool c)) [.slice (some ⟨nb, nof, none⟩) f.1.length vc] (filtTo o5 F (m' : Int) (xx + 1)) by
                  rw [HFS.out, Bool.true_and, ← hc]; exact HNX.out.bool_setg hxn c)
                have hb2 : Below wi.heap.size wi (wx.setCell ⟨nb, nof + xx, none⟩ (.bool c)) := hbx.setCell nlo _
                have s2 : w5.heap.size ≤ (wx.setCell ⟨nb, nof + xx, none⟩ (.bool c)).heap.size := by simp; exact sx5
                clear HNX HFS hc
                go_wp2
                go_roundw
                case rel => exact ⟨xx + 1, by omega, by go_num, HN, hb2, s2⟩
                case measure => simp [intOf]; omega
            · obtain rfl : xx = f.1.length := by omega
              have hxI : ¬ (f.1.length : Int) < (f.1.length : Int) := by omega
              obtain ⟨o6, ho6⟩ : ∃ o6, o6 = filt o5 F (m' : Int) := ⟨_, rfl⟩
              have HOW6 := Lib.hid (show Ow wi.heap.size w5.heap.size wx [.slice (some ⟨nb, nof, none⟩) f.1.length vc] o6 by
                rw [ho6, ← filtTo_end, HO5L.out]; exact HNX.out)
              have HO6L := Lib.hid (show o6.length = f.1.length by rw [ho6, filt_len, HO5L.out])
              have HO6A := Lib.hid (show (List.range o6.length).any (fun p => o6.getD p false) = anyFar o5 F (m' : Int) by rw [ho6, filt_len]; exact filt_any o5 F m')
              have HO6E := Lib.hid ho6
              clear HNX ho6
              go_wp2_with fail
              refine (listedS_any _ _ o6 HOW6.out.rd (by rw [HO6L.out]; exact h40)).mono ?_
              rintro e6 w6 ⟨u6, rfl, ho7, hb6⟩
              obtain ⟨la, ln, lc, rfl, hln, -⟩ := ho7.rd.shape
              have hbi6 : Below wi.heap.size wi w6 := hbx.trans (hb6.mono (by omega))
              have hB6 : Below wd.heap.size wd w6 := hbi.trans (hbi6.mono (by omega))
              have sz6 := hbi6.size
              have sz56 := hb6.size
              have m0 := oldc hbi6 lg g0
              have m1 := oldc hbi6 lg g1
              have mf : ∀ o, w6.frozen? ⟨wd.heap.size, o, none⟩ = false := fun o => (hbi6.frozen (p := ⟨wd.heap.size, o, none⟩) lg).trans (gf o)
              have lg6 : wd.heap.size < w6.heap.size := by omega
              have HG6 := Lib.hid (HG.out.below hbi6)
              have HOW7 := Lib.hid (HOW6.out.below hb6)
              obtain ⟨r, hr⟩ : ∃ r, r = anyFar o5 F (m' : Int) := ⟨_, rfl⟩
              have HR := Lib.hid hr
              have HLP := Lib.hid (show r = true ↔ 0 < ln by rw [hr, ← HO6A.out, ← listTo_pos, hln])
              clear ho7 hln hr HOW6
              cases r
              · have hlz : ln = 0 := by
                  have h := HLP.out
                  simp at h; omega
                subst hlz
                have HO6 := Lib.hid (HO.out.below hbi6).all
                have HGT := Lib.hid HG6.out.top
                have HNF2 := Lib.hid (show ∀ j, j < kk + 1 - 1 → anyFar (stepSet (ledK f j) f.1.length o) F m' = false from fun j hj => by
                  by_cases e : j < kk - 1
                  · exact HNF.out j e
                  · obtain rfl : j = k := by have := HKK.out; omega
                    rw [HO5E.out]; exact HR.out.symm)
                clear HG HO HNF HG6 HOW7 hb6 hbi6 g0 g1 gf HLP
                go_wp2
                go_roundw
                case rel => exact ⟨kk + 1, by omega, by omega, by go_num, rfl, m0, m1, mf, lg6, HGT, HO6, HNF2, hB6⟩
                case measure => simp [intOf]; omega
              · have hlp : (0 : Int) < (ln : Int) := by have := HLP.out.1 rfl; omega
                have HPK := Lib.hid (show pickK f F o m' = some k from pick_some (by have := HKK.out; omega) (fun j hj => HNF.out j (by have := HKK.out; omega)) (by rw [HO5E.out]; exact HR.out.symm))
                have HPL2 := Lib.hid (show (pre ++ [((kk : Int), 0)]) ++ wayS f F m' o6 = L by
                  rw [← HPL.out, wayS_some HPK.out, HO5E.out, ← HO6E.out, HKK.out]; simp)
                have HOB := Lib.hid (show ∀ g, (Value.slice sao pre.length scap).ownBlock = some g → g < wi.heap.size from fun g e => GL.own_hi HG.out e)
                have n6a : ¬ wd.heap.size = w6.heap.size := by omega
                have n6b : ¬ w6.heap.size = wd.heap.size := by omega
                have hkk64 : -9223372036854775808 ≤ (kk : Int) ∧ (kk : Int) ≤ 9223372036854775807 := by omega
                have hpl8 : pre.length ≤ 8 := by omega
                clear HG HO HNF hb6 g0 g1 gf HR HPL HLP
                go_wp2_with (at_builtin; refine wpList_push_at rfl rfl slStep (by show (0 : Nat) < 2; omega) (HG6.out.alloc _) rfl (ad := ⟨w6.heap.size, 0, none⟩) rfl (cs := [.int .i64 kk, .int .i64 0]) (y := ((kk : Int), (0 : Int))) (lx := w6.heap.size) (hx' := w6.heap.size) ?c1 (It.flat (z := true) (w0 := w6) (fp := []) ⟨[_], [_], [], [], rfl, rfl, ⟨rfl, hkk64, rfl⟩, ⟨rfl, ⟨by omega, by omega⟩, rfl⟩⟩) (by omega) (.inl (by omega)) (by unfold maxLen; omega) (by omega) ?c2 ?_)
                case c1 => intro j c hj; match j, hj with | 0, hj => simp at hj; subst hj; simp [Addr.add] | 1, hj => simp at hj; subst hj; simp [Addr.add, go_sem]
                case c2 => simp; omega
                intro g5 cap5 w7 hG7 hg7 hb7 hat7
                have hp7 : Below (wd.heap.size + 1) w6 w7 := Below.trans (show Below (wd.heap.size + 1) w6 _ from bwT) hb7
                have HA7 := Lib.hid (show Rd true wi.heap.size w5.heap.size w7 [.slice (some ⟨nb, nof, none⟩) f.1.length vc] o6 from ((HOW7.out.rd.below (show Below w6.heap.size w6 _ from bwT)).keep (Zone.grown (Zone.refl _ _ _) hg7 (by simp; omega) (fun g e => .inl (HOB.out g e)))))
                have g07 := oldc hp7 (Nat.lt_succ_self _) m0
                have g17 := oldc hp7 (Nat.lt_succ_self _) m1
                have gf7 : ∀ o, w7.frozen? ⟨wd.heap.size, o, none⟩ = false := fun o => (hp7.frozen (p := ⟨wd.heap.size, o, none⟩) (Nat.lt_succ_self _)).trans (mf o)
                have sz7 := hp7.size
                have HG7 := Lib.hid hG7
                clear hb7 hg7 hat7 hG7
                go_upto_region 23 with fail
                have hN1 := HG7.out
                obtain ⟨W8, hW8⟩ : ∃ W : World, W = w7.setCell ⟨wd.heap.size, 1, none⟩ (.slice (some ⟨g5, 0, none⟩) (pre.length + 1) cap5) := ⟨_, rfl⟩
                have t0 : W8.cell? ⟨wd.heap.size, 0, none⟩ = some (.int .i64 sx) := by subst hW8; simp [go_sem, g07, g17, gf7]
                have t1 : W8.cell? ⟨wd.heap.size, 1, none⟩ = some (.slice (some ⟨g5, 0, none⟩) (pre.length + 1) cap5) := by subst hW8; simp [go_sem, g07, g17, gf7]
                have tf : ∀ o, W8.frozen? ⟨wd.heap.size, o, none⟩ = false := by subst hW8; intro o; exact frozen_setCell _ _ _ _ _ (gf7 o)
                have tl : wd.heap.size < W8.heap.size := by subst hW8; simp <;> omega
                have hN8 := Lib.hid (show GL true (wd.heap.size + 1) (wd.heap.size + 1) W8.heap.size W8 126 _ (pre ++ [((kk : Int), 0)]) by subst hW8; exact (hN1.keep znT znT).top)
                have HA8 := Lib.hid (show Rd true 0 W8.heap.size W8 [.slice (some ⟨nb, nof, none⟩) f.1.length vc] o6 by subst hW8; exact (HA7.out.keep zmT).all)
                have hb8 : Below wd.heap.size wd W8 := by subst hW8; exact (hB6.trans (hp7.mono (by omega))).setCell (Nat.le_refl _) _
                rw [← hW8]
                clear hW8 hN1 HG7 HA7 g07 g17 gf7 m0 m1 mf HG6 HOW7
                go_wp2
                go_roundw
                case rel => exact ⟨m', _, o6, pre ++ [((kk : Int), 0)], _, _, by omega, rfl, by first | rfl | go_num | omega, rfl, t0, t1, tf, tl, hN8, HA8, HO6L, HPL2, by simp; omega, hb8⟩
                case measure => simp [intOf] <;> omega
        · obtain rfl : kk = 9 := by omega
          have HPL9 := Lib.hid (show pre ++ wayS f F m' o = L by rw [← HPL.out, wayS_none (pick_none fun j hj => HNF.out j (by omega))])
          clear HNF HPL
          go_wp2
          go_roundw
          case rel => exact ⟨m', _, o, pre, _, _, by omega, rfl, by first | rfl | go_num | omega, rfl, g0, g1, gf, lg, HG, HO, HOL, HPL9, by omega, hbi⟩
          case measure => simp [intOf] <;> omega
    · obtain rfl : m = 0 := by omega
      obtain rfl : q = -1 := by omega
      clear hq
      obtain rfl : pre = L := by
        have h := HPL.out
        rw [show wayS f F 0 o = [] from rfl, List.append_nil] at h
        exact h
      have y0 := oldc hbe lrd r0
      have y1 := oldc hbe lrd r1
      have yf : ∀ o, we.frozen? ⟨w.heap.size + 1, o, none⟩ = false := fun o => (hbe.frozen (p := ⟨w.heap.size + 1, o, none⟩) lrd).trans (rf o)
      have hBe : Below w.heap.size w we := hBd.trans (hbe.mono (by omega))
      have sze := hbe.size
      have lre : w.heap.size + 1 < we.heap.size := by omega
      have HW := Lib.hid (HG.out.ow (l0 := wd.heap.size + 1) (by omega) (by omega))
      have hne1 : ¬ wd.heap.size = w.heap.size + 1 := by omega
      have hne2 : ¬ w.heap.size + 1 = wd.heap.size := by omega
      clear HG HO HPL hm0
      go_wp2
      refine bodyPost_ret (v := .tuple #[.agg #[.int .i64 sx, .slice sao pre.length scap], .bool true]) ?_ rfl ⟨_, _, rfl, (Ow.kin_mk hsx64 (HW.out.keep zmT)).top.mono (by omega) (Nat.le_refl _), ?_⟩
      · simp [results, Tryz.results37, go_sem, y0, y1, yf, g0, g1, gf]
      · exact bwT
end Go.Proofs.YtcbhdmmohdnjbaaGreat
