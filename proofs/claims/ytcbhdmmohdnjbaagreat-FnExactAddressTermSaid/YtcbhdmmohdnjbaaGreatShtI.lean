/- Contract of impl.ShortestType. -/
import Derived.Test.YtcbhdmmohdnjbaaGreatWlk
import Derived.Test.YtcbhdmmohdnjbaaGreatShM
import Derived.Test.YtcbhdmmohdnjbaaGreatTbtI
namespace Go.Proofs.YtcbhdmmohdnjbaaGreat
set_option linter.unusedVariables false
set_option linter.unusedSimpArgs false
open Go.RowKit

theorem nilKin (lo hi : Nat) (w : World) : Ow lo hi w [.int .i64 0, .slice none 0 0] ((0, []) : Kin) := Ow.kin_mk (by unfold I64; omega) (Ow.nil _ _ _)
theorem kind_led (f : Fam) (k : Nat) : ledB f (((k + 1 : Nat) : Int), 0) = ledK f k := rfl
theorem rep_set1 {n k : Nat} (h : k < n) : (List.replicate k (-1 : Int) ++ List.replicate (n - k) 0).set k (-1) = List.replicate (k + 1) (-1) ++ List.replicate (n - (k + 1)) 0 := by
  obtain ⟨m, hm⟩ : ∃ m, n - k = m + 1 := ⟨n - k - 1, by omega⟩
  rw [hm, List.set_append_right _ _ (by simp)]
  simp only [List.length_replicate, Nat.sub_self, List.replicate_succ, List.set_cons_zero]
  rw [show n - (k + 1) = m by omega, ← List.replicate_succ, List.replicate_succ']
  simp
theorem shV_no {f : Fam} {a b : Int} (h : false = hasB f [a, b]) : shX f a b = (0, []) ∧ shV f a b = false := by
  unfold shX shV
  rw [← h]; exact ⟨rfl, rfl⟩
theorem shV_yes {f : Fam} {i j : Nat} (h : true = hasB f [(i : Int), (j : Int)]) : shV f i j = decide (0 ≤ farOf f i j) ∧ shX f i j = if 0 ≤ farOf f i j then (sexP f i, shL f i j) else (0, []) := by
  unfold shX shV
  rw [← h]
  simp
set_option maxRecDepth 20000 in
set_option maxHeartbeats 16000000 in
theorem shortestI_any {z : Bool} {lo hi : Nat} (w : World) (v v2 : Value) (f : Fam) (h : Rd z lo hi w [v, v2] f) (a b : Int) (ba : I64 a) (bb : I64 b) (X : Kin) (hX : X = shX f a b) (V : Bool) (hV : V = shV f a b) :
    Calls Tryz.prog 43 #[.agg #[v, v2], .int .i64 a, .int .i64 b] w (PostOw2B w X V) := by
  obtain ⟨ao, an, cap, rfl, hn, -⟩ := h.fam.1.shape
  subst hn
  obtain ⟨bo, bn, dap, rfl, hn2, -⟩ := h.fam.2.shape
  subst hn2
  obtain ⟨r1, hlet_r1⟩ : ∃ r, r = hasB f [a, b] := ⟨_, rfl⟩
  have H1 := Lib.hid hlet_r1
  clear hlet_r1
  have HX := Lib.hid hX
  have HV := Lib.hid hV
  have HH := Lib.hid h
  clear hX hV h
  go_enter Tryz.func43, Tryz.ntmps43
  go_wp2_with fail
  refine (has_b (z' := true) (lo' := w.heap.size + 1 + 1) (hi' := w.heap.size + 1 + 1 + 1) _ _ _ _ f (HH.out.below bwT) [a, b] (by have := Rd.litP ((w.alloc (.cells #[.slice ao f.1.length cap, .slice bo f.2.length dap] 37)).alloc (.cells #[.int .i64 0, .slice none 0 0] 68)) 3 a b ba bb; simpa using this) r1 H1.out).mono ?_
  rintro e1 w1 ⟨rfl, hbw1⟩
  have hpw1 : Below w.heap.size w w1 := Below.after bwT hbw1 szT
  have sw1 := hpw1.size
  have hBw1 : Below w.heap.size w w1 := hpw1
  have l_f : w.heap.size < w1.heap.size := by have := hbw1.size; simp at this; omega
  have q_f0 : w1.cell? ⟨w.heap.size, 0, none⟩ = some (.slice ao f.1.length cap) := oldc hbw1 ltT (by simp [go_sem])
  have q_f1 : w1.cell? ⟨w.heap.size, 1, none⟩ = some (.slice bo f.2.length dap) := oldc hbw1 ltT (by simp [go_sem])
  have l_r : w.heap.size + 1 < w1.heap.size := by have := hbw1.size; simp at this; omega
  have q_r0 : w1.cell? ⟨w.heap.size + 1, 0, none⟩ = some (.int .i64 0) := oldc hbw1 ltT (by simp [go_sem])
  have q_r1 : w1.cell? ⟨w.heap.size + 1, 1, none⟩ = some (.slice none 0 0) := oldc hbw1 ltT (by simp [go_sem])
  have f_r : ∀ o, w1.frozen? ⟨w.heap.size + 1, o, none⟩ = false := fun o => (hbw1.frozen (p := ⟨w.heap.size + 1, o, none⟩) ltT).trans (by simp [go_sem])
  clear hbw1 hpw1
  cases r1
  · obtain rfl : X = (0, []) := by rw [HX.out]; exact (shV_no H1.out).1
    obtain rfl : V = false := by rw [HV.out]; exact (shV_no H1.out).2
    clear HH HX HV H1
    go_wp2
    exact bodyPost_ret (v := .tuple #[.agg #[.int .i64 0, .slice none 0 0], .bool false]) (by simp [results, go_sem, *]) rfl ⟨_, _, rfl, nilKin _ _ _, bwT⟩
  obtain ⟨hf, i, j, rfl, rfl, hi, hj⟩ := hasB2 H1.out.symm
  have h40 := (famB_facts hf).1
  obtain ⟨FR, hFR⟩ : ∃ q, q = farOf f i j := ⟨_, rfl⟩
  have HV2 := Lib.hid (show V = decide (0 ≤ FR) by rw [HV.out, (shV_yes H1.out).1, hFR])
  have HX2 := Lib.hid (show X = if 0 ≤ FR then (sexP f i, shL f i j) else (0, []) by rw [HX.out, (shV_yes H1.out).2, hFR])
  have hFR8 := farOf_le (b := j) hi
  rw [← hFR] at hFR8
  have HFR := Lib.hid (show (fars f j 8).getD i 0 = FR from hFR.symm)
  have HFB := Lib.hid hf
  clear HX HV H1 hf hFR
  go_wp2_with fail
  refine (newWalker_any _ _ _ f (HH.out.below bwT) HFB.out).mono ?_
  rintro e2 w2 ⟨B, rfl, hW, hbw2⟩
  have hpw2 : Below w1.heap.size w1 w2 := Below.after bwT hbw2 szT
  have sw2 := hpw2.size
  have hBw2 : Below w.heap.size w w2 := Below.trans hBw1 (Below.mono hpw2 hBw1.size)
  have q_f0 := oldc hpw2 l_f q_f0
  have q_f1 := oldc hpw2 l_f q_f1
  have q_r0 := oldc hpw2 l_r q_r0
  have q_r1 := oldc hpw2 l_r q_r1
  have f_r : ∀ o, w2.frozen? ⟨w.heap.size + 1, o, none⟩ = false := fun o => (hpw2.frozen (p := ⟨w.heap.size + 1, o, none⟩) l_r).trans (f_r o)
  have l_f := Nat.lt_of_lt_of_le l_f sw2
  have l_r := Nat.lt_of_lt_of_le l_r sw2
  clear hbw2 hpw2
  obtain ⟨PB, PO, nm, sx, fa, mo, bo', di, e1, hXP, -, x1, -, -, -, -, -, hsx64, -, -, -, -, -, -, pbl, -⟩ := (HH.out.below hBw2).fam.1.per_at hi
  subst e1
  have HSX := Lib.hid (show sexP f i = sx from sexP_at hXP.out)
  have hiI : (i : Int) < (f.1.length : Int) := by omega
  have hjI : (j : Int) < (f.1.length : Int) := by omega
  have HWK := Lib.hid hW
  clear hXP hW
  obtain ⟨wP, hwP⟩ : ∃ W : World, W = w2 := ⟨_, rfl⟩
  subst hwP
  have hBP : Below w.heap.size w wP := hBw2
  have sP := hBP.size
  obtain ⟨G, hG⟩ : ∃ G, G = wP.heap.size := ⟨_, rfl⟩
  go_wp2_with (at_make; refine wpList_mk (α := Int) rfl rfl slInt (y0 := 0) (fun _ => ⟨rfl, by unfold I64; omega, rfl⟩) rfl rfl rfl rfl (by omega) (by unfold maxLen; omega) ?_; intro wA how hbA hlt1)
  have HOA := Lib.hid (show Ow G (G + 1) wA [.slice (some ⟨G, 0, none⟩) f.1.length f.1.length] (List.replicate 0 (-1 : Int) ++ List.replicate (f.1.length - 0) 0) by rw [hG]; exact how)
  have hlG : G < wA.heap.size := by rw [hG]; exact hlt1
  rw [← hG] at hbA
  try rw [← hG]
  have gP : ∀ {bk : Nat}, bk < wP.heap.size → bk < G := fun h => by rw [hG]; exact h
  have lfG := gP l_f
  have lrG := gP l_r
  have lpG := gP pbl
  have HBP := Lib.hid (show ∀ W : World, Below G wP W → Below w.heap.size w W from fun W h => hBP.trans (h.mono (by rw [hG]; exact sP)))
  have HB0 := Lib.hid (show ∀ W : World, Below G wP W → Below wP.heap.size wP W from fun W h => by rw [← hG]; exact h)
  clear how hlt1 hG gP sP
  go_wp2
  go_loopw [10, 36] (fun _ s36 wl => ∃ k : Nat, k ≤ f.1.length ∧ s36 = .int .i64 k ∧ Hid (Ow G (G + 1) wl [.slice (some ⟨G, 0, none⟩) f.1.length f.1.length] (List.replicate k (-1 : Int) ++ List.replicate (f.1.length - k) 0)) ∧ Below G wP wl ∧ G < wl.heap.size) (fun _ s36 _ => f.1.length - (intOf s36).toNat)
  case atStart => exact ⟨0, Nat.zero_le _, rfl, HOA, hbA, hlG⟩
  case round =>
    clear HOA hbA hlG
    obtain ⟨wb, hwb⟩ : ∃ wm : World, wm = wr := ⟨_, rfl⟩
    subst hwb
    obtain ⟨k, hk, rfl, hM, hbb, lb⟩ := hrel
    by_cases hlt : k < f.1.length
    · have hI : (k : Int) < (f.1.length : Int) := by omega
      obtain ⟨x, hx, hcx, hx1, hx2, hfx, -⟩ := hM.out.int_at0 (i := k) hlt
      have hset := hM.out.int_set0 (i := k) hlt (y := -1) ⟨by omega, by omega⟩
      rw [rep_set1 hlt] at hset
      have HS := Lib.hid hset
      have hb2 : Below G wP (wb.setCell ⟨G, k, none⟩ (.int .i64 (-1))) := by exact bwT
      have l2 : G < (wb.setCell ⟨G, k, none⟩ (.int .i64 (-1))).heap.size := by simp; exact lb
      clear hset hM hx
      go_wp2
      go_roundw
      case rel => exact ⟨k + 1, by omega, by go_num, HS, hb2, l2⟩
      case measure => simp [intOf]; omega
    · obtain rfl : k = f.1.length := by omega
      have nI : ¬ (f.1.length : Int) < (f.1.length : Int) := by omega
      have hM0 := Lib.hid (show Ow G (G + 1) wb [.slice (some ⟨G, 0, none⟩) f.1.length f.1.length] (List.replicate f.1.length (-1 : Int)) by simpa using hM.out)
      obtain ⟨x, -, x0, -, -, xf, -⟩ := hM0.out.int_at0 (i := j) hj
      obtain ⟨WS, hWS⟩ : ∃ W : World, W = wb.setCell ⟨G, j, none⟩ (.int .i64 0) := ⟨_, rfl⟩
      have HS := Lib.hid (show Ow G (G + 1) WS [.slice (some ⟨G, 0, none⟩) f.1.length f.1.length] (fars f j 0) by rw [hWS]; exact hM0.out.int_set0 hj ⟨by omega, by omega⟩)
      have hbS : Below G wP WS := by rw [hWS]; exact bwT
      have lS : G < WS.heap.size := by rw [hWS]; simp; exact lb
      clear hM hM0
      go_upto_region 11 with fail
      rw [← hWS]
      clear hWS x0 xf hbb lb
      go_wp2
      go_loopw [11, 12, 13, 15, 52, 70] (fun s11 _ _ _ _ _ wl => ∃ (m : Nat) (d : Int), m ≤ 8 ∧ s11 = .int .i64 d ∧ d = (m : Int) + 1 ∧ Hid (Ow G (G + 1) wl [.slice (some ⟨G, 0, none⟩) f.1.length f.1.length] (fars f j m)) ∧ Below G wP wl ∧ G < wl.heap.size) (fun s11 _ _ _ _ _ _ => 9 - (intOf s11).toNat)
      case atStart => exact ⟨0, 1, by omega, rfl, by omega, HS, hbS, lS⟩
      case round =>
        clear HS hbS lS
        obtain ⟨wd, hwd⟩ : ∃ y : World, y = wr := ⟨_, rfl⟩
        subst hwd
        obtain ⟨m, d, hm, rfl, hd, HO, hbd, ld⟩ := hrel
        by_cases hm8 : m < 8
        · have hd8 : d ≤ 8 := by omega
          have hd1 : 1 ≤ d := by omega
          obtain ⟨o, ho⟩ : ∃ o, o = fars f j m := ⟨_, rfl⟩
          have HOL := Lib.hid (show o.length = f.1.length by rw [ho]; exact fars_len _ _ _)
          have HNX := Lib.hid (show upd o d (hit f o (d - 1)) = fars f j (m + 1) by rw [ho, ← fars_succ f j m, show ((m + 1 : Nat) : Int) = d by omega])
          have HD := Lib.hid hd
          rw [← ho] at HO
          clear hd ho
          go_wp2
          go_loopw [12, 13, 15, 52, 70] (fun _ _ _ s52 _ wl => ∃ p : Nat, p ≤ f.1.length ∧ s52 = .int .i64 p ∧ Hid (Ow G (G + 1) wl [.slice (some ⟨G, 0, none⟩) f.1.length f.1.length] (farI f o d p 0 [])) ∧ Below G wP wl ∧ G < wl.heap.size) (fun _ _ _ s52 _ _ => f.1.length - (intOf s52).toNat)
          case atStart => exact ⟨0, Nat.zero_le _, rfl, Lib.hid (by rw [farI_start]; exact HO.out), hbd, ld⟩
          case round =>
            clear HO hbd ld
            obtain ⟨wp, hwp⟩ : ∃ y : World, y = wr := ⟨_, rfl⟩
            subst hwp
            obtain ⟨p, hp, rfl, HP, hbp, lp⟩ := hrel
            by_cases hpn : p < f.1.length
            · have hpI : (p : Int) < (f.1.length : Int) := by omega
              go_wp2
              go_loopw [13, 15, 70] (fun s13 _ _ wl => ∃ kk : Nat, 1 ≤ kk ∧ kk ≤ 9 ∧ s13 = .int .i64 kk ∧ Hid (Ow G (G + 1) wl [.slice (some ⟨G, 0, none⟩) f.1.length f.1.length] (farI f o d p (kk - 1) [])) ∧ Below G wP wl ∧ G < wl.heap.size) (fun s13 _ _ _ => 9 - (intOf s13).toNat)
              case atStart => exact ⟨1, by omega, by omega, rfl, HP, hbp, lp⟩
              case round =>
                clear HP hbp lp
                obtain ⟨wk, hwk⟩ : ∃ y : World, y = wr := ⟨_, rfl⟩
                subst hwk
                obtain ⟨kk, hk1, hk9, rfl, HK, hbk, lk⟩ := hrel
                by_cases hk8 : kk ≤ 8
                · have hkI : (kk : Int) ≤ 8 := by omega
                  have hkI2 : (kk : Int) < 9 := by omega
                  obtain ⟨k, hkk⟩ : ∃ k, kk = k + 1 := ⟨kk - 1, by omega⟩
                  have HKK := Lib.hid hkk
                  obtain ⟨ra, rc, -, c1, hrl⟩ := HWK.out kk (by omega) (by omega)
                  have lB := World.block_lt_of_cell? wP ⟨B, kk * 2 + 1, none⟩ c1
                  obtain ⟨gb, gof, row, gv, hra, hg, g0, hgr, -, -, gbl⟩ := hrl.rd.ints_at (i := p) hpn
                  subst hra
                  rw [relTo_at hpn] at hg
                  have hrow : rowTo (ledB f ((kk : Int), 0)) p f.1.length = row := Option.some.inj hg.out
                  obtain ⟨wa, wn, wc', rfl, hwn, -⟩ := hgr.shape
                  subst hwn
                  have HROW := Lib.hid (show farI f o d p k row = farI f o d p (kk + 1 - 1) [] by
                    rw [← hrow, Nat.add_sub_cancel, hkk]; exact farI_kind f o d p k)
                  have HMX := Lib.hid (show ∀ y ∈ row, ∃ b : Nat, b < f.1.length ∧ y = b from fun y hy => by
                    rw [← hrow] at hy
                    obtain ⟨b, h1, -, h2⟩ := mem_rowTo.1 hy
                    exact ⟨b, h1, h2⟩)
                  have hrl40 : row.length ≤ 40 := by rw [← hrow]; exact Nat.le_trans (rowTo_len _ _ _) h40
                  have HGR := Lib.hid hgr
                  have d1 := oldc (HB0.out _ hbk) lB c1
                  have g0 := oldc (HB0.out _ hbk) gbl g0
                  have HK2 := Lib.hid (show Ow G (G + 1) wk [.slice (some ⟨G, 0, none⟩) f.1.length f.1.length] (farI f o d p k []) by
                    have h := HK.out
                    rwa [show kk - 1 = k by omega] at h)
                  clear hg hgr hrow HK hkk hrl c1
                  go_wp2
                  go_loopw [15, 70] (fun _ s70 wl => ∃ q : Nat, q ≤ row.length ∧ s70 = .int .i64 q ∧ Hid (Ow G (G + 1) wl [.slice (some ⟨G, 0, none⟩) f.1.length f.1.length] (farI f o d p k (row.take q))) ∧ Below G wP wl ∧ G < wl.heap.size) (fun _ s70 _ => row.length - (intOf s70).toNat)
                  case atStart => exact ⟨0, Nat.zero_le _, rfl, Lib.hid (by rw [List.take_zero]; exact HK2.out), hbk, lk⟩
                  case round =>
                    clear HK2 hbk lk d1 g0
                    obtain ⟨wq, hwq⟩ : ∃ y : World, y = wr := ⟨_, rfl⟩
                    subst hwq
                    obtain ⟨q, hq, rfl, HQ, hbq, lq⟩ := hrel
                    by_cases hql : q < row.length
                    · have hqI : (q : Int) < (row.length : Int) := by omega
                      obtain ⟨by', ofy, y, hwa, hy, y0, -⟩ := (HGR.out.below (HB0.out _ hbq)).int_at (i := q) hql
                      subst hwa
                      obtain ⟨c, hcn, rfl⟩ := HMX.out y (List.mem_of_getElem? hy.out)
                      have hcI : (c : Int) < (f.1.length : Int) := by omega
                      obtain ⟨F, hF⟩ : ∃ F, F = farI f o d p k (row.take q) := ⟨_, rfl⟩
                      have HST0 := Lib.hid (show ∀ cc : Bool, cc = (decide (F.getD p 0 < 0) && decide (F.getD c 0 = d - 1)) → farI f o d p k (row.take (q + 1)) = if cc = true then F.set p d else F from fun cc hcc => by
                        rw [take_snoc hy.out, hF]
                        exact farI_step hd1 (by rw [HOL.out]; exact hpn) (by rw [HOL.out]; exact hcn) cc (by rw [hcc, hF]))
                      rw [← hF] at HQ
                      obtain ⟨u, hu, u0, -, -, uf, -⟩ := HQ.out.int_at0 (i := p) hpn
                      obtain ⟨t, ht, t0, tl, th, -, -⟩ := HQ.out.int_at0 (i := c) hcn
                      have hug : F.getD p 0 = u := by rw [List.getD_eq_getElem?_getD, hu.out]; rfl
                      have htg : F.getD c 0 = t := by rw [List.getD_eq_getElem?_getD, ht.out]; rfl
                      have HST := Lib.hid (show ∀ cc : Bool, cc = (decide (u < 0) && decide (t = d - 1)) → farI f o d p k (row.take (q + 1)) = if cc = true then F.set p d else F from fun cc hcc => HST0.out cc (by rw [hug, htg]; exact hcc))
                      clear HST0 hF hy hu ht hug htg
                      by_cases hu0 : u < 0
                      · by_cases ht0 : t = d - 1
                        · have HN := Lib.hid (show Ow G (G + 1) (wq.setCell ⟨G, p, none⟩ (.int .i64 d)) [.slice (some ⟨G, 0, none⟩) f.1.length f.1.length] (farI f o d p k (row.take (q + 1))) by
                            rw [HST.out true (by rw [decide_eq_true hu0, decide_eq_true ht0]; rfl), if_pos rfl]
                            exact HQ.out.int_set0 hpn ⟨by omega, by omega⟩)
                          have hb2 : Below G wP (wq.setCell ⟨G, p, none⟩ (.int .i64 d)) := by exact bwT
                          have l2 : G < (wq.setCell ⟨G, p, none⟩ (.int .i64 d)).heap.size := by simp; exact lq
                          have e1 : (t == d - 1) = true := by simpa using ht0
                          clear HST HQ ht0
                          go_wp2
                          go_roundw
                          case rel => exact ⟨q + 1, by omega, by go_num, HN, hb2, l2⟩
                          case measure => simp [intOf]; omega
                        · have HN := Lib.hid (show Ow G (G + 1) wq [.slice (some ⟨G, 0, none⟩) f.1.length f.1.length] (farI f o d p k (row.take (q + 1))) by
                            rw [HST.out false (by rw [decide_eq_false ht0, Bool.and_false]), if_neg (by decide)]
                            exact HQ.out)
                          have e1 : (t == d - 1) = false := by simpa using ht0
                          clear HST HQ ht0
                          go_wp2
                          go_roundw
                          case rel => exact ⟨q + 1, by omega, by go_num, HN, hbq, lq⟩
                          case measure => simp [intOf]; omega
                      · have HN := Lib.hid (show Ow G (G + 1) wq [.slice (some ⟨G, 0, none⟩) f.1.length f.1.length] (farI f o d p k (row.take (q + 1))) by
                          rw [HST.out false (by rw [decide_eq_false hu0, Bool.false_and]), if_neg (by decide)]
                          exact HQ.out)
                        clear HST HQ
                        go_wp2
                        go_roundw
                        case rel => exact ⟨q + 1, by omega, by go_num, HN, hbq, lq⟩
                        case measure => simp [intOf]; omega
                    · obtain rfl : q = row.length := by omega
                      have hqI : ¬ (row.length : Int) < (row.length : Int) := by omega
                      have HN := Lib.hid (show Ow G (G + 1) wq [.slice (some ⟨G, 0, none⟩) f.1.length f.1.length] (farI f o d p (kk + 1 - 1) []) by
                        rw [← HROW.out]
                        have h := HQ.out
                        rwa [List.take_length] at h)
                      clear HQ
                      go_wp2
                      go_roundw
                      case rel => exact ⟨kk + 1, by omega, by omega, by go_num, HN, hbq, lq⟩
                      case measure => simp [intOf]; omega
                · obtain rfl : kk = 9 := by omega
                  have HN := Lib.hid (show Ow G (G + 1) wk [.slice (some ⟨G, 0, none⟩) f.1.length f.1.length] (farI f o d (p + 1) 0 []) by rw [← farI_next]; exact HK.out)
                  clear HK
                  go_wp2
                  go_roundw
                  case rel => exact ⟨p + 1, by omega, by go_num, HN, hbk, lk⟩
                  case measure => simp [intOf]; omega
            · obtain rfl : p = f.1.length := by omega
              have hpI : ¬ (f.1.length : Int) < (f.1.length : Int) := by omega
              have HN := Lib.hid (show Ow G (G + 1) wp [.slice (some ⟨G, 0, none⟩) f.1.length f.1.length] (fars f j (m + 1)) by
                rw [← HNX.out, ← farI_end HOL.out]; exact HP.out)
              clear HP
              go_wp2
              go_roundw
              case rel => exact ⟨m + 1, d + 1, by omega, by go_num, by have := HD.out; omega, HN, hbp, lp⟩
              case measure => simp [intOf]; omega
        · obtain rfl : m = 8 := by omega
          obtain rfl : d = 9 := by omega
          clear hd
          have hP1 := HB0.out _ hbd
          have p0 := oldc hP1 l_f q_f0
          have p1 := oldc hP1 l_f q_f1
          have r0 := oldc hP1 l_r q_r0
          have r1 := oldc hP1 l_r q_r1
          have rf : ∀ o, wd.frozen? ⟨w.heap.size + 1, o, none⟩ = false := fun o => (hP1.frozen (p := ⟨w.heap.size + 1, o, none⟩) l_r).trans (f_r o)
          have x1' := oldc hP1 pbl x1
          have hBd := HBP.out _ hbd
          have HWd := Lib.hid (HWK.out.below hP1)
          have lpd : PB < wd.heap.size := Nat.lt_of_lt_of_le pbl hP1.size
          have lrd : w.heap.size + 1 < wd.heap.size := Nat.lt_of_lt_of_le l_r hP1.size
          have lfd : w.heap.size < wd.heap.size := by omega
          obtain ⟨x, hx, x0, xl, xh, xf, -⟩ := HO.out.int_at0 (i := i) hi
          have hxe : x = FR := by
            have h := HFR.out
            rw [List.getD_eq_getElem?_getD, hx.out] at h
            exact h
          subst hxe
          have HFD := Lib.hid HO.out.rd
          clear HO hx q_f0 q_f1 q_r0 q_r1 f_r x1 xf l_f l_r pbl
          by_cases hx0 : x < 0
          · obtain rfl : X = (0, []) := by rw [HX2.out, if_neg (by omega)]
            obtain rfl : V = false := by rw [HV2.out, decide_eq_false (by omega)]
            clear HX2 HV2 HFD HWd HSX HFR
            go_wp2
            refine bodyPost_ret (v := .tuple #[.agg #[.int .i64 0, .slice none 0 0], .bool false]) ?_ rfl ⟨_, _, rfl, nilKin _ _ _, ?_⟩
            · simp [results, Tryz.results43, go_sem, r0, r1, rf]
            · exact bwT
          obtain ⟨mm, rfl⟩ := Int.eq_ofNat_of_zero_le (show 0 ≤ x by omega)
          have hm8' : mm ≤ 8 := by omega
          obtain ⟨F, hF⟩ : ∃ F, F = fars f j 8 := ⟨_, rfl⟩
          obtain ⟨L, hL⟩ : ∃ L, L = wayI f F mm (single f.1.length i) := ⟨_, rfl⟩
          have HXL := Lib.hid (show X = (sx, L) by
            rw [HX2.out, if_pos (by omega), HSX.out]
            unfold shL
            rw [show farOf f i j = (mm : Int) from HFR.out, hL, hF]; rfl)
          have HLF := Lib.hid hL.symm
          have HFL := Lib.hid (show F.length = f.1.length by rw [hF]; exact fars_len _ _ _)
          rw [← hF] at HFD
          obtain rfl : V = true := by rw [HV2.out, decide_eq_true (by omega)]
          obtain rfl : X = (sx, L) := HXL.out
          clear HX2 HV2 HSX HFR hF hL HXL hx0
          go_upto_region 31 with (at_make; refine wpList_mk (α := Bool) rfl rfl slBool (y0 := false) (fun _ => ⟨rfl, rfl⟩) rfl rfl rfl rfl (by omega) (by unfold maxLen; omega) ?_; intro wM howM hbM hltM)
          simp only [World.size_alloc] at howM hbM hltM
          have hbDM : Below wd.heap.size wd wM := Below.trans (show Below wd.heap.size wd (wd.alloc (.cells #[.int .i64 sx, .slice none 0 0] 68)) from bwT) (hbM.mono (by omega))
          have g0 : wM.cell? ⟨wd.heap.size, 0, none⟩ = some (.int .i64 sx) := oldc hbM (Nat.lt_succ_self _) (by simp [go_sem])
          have g1 : wM.cell? ⟨wd.heap.size, 1, none⟩ = some (.slice none 0 0) := oldc hbM (Nat.lt_succ_self _) (by simp [go_sem])
          have gf : ∀ o, wM.frozen? ⟨wd.heap.size, o, none⟩ = false := fun o => (hbM.frozen (p := ⟨wd.heap.size, o, none⟩) (Nat.lt_succ_self _)).trans (by simp [go_sem])
          obtain ⟨y, -, y0, yf, -⟩ := howM.bool_at0 (i := i) hi
          obtain ⟨WS, hWS⟩ : ∃ W : World, W = wM.setCell ⟨wd.heap.size + 1, i, none⟩ (.bool true) := ⟨_, rfl⟩
          have HAT := Lib.hid (show Rd true 0 WS.heap.size WS [.slice (some ⟨wd.heap.size + 1, 0, none⟩) f.1.length f.1.length] (single f.1.length i) by rw [hWS]; exact (howM.bool_set0 hi true).rd.all)
          have hbS : Below (wd.heap.size + 1) wM WS := by rw [hWS]; exact bwT
          have hbDS : Below wd.heap.size wd WS := hbDM.trans (hbS.mono (by omega))
          have lS : wd.heap.size < WS.heap.size := by rw [hWS]; simp; omega
          have k0 := oldc hbS (Nat.lt_succ_self _) g0
          have k1 := oldc hbS (Nat.lt_succ_self _) g1
          have kf : ∀ o, WS.frozen? ⟨wd.heap.size, o, none⟩ = false := fun o => (hbS.frozen (p := ⟨wd.heap.size, o, none⟩) (Nat.lt_succ_self _)).trans (gf o)
          have z0 := oldc hbDS ld x0
          have HSL := Lib.hid (single_len f.1.length i)
          go_upto_region 32 with fail
          rw [← hWS]
          clear hWS howM hbM hltM hbDM hbS g0 g1 gf y0 yf
          go_wp2
          go_loopw [17, 18, 19, 20] (fun s17 s18 _ _ wl => ∃ (m : Nat) (q : Int) (o : List Bool) (pre : List Stp) (u sv : Value), m ≤ 8 ∧ s18 = .int .i64 q ∧ q = (m : Int) - 1 ∧ u = s17 ∧ wl.cell? ⟨wd.heap.size, 0, none⟩ = some (.int .i64 sx) ∧ wl.cell? ⟨wd.heap.size, 1, none⟩ = some sv ∧ (∀ o, wl.frozen? ⟨wd.heap.size, o, none⟩ = false) ∧ wd.heap.size < wl.heap.size ∧ Hid (GL true (wd.heap.size + 1) (wd.heap.size + 1) wl.heap.size wl 126 sv pre) ∧ Hid (Rd true 0 wl.heap.size wl [u] o) ∧ Hid (o.length = f.1.length) ∧ Hid (pre ++ wayI f F m o = L) ∧ pre.length + m ≤ 8 ∧ Below wd.heap.size wd wl) (fun _ s18 _ _ _ => (intOf s18 + 1).toNat)
          case atStart => exact ⟨mm, _, _, [], _, _, hm8', rfl, by first | rfl | go_num | omega, rfl, k0, k1, kf, lS, Lib.hid (GL.start _ _ _ _ _ _), HAT, HSL, Lib.hid HLF.out, by simp; omega, hbDS⟩
          case round =>
            clear k0 k1 kf lS HAT HSL HLF hbDS z0
            obtain ⟨we, hwe⟩ : ∃ y : World, y = wr := ⟨_, rfl⟩
            subst hwe
            obtain ⟨m, q, o, pre, u, sv, hm, rfl, hq, hu, g0, g1, gf, lg, HG, HO, HOL, HPL, hpm, hbe⟩ := hrel
            obtain ⟨ua, un, uc, rfl, hun, -⟩ := HO.out.shape
            subst hu
            rw [HOL.out] at hun
            subst hun
            obtain ⟨sao, scap, rfl, -, -⟩ := HG.out.len
            by_cases hm0 : 0 < m
            · obtain ⟨m', rfl⟩ : ∃ m', m = m' + 1 := ⟨m - 1, by omega⟩
              obtain rfl : q = (m' : Int) := by omega
              have hq0 : (0 : Int) ≤ (m' : Int) := by omega
              clear hq
              go_wp2
              go_loopw [17, 19, 20] (fun s17 s19 _ wl => ∃ kk : Nat, 1 ≤ kk ∧ kk ≤ 9 ∧ s19 = .int .i64 kk ∧ s17 = .slice ua f.1.length uc ∧ wl.cell? ⟨wd.heap.size, 0, none⟩ = some (.int .i64 sx) ∧ wl.cell? ⟨wd.heap.size, 1, none⟩ = some (.slice sao pre.length scap) ∧ (∀ o, wl.frozen? ⟨wd.heap.size, o, none⟩ = false) ∧ wd.heap.size < wl.heap.size ∧ Hid (GL true (wd.heap.size + 1) (wd.heap.size + 1) wl.heap.size wl 126 (.slice sao pre.length scap) pre) ∧ Hid (Rd true 0 wl.heap.size wl [.slice ua f.1.length uc] o) ∧ Hid (∀ j, j < kk - 1 → anyFar (stepSet (ledK f j) f.1.length o) F m' = false) ∧ Below wd.heap.size wd wl) (fun _ s19 _ _ => 9 - (intOf s19).toNat)
              case atStart => exact ⟨1, by omega, by omega, rfl, rfl, g0, g1, gf, lg, HG, HO, Lib.hid (fun j hj => by omega), hbe⟩
              case round =>
                clear g0 g1 gf lg HG HO hbe
                obtain ⟨wi, hwi⟩ : ∃ y : World, y = wr := ⟨_, rfl⟩
                subst hwi
                obtain ⟨kk, hk1, hk9, rfl, rfl, g0, g1, gf, lg, HG, HO, HNF, hbi⟩ := hrel
                by_cases hk8 : kk ≤ 8
                · have hkI : (kk : Int) ≤ 8 := by omega
                  have hk0 : (0 : Int) ≤ (kk : Int) := by omega
                  obtain ⟨k, hkk⟩ : ∃ k, kk = k + 1 := ⟨kk - 1, by omega⟩
                  have HKK := Lib.hid hkk
                  clear hkk
                  go_wp2_with fail
                  refine (next_any _ B f (HWd.out.below hbi) h40 _ o HO.out HOL.out kk ⟨hk1, hk8⟩).mono ?_
                  rintro e5 w5 ⟨u5, rfl, ho5, hb5⟩
                  obtain ⟨o5, ho5e⟩ : ∃ o5, o5 = stepSet (ledB f ((kk : Int), 0)) f.1.length o := ⟨_, rfl⟩
                  rw [← ho5e] at ho5
                  have ho5l : o5.length = f.1.length := by rw [ho5e, stepSet_len]
                  obtain ⟨va, vn, vc, rfl, hvn, -⟩ := ho5.rd.shape
                  rw [ho5l] at hvn
                  subst hvn
                  have HO5E := Lib.hid (show stepSet (ledK f k) f.1.length o = o5 by rw [ho5e, HKK.out]; rfl)
                  have HO5L := Lib.hid ho5l
                  have HOW5 := Lib.hid ho5
                  have hB5 : Below wd.heap.size wd w5 := hbi.trans (hb5.mono (by omega))
                  obtain ⟨r, hr⟩ : ∃ r, r = anyFar o5 F (m' : Int) := ⟨_, rfl⟩
                  have HR := Lib.hid hr
                  have sz5 := hb5.size
                  clear ho5 ho5e ho5l hr
                  go_wp2_with fail
                  refine (reaches_b _ _ _ o5 F (m' : Int) HOW5.out.rd (HFD.out.below hB5) (by rw [HFL.out, HO5L.out]) (by rw [HO5L.out]; exact h40) r HR.out).mono ?_
                  rintro e6 w6 ⟨rfl, hb6⟩
                  have hbi6 : Below wi.heap.size wi w6 := hb5.trans (hb6.mono sz5)
                  have hB6 : Below wd.heap.size wd w6 := hbi.trans (hbi6.mono (by omega))
                  have sz6 := hbi6.size
                  have sz56 := hb6.size
                  have m0 := oldc hbi6 lg g0
                  have m1 := oldc hbi6 lg g1
                  have mf : ∀ o, w6.frozen? ⟨wd.heap.size, o, none⟩ = false := fun o => (hbi6.frozen (p := ⟨wd.heap.size, o, none⟩) lg).trans (gf o)
                  have lg6 : wd.heap.size < w6.heap.size := by omega
                  have HG6 := Lib.hid (HG.out.below hbi6)
                  have HOW6 := Lib.hid (HOW5.out.below hb6)
                  cases r
                  · have HO6 := Lib.hid (HO.out.below hbi6).all
                    have HGT := Lib.hid HG6.out.top
                    have HNF2 := Lib.hid (show ∀ j, j < kk + 1 - 1 → anyFar (stepSet (ledK f j) f.1.length o) F m' = false from fun j hj => by
                      by_cases e : j < kk - 1
                      · exact HNF.out j e
                      · obtain rfl : j = k := by have := HKK.out; omega
                        rw [HO5E.out]; exact HR.out.symm)
                    clear HG HO HNF HG6 HOW6 HOW5 hb5 hb6 hbi6 g0 g1 gf
                    go_wp2
                    go_roundw
                    case rel => exact ⟨kk + 1, by omega, by omega, by go_num, rfl, m0, m1, mf, lg6, HGT, HO6, HNF2, hB6⟩
                    case measure => simp [intOf]; omega
                  · have HPK := Lib.hid (show pickK f F o m' = some k from pick_some (by have := HKK.out; omega) (fun j hj => HNF.out j (by have := HKK.out; omega)) (by rw [HO5E.out]; exact HR.out.symm))
                    have HPL2 := Lib.hid (show (pre ++ [((kk : Int), 0)]) ++ wayI f F m' o5 = L by
                      rw [← HPL.out, wayI_some HPK.out, HO5E.out, HKK.out]; simp)
                    have HOB := Lib.hid (show ∀ g, (Value.slice sao pre.length scap).ownBlock = some g → g < wi.heap.size from fun g e => GL.own_hi HG.out e)
                    have n6a : ¬ wd.heap.size = w6.heap.size := by omega
                    have n6b : ¬ w6.heap.size = wd.heap.size := by omega
                    have hkk64 : -9223372036854775808 ≤ (kk : Int) ∧ (kk : Int) ≤ 9223372036854775807 := by omega
                    have hpl8 : pre.length ≤ 8 := by omega
                    clear HG HO HNF HOW5 hb5 hb6 g0 g1 gf HR HPL
                    go_wp2_with (at_builtin; refine wpList_push_at rfl rfl slStep (by show (0 : Nat) < 2; omega) (HG6.out.alloc _) rfl (ad := ⟨w6.heap.size, 0, none⟩) rfl (cs := [.int .i64 kk, .int .i64 0]) (y := ((kk : Int), (0 : Int))) (lx := w6.heap.size) (hx' := w6.heap.size) ?c1 (It.flat (z := true) (w0 := w6) (fp := []) ⟨[_], [_], [], [], rfl, rfl, ⟨rfl, hkk64, rfl⟩, ⟨rfl, ⟨by omega, by omega⟩, rfl⟩⟩) (by omega) (.inl (by omega)) (by unfold maxLen; omega) (by omega) ?c2 ?_)
                    case c1 => intro j c hj; match j, hj with | 0, hj => simp at hj; subst hj; simp [Addr.add] | 1, hj => simp at hj; subst hj; simp [Addr.add, go_sem]
                    case c2 => simp; omega
                    intro g5 cap5 w7 hG7 hg7 hb7 hat7
                    have hp7 : Below (wd.heap.size + 1) w6 w7 := Below.trans (show Below (wd.heap.size + 1) w6 _ from bwT) hb7
                    have HA7 := Lib.hid (show Rd true wi.heap.size w5.heap.size w7 [.slice va f.1.length vc] o5 from ((HOW6.out.rd.below (show Below w6.heap.size w6 _ from bwT)).keep (Zone.grown (Zone.refl _ _ _) hg7 (by simp; omega) (fun g e => .inl (HOB.out g e)))))
                    have g07 := oldc hp7 (Nat.lt_succ_self _) m0
                    have g17 := oldc hp7 (Nat.lt_succ_self _) m1
                    have gf7 : ∀ o, w7.frozen? ⟨wd.heap.size, o, none⟩ = false := fun o => (hp7.frozen (p := ⟨wd.heap.size, o, none⟩) (Nat.lt_succ_self _)).trans (mf o)
                    have sz7 := hp7.size
                    have HG7 := Lib.hid hG7
                    clear hb7 hg7 hat7 hG7
                    go_upto_region 41 with fail
                    have hN1 := HG7.out
                    obtain ⟨W8, hW8⟩ : ∃ W : World, W = w7.setCell ⟨wd.heap.size, 1, none⟩ (.slice (some ⟨g5, 0, none⟩) (pre.length + 1) cap5) := ⟨_, rfl⟩
                    have t0 : W8.cell? ⟨wd.heap.size, 0, none⟩ = some (.int .i64 sx) := by subst hW8; simp [go_sem, g07, g17, gf7]
                    have t1 : W8.cell? ⟨wd.heap.size, 1, none⟩ = some (.slice (some ⟨g5, 0, none⟩) (pre.length + 1) cap5) := by subst hW8; simp [go_sem, g07, g17, gf7]
                    have tf : ∀ o, W8.frozen? ⟨wd.heap.size, o, none⟩ = false := by subst hW8; intro o; exact frozen_setCell _ _ _ _ _ (gf7 o)
                    have tl : wd.heap.size < W8.heap.size := by subst hW8; simp <;> omega
                    have hN8 := Lib.hid (show GL true (wd.heap.size + 1) (wd.heap.size + 1) W8.heap.size W8 126 _ (pre ++ [((kk : Int), 0)]) by subst hW8; exact (hN1.keep znT znT).top)
                    have HA8 := Lib.hid (show Rd true 0 W8.heap.size W8 [.slice va f.1.length vc] o5 by subst hW8; exact (HA7.out.keep zmT).all)
                    have hb8 : Below wd.heap.size wd W8 := by subst hW8; exact (hB6.trans (hp7.mono (by omega))).setCell (Nat.le_refl _) _
                    rw [← hW8]
                    clear hW8 hN1 HG7 HA7 g07 g17 gf7 m0 m1 mf HG6 HOW6
                    go_wp2
                    go_roundw
                    case rel => exact ⟨m', _, o5, pre ++ [((kk : Int), 0)], _, _, by omega, rfl, by first | rfl | go_num | omega, rfl, t0, t1, tf, tl, hN8, HA8, HO5L, HPL2, by simp; omega, hb8⟩
                    case measure => simp [intOf] <;> omega
                · obtain rfl : kk = 9 := by omega
                  have HPL9 := Lib.hid (show pre ++ wayI f F m' o = L by rw [← HPL.out, wayI_none (pick_none fun j hj => HNF.out j (by omega))])
                  clear HNF HPL
                  go_wp2
                  go_roundw
                  case rel => exact ⟨m', _, o, pre, _, _, by omega, rfl, by first | rfl | go_num | omega, rfl, g0, g1, gf, lg, HG, HO, HOL, HPL9, by omega, hbi⟩
                  case measure => simp [intOf] <;> omega
            · obtain rfl : m = 0 := by omega
              obtain rfl : q = -1 := by omega
              clear hq
              obtain rfl : pre = L := by
                have h := HPL.out
                rw [show wayI f F 0 o = [] from rfl, List.append_nil] at h
                exact h
              have y0 := oldc hbe lrd r0
              have y1 := oldc hbe lrd r1
              have yf : ∀ o, we.frozen? ⟨w.heap.size + 1, o, none⟩ = false := fun o => (hbe.frozen (p := ⟨w.heap.size + 1, o, none⟩) lrd).trans (rf o)
              have hBe : Below w.heap.size w we := hBd.trans (hbe.mono (by omega))
              have sze := hbe.size
              have lre : w.heap.size + 1 < we.heap.size := by omega
              have HW := Lib.hid (HG.out.ow (l0 := wd.heap.size + 1) (by omega) (by omega))
              have hne1 : ¬ wd.heap.size = w.heap.size + 1 := by omega
              have hne2 : ¬ w.heap.size + 1 = wd.heap.size := by omega
              clear HG HO HPL hm0
              go_wp2
              refine bodyPost_ret (v := .tuple #[.agg #[.int .i64 sx, .slice sao pre.length scap], .bool true]) ?_ rfl ⟨_, _, rfl, (Ow.kin_mk hsx64 (HW.out.keep zmT)).top.mono (by omega) (Nat.le_refl _), ?_⟩
              · simp [results, Tryz.results43, go_sem, y0, y1, yf, g0, g1, gf]
              · exact bwT
end Go.Proofs.YtcbhdmmohdnjbaaGreat
