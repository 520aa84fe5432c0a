/- Contract of spec.l3Away. -/
import Derived.Test.YtcbhdmmohdnjbaaGreatWls
import Derived.Test.YtcbhdmmohdnjbaaGreatShM
import Derived.Test.YtcbhdmmohdnjbaaGreatTrmC
import Derived.Test.YtcbhdmmohdnjbaaGreatTbtI
namespace Go.Proofs.YtcbhdmmohdnjbaaGreat
set_option linter.unusedVariables false
set_option linter.unusedSimpArgs false
open Go.RowKit

theorem GL.pos {α : Type} [Rep α] {nd : Bool} {lo lo' hi : Nat} {w : World} {E : TypeId} {v : Value} {xs : List α} (h : GL nd lo lo' hi w E v xs) (hn : 0 < xs.length) : ∃ g cap, v = .slice (some ⟨g, 0, none⟩) xs.length cap := by
  obtain ⟨css, fps, ho, -⟩ := h
  rcases ho.2 with ⟨rfl, h⟩ | ⟨g, cap, cur, rfl, -⟩
  · omega
  · exact ⟨g, cap, rfl⟩
theorem Ow.bool_setg {lo hi : Nat} {w : World} {xs : List Bool} {b off n cap : Nat} (h : Ow lo hi w [.slice (some ⟨b, off, none⟩) n cap] xs) {i : Nat} (hi' : i < n) (y : Bool) :
    Ow lo hi (w.setCell ⟨b, off + i, none⟩ (.bool y)) [.slice (some ⟨b, off, none⟩) n cap] (xs.set i y) := by
  obtain ⟨b', off', x, e, hx, -⟩ := h.rd.bool_at hi'
  have := h.setc (i := i) (j := 0) (x := x) (y := y) (cs := [.bool x]) (u := .bool y) (fp' := []) (w' := w) hx ⟨rfl, rfl⟩ (by show (0 : Nat) < 1; omega) ⟨rfl, rfl⟩
  simpa [Rep.sz] using this
set_option maxRecDepth 20000 in
set_option maxHeartbeats 16000000 in
theorem awayS_any {z : Bool} {lo hi : Nat} (w : World) (v v2 : Value) (f : Fam) (h : Rd z lo hi w [v, v2] f) (hf : famB f = true) (j : Nat) (hj : j < f.1.length) :
    Calls Tryz.prog 75 #[.agg #[v, v2], .int .i64 j] w (PostOw w (fars f j 8)) := by
  obtain ⟨ao, an, cap, rfl, hn, -⟩ := h.fam.1.shape
  subst hn
  obtain ⟨bo, bn, dap, rfl, hn2, -⟩ := h.fam.2.shape
  subst hn2
  have h40 := (famB_facts hf).1
  have HH := Lib.hid h
  have HF := Lib.hid hf
  have hjI : (j : Int) < (f.1.length : Int) := by omega
  clear h hf
  go_enter Tryz.func75, Tryz.ntmps75
  go_wp2
  go_loopw [5, 14] (fun s5 s14 wl => ∃ k : Nat, k ≤ f.1.length ∧ s14 = .int .i64 k ∧ Hid (GL (α := Int) true (w.heap.size + 1) (w.heap.size + 1) wl.heap.size wl 3 s5 (List.replicate k (-1))) ∧ wl.cell? ⟨w.heap.size, 0, none⟩ = some (.slice ao f.1.length cap) ∧ wl.cell? ⟨w.heap.size, 1, none⟩ = some (.slice bo f.2.length dap) ∧ Below w.heap.size w wl ∧ w.heap.size < wl.heap.size) (fun _ s14 _ => f.1.length - (intOf s14).toNat)
  case atStart => exact ⟨0, Nat.zero_le _, rfl, Lib.hid (by have h := (GL.lit0 (α := Int) true (w.heap.size + 1) (w.heap.size + 1) (w.alloc (.cells #[.slice ao f.1.length cap, .slice bo f.2.length dap] 37)) 3 (by simp)).top; simp only [World.size_alloc] at h ⊢; exact h), by simp [go_sem], by simp [go_sem], bwT, by simp; omega⟩
  case round =>
    obtain ⟨wb, hwb⟩ : ∃ wm : World, wm = wr := ⟨_, rfl⟩
    subst hwb
    obtain ⟨k, hk, rfl, HG, q0, q1, hbb, lb⟩ := hrel
    by_cases hkl : k < f.1.length
    · have hkI : (k : Int) < (f.1.length : Int) := by omega
      obtain ⟨P, hP⟩ : ∃ P, P = List.replicate k (-1 : Int) := ⟨_, rfl⟩
      have HPL := Lib.hid (show P.length = k by rw [hP, List.length_replicate])
      have HPN := Lib.hid (show P ++ [-1] = List.replicate (k + 1) (-1 : Int) by rw [hP, List.replicate_succ'])
      rw [← hP] at HG
      clear hP
      obtain ⟨pa, pc, rfl, -, -⟩ := HG.out.len
      go_wp2_with (at_builtin; refine wpList_push rfl rfl slInt (by show (0 : Nat) < 1; omega) (HG.out.alloc _) rfl (ad := ⟨wb.heap.size, 0, none⟩) rfl (cs := [.int .i64 (-1)]) (y := (-1 : Int)) (lx := wb.heap.size) (hx' := wb.heap.size) ?c1 (It.flat (z := true) (w0 := wb) (fp := []) ⟨rfl, by unfold I64; omega, rfl⟩) (by omega) (.inl szT) (by have := HPL.out; unfold maxLen; omega) (by have := HPL.out; omega) ?c2 ?_)
      case c1 =>
        intro j c hj
        match j, hj with
        | 0, hj => simp at hj; subst hj; simp [Addr.add]
      case c2 => simp; omega
      intro v3 w3 hG3 _ hb3
      have HG3 := Lib.hid (show GL (α := Int) true (w.heap.size + 1) (w.heap.size + 1) w3.heap.size w3 3 v3 (List.replicate (k + 1) (-1)) by rw [← HPN.out]; exact hG3)
      have hbA : Below (w.heap.size + 1) wb w3 := Below.trans (show Below (w.heap.size + 1) wb _ from bwT) hb3
      have t0 := oldc hbA (Nat.lt_succ_self _) q0
      have t1 := oldc hbA (Nat.lt_succ_self _) q1
      have hbo3 : Below w.heap.size w w3 := hbb.trans (hbA.mono (by omega))
      have l3 : w.heap.size < w3.heap.size := Nat.lt_of_lt_of_le lb hbA.size
      clear HG hG3 hb3 hbA q0 q1
      go_wp2
      go_roundw
      case rel => exact ⟨k + 1, by omega, by go_num, HG3, t0, t1, hbo3, l3⟩
      case measure => simp [intOf]; omega
    · obtain rfl : k = f.1.length := by omega
      have hkI : ¬ (f.1.length : Int) < (f.1.length : Int) := by omega
      obtain ⟨G, gcap, hv⟩ := HG.out.pos (by rw [List.length_replicate]; omega)
      rw [List.length_replicate] at hv
      subst hv
      have hGlo := GL.own_lo HG.out rfl
      have hGhi := GL.own_hi HG.out rfl
      have hM0 := Lib.hid (GL.own_at HG.out)
      obtain ⟨x, -, x0, -, -, xf, -⟩ := hM0.out.int_at0 (i := j) hj
      obtain ⟨WS, hWS⟩ : ∃ W : World, W = wb.setCell ⟨G, j, none⟩ (.int .i64 0) := ⟨_, rfl⟩
      have HS := Lib.hid (show Ow G (G + 1) WS [.slice (some ⟨G, 0, none⟩) f.1.length gcap] (fars f j 0) by rw [hWS]; exact hM0.out.int_set0 hj ⟨by omega, by omega⟩)
      have hbS : Below G wb WS := by rw [hWS]; exact bwT
      have lS : G < WS.heap.size := by rw [hWS]; simp; exact hGhi
      have lfG : w.heap.size < G := hGlo
      have HBP := Lib.hid (show ∀ W : World, Below G wb W → Below w.heap.size w W from fun W h => hbb.trans (h.mono (by omega)))
      obtain ⟨wG, hwG⟩ : ∃ y : World, y = wb := ⟨_, rfl⟩
      go_upto_region 7 with fail
      rw [← hWS]
      clear hWS x0 xf HG hM0 hbb hGlo hGhi
      subst hwG
      go_wp2
      go_loopw [6, 7, 8, 9, 33, 38] (fun s6 _ _ _ _ _ wl => ∃ (m : Nat) (d : Int), m ≤ 8 ∧ s6 = .int .i64 d ∧ d = (m : Int) + 1 ∧ Hid (Ow G (G + 1) wl [.slice (some ⟨G, 0, none⟩) f.1.length gcap] (fars f j m)) ∧ Below G wG wl ∧ G < wl.heap.size) (fun s6 _ _ _ _ _ _ => 9 - (intOf s6).toNat)
      case atStart => exact ⟨0, 1, by omega, rfl, by omega, HS, hbS, lS⟩
      case round =>
        clear HS hbS lS
        obtain ⟨wd, hwd⟩ : ∃ y : World, y = wr := ⟨_, rfl⟩
        subst hwd
        obtain ⟨m, d, hm, rfl, hd, HO, hbd, ld⟩ := hrel
        by_cases hm8 : m < 8
        · have hd8 : d ≤ 8 := by omega
          have hd1 : 1 ≤ d := by omega
          obtain ⟨o, ho⟩ : ∃ o, o = fars f j m := ⟨_, rfl⟩
          have HOL := Lib.hid (show o.length = f.1.length by rw [ho]; exact fars_len _ _ _)
          have HNX := Lib.hid (show upd o d (hit f o (d - 1)) = fars f j (m + 1) by rw [ho, ← fars_succ f j m, show ((m + 1 : Nat) : Int) = d by omega])
          have HD := Lib.hid hd
          rw [← ho] at HO
          clear hd ho
          go_wp2
          go_loopw [7, 8, 9, 33, 38] (fun s7 _ _ _ _ wl => ∃ kk : Nat, 1 ≤ kk ∧ kk ≤ 9 ∧ s7 = .int .i64 kk ∧ Hid (Ow G (G + 1) wl [.slice (some ⟨G, 0, none⟩) f.1.length gcap] (farS f o d (kk - 1) 0 0)) ∧ Below G wG wl ∧ G < wl.heap.size) (fun s7 _ _ _ _ _ => 9 - (intOf s7).toNat)
          case atStart => exact ⟨1, by omega, by omega, rfl, Lib.hid (by rw [show 1 - 1 = 0 from rfl, farS_start]; exact HO.out), hbd, ld⟩
          case round =>
            clear HO hbd ld
            obtain ⟨wk, hwk⟩ : ∃ y : World, y = wr := ⟨_, rfl⟩
            subst hwk
            obtain ⟨kk, hk1, hk9, rfl, HK, hbk, lk⟩ := hrel
            by_cases hk8 : kk ≤ 8
            · have hkI : (kk : Int) ≤ 8 := by omega
              have hkB : 1 ≤ (kk : Int) ∧ (kk : Int) ≤ 8 := by omega
              obtain ⟨k, hkk⟩ : ∃ k, kk = k + 1 := ⟨kk - 1, by omega⟩
              have HKK := Lib.hid hkk
              have HK2 := Lib.hid (show Ow G (G + 1) wk [.slice (some ⟨G, 0, none⟩) f.1.length gcap] (farS f o d k 0 0) by
                have h := HK.out
                rwa [show kk - 1 = k by omega] at h)
              clear HK hkk
              go_wp2
              go_loopw [8, 9, 33, 38] (fun _ _ s33 _ wl => ∃ x : Nat, x ≤ f.1.length ∧ s33 = .int .i64 x ∧ Hid (Ow G (G + 1) wl [.slice (some ⟨G, 0, none⟩) f.1.length gcap] (farS f o d k x 0)) ∧ Below G wG wl ∧ G < wl.heap.size) (fun _ _ s33 _ _ => f.1.length - (intOf s33).toNat)
              case atStart => exact ⟨0, Nat.zero_le _, rfl, HK2, hbk, lk⟩
              case round =>
                clear HK2 hbk lk
                obtain ⟨wp, hwp⟩ : ∃ y : World, y = wr := ⟨_, rfl⟩
                subst hwp
                obtain ⟨x, hx, rfl, HP, hbp, lp⟩ := hrel
                by_cases hxn : x < f.1.length
                · have hxI : (x : Int) < (f.1.length : Int) := by omega
                  go_wp2
                  go_loopw [9, 38] (fun _ s38 wl => ∃ y : Nat, y ≤ f.1.length ∧ s38 = .int .i64 y ∧ Hid (Ow G (G + 1) wl [.slice (some ⟨G, 0, none⟩) f.1.length gcap] (farS f o d k x y)) ∧ Below G wG wl ∧ G < wl.heap.size) (fun _ s38 _ => f.1.length - (intOf s38).toNat)
                  case atStart => exact ⟨0, Nat.zero_le _, rfl, HP, hbp, lp⟩
                  case round =>
                    clear HP hbp lp
                    obtain ⟨wq, hwq⟩ : ∃ y : World, y = wr := ⟨_, rfl⟩
                    subst hwq
                    obtain ⟨y, hy, rfl, HQ, hbq, lq⟩ := hrel
                    by_cases hyn : y < f.1.length
                    · have hyI : (y : Int) < (f.1.length : Int) := by omega
                      obtain ⟨F, hF⟩ : ∃ F, F = farS f o d k x y := ⟨_, rfl⟩
                      have HST0 := Lib.hid (show ∀ cc r : Bool, cc = (decide (F.getD x 0 < 0) && decide (F.getD y 0 = d - 1)) → r = ledB f ((kk : Int), 0) x y → farS f o d k x (y + 1) = if (cc && r) = true then F.set x d else F from fun cc r hcc hr => by
                        rw [hF]
                        exact farS_step hd1 (by rw [HOL.out]; exact hxn) (by rw [HOL.out]; exact hyn) cc (by rw [hcc, hF]) r (by rw [hr, HKK.out]; rfl))
                      rw [← hF] at HQ
                      obtain ⟨u, hu, u0, -, -, uf, -⟩ := HQ.out.int_at0 (i := x) hxn
                      obtain ⟨t, ht, t0, tl, th, -, -⟩ := HQ.out.int_at0 (i := y) hyn
                      have hug : F.getD x 0 = u := by rw [List.getD_eq_getElem?_getD, hu.out]; rfl
                      have htg : F.getD y 0 = t := by rw [List.getD_eq_getElem?_getD, ht.out]; rfl
                      have HST := Lib.hid (show ∀ cc r : Bool, cc = (decide (u < 0) && decide (t = d - 1)) → r = ledB f ((kk : Int), 0) x y → farS f o d k x (y + 1) = if (cc && r) = true then F.set x d else F from fun cc r hcc hr => HST0.out cc r (by rw [hug, htg]; exact hcc) hr)
                      clear HST0 hF hu ht hug htg
                      by_cases hu0 : u < 0
                      · by_cases ht0 : t = d - 1
                        · obtain ⟨c, hc⟩ : ∃ c, c = ledB f ((kk : Int), 0) x y := ⟨_, rfl⟩
                          have HC := Lib.hid hc
                          have HST2 := Lib.hid (HST.out true c (by rw [decide_eq_true hu0, decide_eq_true ht0]; rfl) hc)
                          have e1 : (t == d - 1) = true := by simpa using ht0
                          have r0 := oldc hbq lfG q0
                          have r1 := oldc hbq lfG q1
                          have hBq := HBP.out _ hbq
                          clear HST ht0 hc
                          go_wp2_with fail
                          refine (leadsS_b _ _ _ f (HH.out.below hBq) HF.out (kk : Int) 0 hkB (by omega) x y hxn hyn c HC.out).mono ?_
                          rintro e5 w5 ⟨rfl, hb5⟩
                          have HQ5 := Lib.hid (HQ.out.below hb5)
                          have hb5G : Below G wG w5 := hbq.trans (hb5.mono (by omega))
                          have l5 : G < w5.heap.size := Nat.lt_of_lt_of_le lq hb5.size
                          clear HQ hb5 u0 uf t0
                          cases c
                          · have HN := Lib.hid (show Ow G (G + 1) w5 [.slice (some ⟨G, 0, none⟩) f.1.length gcap] (farS f o d k x (y + 1)) by rw [HST2.out, if_neg (by decide)]; exact HQ5.out)
                            clear HQ5
                            go_wp2
                            go_roundw
                            case rel => exact ⟨y + 1, by omega, by go_num, HN, hb5G, l5⟩
                            case measure => simp [intOf]; omega
                          · obtain ⟨u', -, u0, -, -, uf, -⟩ := HQ5.out.int_at0 (i := x) hxn
                            have HN := Lib.hid (show Ow G (G + 1) (w5.setCell ⟨G, x, none⟩ (.int .i64 d)) [.slice (some ⟨G, 0, none⟩) f.1.length gcap] (farS f o d k x (y + 1)) by
                              rw [HST2.out, if_pos (by decide)]; exact HQ5.out.int_set0 hxn ⟨by omega, by omega⟩)
                            have hb6 : Below G wG (w5.setCell ⟨G, x, none⟩ (.int .i64 d)) := by exact bwT
                            have l6 : G < (w5.setCell ⟨G, x, none⟩ (.int .i64 d)).heap.size := by simp; exact l5
                            clear HQ5
                            go_wp2
                            go_roundw
                            case rel => exact ⟨y + 1, by omega, by go_num, HN, hb6, l6⟩
                            case measure => simp [intOf]; omega
                        · have HN := Lib.hid (show Ow G (G + 1) wq [.slice (some ⟨G, 0, none⟩) f.1.length gcap] (farS f o d k x (y + 1)) by
                            rw [HST.out false _ (by rw [decide_eq_false ht0, Bool.and_false]) rfl, Bool.false_and, if_neg (by decide)]
                            exact HQ.out)
                          have e1 : (t == d - 1) = false := by simpa using ht0
                          clear HST HQ ht0
                          go_wp2
                          go_roundw
                          case rel => exact ⟨y + 1, by omega, by go_num, HN, hbq, lq⟩
                          case measure => simp [intOf]; omega
                      · have HN := Lib.hid (show Ow G (G + 1) wq [.slice (some ⟨G, 0, none⟩) f.1.length gcap] (farS f o d k x (y + 1)) by
                          rw [HST.out false _ (by rw [decide_eq_false hu0, Bool.false_and]) rfl, Bool.false_and, if_neg (by decide)]
                          exact HQ.out)
                        clear HST HQ
                        go_wp2
                        go_roundw
                        case rel => exact ⟨y + 1, by omega, by go_num, HN, hbq, lq⟩
                        case measure => simp [intOf]; omega
                    · obtain rfl : y = f.1.length := by omega
                      have hyI : ¬ (f.1.length : Int) < (f.1.length : Int) := by omega
                      have HN := Lib.hid (show Ow G (G + 1) wq [.slice (some ⟨G, 0, none⟩) f.1.length gcap] (farS f o d k (x + 1) 0) by rw [← farS_x]; exact HQ.out)
                      clear HQ
                      go_wp2
                      go_roundw
                      case rel => exact ⟨x + 1, by omega, by go_num, HN, hbq, lq⟩
                      case measure => simp [intOf]; omega
                · obtain rfl : x = f.1.length := by omega
                  have hxI : ¬ (f.1.length : Int) < (f.1.length : Int) := by omega
                  have HN := Lib.hid (show Ow G (G + 1) wp [.slice (some ⟨G, 0, none⟩) f.1.length gcap] (farS f o d (kk + 1 - 1) 0 0) by
                    rw [Nat.add_sub_cancel, HKK.out, ← farS_k HOL.out]; exact HP.out)
                  clear HP
                  go_wp2
                  go_roundw
                  case rel => exact ⟨kk + 1, by omega, by omega, by go_num, HN, hbp, lp⟩
                  case measure => simp [intOf]; omega
            · obtain rfl : kk = 9 := by omega
              have HN := Lib.hid (show Ow G (G + 1) wk [.slice (some ⟨G, 0, none⟩) f.1.length gcap] (fars f j (m + 1)) by
                rw [← HNX.out, ← farS_end]; exact HK.out)
              clear HK
              go_wp2
              go_roundw
              case rel => exact ⟨m + 1, d + 1, by omega, by go_num, by have := HD.out; omega, HN, hbk, lk⟩
              case measure => simp [intOf]; omega
        · obtain rfl : m = 8 := by omega
          obtain rfl : d = 9 := by omega
          have HW := Lib.hid (show Ow w.heap.size wd.heap.size wd [.slice (some ⟨G, 0, none⟩) f.1.length gcap] (fars f j 8) from HO.out.mono (by omega) (by omega))
          have hBd := HBP.out _ hbd
          clear HO hd
          go_wp2
          go_ret
          exact ⟨_, rfl, HW.out, hBd⟩
end Go.Proofs.YtcbhdmmohdnjbaaGreat
