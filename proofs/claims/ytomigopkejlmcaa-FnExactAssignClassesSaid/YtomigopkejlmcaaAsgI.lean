/- Contract of AssignClasses (impl). -/
import Derived.Test.YtomigopkejlmcaaSprI
import Derived.Test.YtomigopkejlmcaaAsgS
import Derived.Test.YtomigopkejlmcaaGivI
namespace Go.Proofs.Ytomigopkejlmcaa
set_option linter.unusedVariables false
set_option linter.unusedSimpArgs false
open Go.RowKit

set_option maxRecDepth 20000 in
set_option maxHeartbeats 16000000 in
theorem assignI_any {z z1 z' : Bool} {lo hi lo1 hi1 lo' hi' : Nat} (w : World) (v v2 u1 u2 v3 : Value) (f : Fam) (c : Cls) (g : List Int) (h : Rd z lo hi w [v, v2] f) (hc : Rd z1 lo1 hi1 w [u1, u2] c) (h' : Rd z' lo' hi' w [v3] g) (hlc : c.1.length ≤ 1048576) (X : List Int) (V : Bool) (hXV : AsgAns f c g X V) :
    Calls Try.prog 52 #[.agg #[v, v2], .agg #[u1, u2], v3] w (PostOwB w X V) := by
  obtain ⟨ha, hb⟩ := h.fam
  obtain ⟨hw, hq⟩ := hc.two rfl
  obtain ⟨ao, n, cap, rfl, hn, hnc, hcm, hnone⟩ := ha.shape
  obtain ⟨ao2, n2, cap2, rfl, hn2, hnc2, hcm2, hnone2⟩ := hb.shape
  subst hn hn2
  obtain ⟨bo, n3, dap, rfl, hn3, hnc3, hcm3, hnone3⟩ := hw.shape
  obtain ⟨bo2, n4, dap2, rfl, hn4, hnc4, hcm4, hnone4⟩ := hq.shape
  obtain ⟨go, n5, gap, rfl, hn5, hnc5, hcm5, hnone5⟩ := h'.shape
  subst hn3 hn4 hn5
  unfold maxLen at *
  obtain ⟨r1, hlet_r1⟩ : ∃ r, r = givenB f c g (-1) := ⟨_, rfl⟩
  have H1 := Lib.hid hlet_r1
  clear hlet_r1
  have HQ := Lib.hid (show if r1 = true then AsgRes f c g X V else (X = [] ∧ V = false) by rw [H1.out]; exact hXV)
  clear hXV hnone hnone2 hnone3 hnone4 hnone5 ha hb hw hq
  go_enter Try.func52, Try.ntmps52
  go_wp2_with fail
  refine (givenI_b _ _ _ _ _ _ f c g (h.below (by repeat' (first | (with_reducible exact Below.refl _ _) | (with_reducible assumption) | (with_reducible refine Below.alloc ?_ (by first | omega | (simp; omega) | simp) _) | (with_reducible refine Below.setCell ?_ (by first | omega | (simp; omega) | simp) _) | (with_reducible refine Below.drew ?_) | (with_reducible refine below_drewN ?_ _)))) (hc.below (by repeat' (first | (with_reducible exact Below.refl _ _) | (with_reducible assumption) | (with_reducible refine Below.alloc ?_ (by first | omega | (simp; omega) | simp) _) | (with_reducible refine Below.setCell ?_ (by first | omega | (simp; omega) | simp) _) | (with_reducible refine Below.drew ?_) | (with_reducible refine below_drewN ?_ _)))) (h'.below (by repeat' (first | (with_reducible exact Below.refl _ _) | (with_reducible assumption) | (with_reducible refine Below.alloc ?_ (by first | omega | (simp; omega) | simp) _) | (with_reducible refine Below.setCell ?_ (by first | omega | (simp; omega) | simp) _) | (with_reducible refine Below.drew ?_) | (with_reducible refine below_drewN ?_ _)))) hlc (-1) (by decide) (by decide) r1 H1.out).mono ?_
  rintro e1 w1 ⟨rfl, hbw1⟩
  have hpw1 : Below w.heap.size w w1 := Below.after (by repeat' (first | (with_reducible exact Below.refl _ _) | (with_reducible assumption) | (with_reducible refine Below.alloc ?_ (by first | omega | (simp; omega) | simp) _) | (with_reducible refine Below.setCell ?_ (by first | omega | (simp; omega) | simp) _) | (with_reducible refine Below.drew ?_) | (with_reducible refine below_drewN ?_ _))) hbw1 (by first | omega | (simp only [World.size_alloc, World.size_setCell, World.size_drew] at *; omega) | (simp; omega) | simp)
  have sw1 := hpw1.size
  have hBw1 : Below w.heap.size w w1 := hpw1
  have l_f : w.heap.size < w1.heap.size := by have := hbw1.size; simp at this; omega
  have q_f0 : w1.cell? ⟨w.heap.size, 0, none⟩ = some (.slice ao f.1.length cap) := oldc hbw1 (by first | omega | (simp; omega) | (simp; done)) (by simp [go_sem])
  have q_f1 : w1.cell? ⟨w.heap.size, 1, none⟩ = some (.slice ao2 f.2.length cap2) := oldc hbw1 (by first | omega | (simp; omega) | (simp; done)) (by simp [go_sem])
  have l_c : w.heap.size + 1 < w1.heap.size := by have := hbw1.size; simp at this; omega
  have q_c0 : w1.cell? ⟨w.heap.size + 1, 0, none⟩ = some (.slice bo c.1.length dap) := oldc hbw1 (by first | omega | (simp; omega) | (simp; done)) (by simp [go_sem])
  have q_c1 : w1.cell? ⟨w.heap.size + 1, 1, none⟩ = some (.slice bo2 c.2.length dap2) := oldc hbw1 (by first | omega | (simp; omega) | (simp; done)) (by simp [go_sem])
  clear hbw1 hpw1
  cases r1
  · obtain ⟨rfl, rfl⟩ : X = [] ∧ V = false := by simpa using HQ.out
    clear h hc h' HQ
    go_wp2
    exact bodyPost_ret (v := .tuple #[.slice none 0 0, .bool false]) (by simp [results, go_sem]) rfl ⟨_, rfl, Ow.nil _ _ _, (by repeat' (first | (with_reducible exact Below.refl _ _) | (with_reducible assumption) | (with_reducible refine Below.alloc ?_ (by first | omega | (simp; omega) | simp) _) | (with_reducible refine Below.setCell ?_ (by first | omega | (simp; omega) | simp) _) | (with_reducible refine Below.drew ?_) | (with_reducible refine below_drewN ?_ _)))⟩
  have HR := Lib.hid (show AsgRes f c g X V by simpa using HQ.out)
  obtain ⟨hfam, hcls, hgl, -⟩ := givenB_facts H1.out.symm
  obtain ⟨h40, h60, -, -⟩ := famB_facts hfam
  obtain ⟨c0, c8, -, -, -⟩ := isCls_facts hcls
  have HE := Lib.hid (edOk hfam hcls)
  have HRG := Lib.hid (given_rng H1.out.symm)
  have HFAM := Lib.hid hfam
  have HCLS := Lib.hid hcls
  clear HQ hfam hcls hgl
  go_wp2_with fail
  refine (tiesOfI_any _ _ _ _ _ f c (h.below (by repeat' (first | (with_reducible exact Below.refl _ _) | (with_reducible assumption) | (with_reducible refine Below.alloc ?_ (by first | omega | (simp; omega) | simp) _) | (with_reducible refine Below.setCell ?_ (by first | omega | (simp; omega) | simp) _) | (with_reducible refine Below.drew ?_) | (with_reducible refine below_drewN ?_ _)))) (hc.below (by repeat' (first | (with_reducible exact Below.refl _ _) | (with_reducible assumption) | (with_reducible refine Below.alloc ?_ (by first | omega | (simp; omega) | simp) _) | (with_reducible refine Below.setCell ?_ (by first | omega | (simp; omega) | simp) _) | (with_reducible refine Below.drew ?_) | (with_reducible refine below_drewN ?_ _)))) HFAM.out HCLS.out).mono ?_
  rintro e2 w2 ⟨ut, rfl, hut, hbw2⟩
  have hpw2 : Below w1.heap.size w1 w2 := Below.after (by repeat' (first | (with_reducible exact Below.refl _ _) | (with_reducible assumption) | (with_reducible refine Below.alloc ?_ (by first | omega | (simp; omega) | simp) _) | (with_reducible refine Below.setCell ?_ (by first | omega | (simp; omega) | simp) _) | (with_reducible refine Below.drew ?_) | (with_reducible refine below_drewN ?_ _))) hbw2 (by first | omega | (simp only [World.size_alloc, World.size_setCell, World.size_drew] at *; omega) | (simp; omega) | simp)
  have sw2 := hpw2.size
  have hBw2 : Below w.heap.size w w2 := Below.trans hBw1 (Below.mono hpw2 hBw1.size)
  have q_f0 := oldc hpw2 l_f q_f0
  have q_f1 := oldc hpw2 l_f q_f1
  have q_c0 := oldc hpw2 l_c q_c0
  have q_c1 := oldc hpw2 l_c q_c1
  have l_c := Nat.lt_of_lt_of_le l_c sw2
  have l_f := Nat.lt_of_lt_of_le l_f sw2
  clear hbw2 hpw2
  obtain ⟨Wa, hWa⟩ : ∃ W : World, W = w2 := ⟨_, rfl⟩
  subst hWa
  have hBa : Below w.heap.size w Wa := hBw2
  have sa := hBa.size
  go_wp2_with (at_make; refine wpList_mk (α := Int) rfl rfl slInt (y0 := 0) (fun _ => ⟨rfl, by unfold I64; omega, rfl⟩) rfl rfl rfl rfl (by omega) (by unfold maxLen; omega) ?_; intro wA how hbA hlt1)
  have qa_c0 := oldc hbA l_c q_c0
  have la_c : w.heap.size + 1 < wA.heap.size := Nat.lt_of_lt_of_le l_c hbA.size
  have hBA : Below w.heap.size w wA := hBa.trans (hbA.mono sa)
  have sA := hBA.size
  have sAa := hbA.size
  have hut0 := Lib.hid hut
  have hg0 := Lib.hid h'
  have hz1 := inz1 Wa.heap.size
  have how0 := Lib.hid (show Ow Wa.heap.size (Wa.heap.size + 1) wA [.slice (some ⟨Wa.heap.size, 0, none⟩) f.1.length f.1.length] (List.replicate 0 (-1) ++ List.replicate (f.1.length - 0) 0) from how)
  clear how q_f0 q_f1 q_c0 q_c1 hut h hc h'
  go_loopw [10, 30] (fun _ s30 wr => ∃ k : Nat, k ≤ f.1.length ∧ s30 = .int .i64 k ∧ Hid (Ow Wa.heap.size (Wa.heap.size + 1) wr [.slice (some ⟨Wa.heap.size, 0, none⟩) f.1.length f.1.length] (List.replicate k (-1 : Int) ++ List.replicate (f.1.length - k) 0)) ∧ OffF [Wa.heap.size] wA wr) (fun _ s30 _ => f.1.length - (intOf s30).toNat)
  case atStart => exact ⟨0, Nat.zero_le _, rfl, how0, OffF.refl _ _⟩
  case round =>
    clear how0
    obtain ⟨wb, hwb⟩ : ∃ wm : World, wm = wr := ⟨_, rfl⟩
    subst hwb
    obtain ⟨k, hk, rfl, hM, hoff⟩ := hrel
    by_cases hlt : k < f.1.length
    · have hI : (k : Int) < (f.1.length : Int) := by omega
      obtain ⟨x, hx, hcx, hx1, hx2, hfx, -⟩ := hM.out.int_at0 (i := k) hlt
      have hset := hM.out.int_set0 (i := k) hlt (y := -1) ⟨by omega, by omega⟩
      rw [rep_set_snoc hlt] at hset
      have HS := Lib.hid hset
      clear hset hM hx
      go_wp2
      go_roundw
      case rel => exact ⟨k + 1, by omega, by go_num, HS, hoff.setCell (by simp) _⟩
      case measure => simp [intOf]; omega
    · obtain rfl : k = f.1.length := by omega
      have nI : ¬ (f.1.length : Int) < (f.1.length : Int) := by omega
      have so := hoff.size
      have hm0 := Lib.hid (show Ow Wa.heap.size wb.heap.size wb [.slice (some ⟨Wa.heap.size, 0, none⟩) f.1.length f.1.length] (List.replicate f.1.length (-1 : Int)) by have := hM.out.mono (Nat.le_refl _) (show Wa.heap.size + 1 ≤ wb.heap.size by omega); simpa using this)
      have hbb0 : Below Wa.heap.size Wa wb := hbA.trans (hoff.toBelow hbA.size (fun b hb => by simp at hb; omega))
      have HO0 := Lib.hid (AOut.start (f := f) (c := c) (g := g) (fun a b π he => HE.out.inn _ (mem_edges.2 he)))
      have HIN := Lib.hid (show ∀ a b π, IsEd f c a b π → a < f.1.length from fun a b π he => (HE.out.inn _ (mem_edges.2 he)).1)
      have qb_c0 := offc hoff hz1 (.inl (by omega)) la_c qa_c0
      have lb_c : w.heap.size + 1 < Wa.heap.size := l_c
      have qW_c0 : Wa.cell? ⟨w.heap.size + 1, 0, none⟩ = some (.slice bo c.1.length dap) := by
        have := (hbb0.cell (p := ⟨w.heap.size + 1, 0, none⟩) lb_c).symm.trans qb_c0
        exact this
      clear hM hoff qb_c0 qa_c0
      go_wp2
      go_loopw [9, 11, 39] (fun s9 _ s39 wr => ∃ (i : Nat) (o : List Int) (am : Option Addr) (cm : Nat), i ≤ f.1.length ∧ s39 = .int .i64 i ∧ s9 = .slice am f.1.length cm ∧ Hid (Ow Wa.heap.size wr.heap.size wr [.slice am f.1.length cm] o) ∧ Hid (AOut f c g i o) ∧ Below Wa.heap.size Wa wr) (fun _ _ s39 _ => f.1.length - (intOf s39).toNat)
      case atStart => exact ⟨0, _, _, _, Nat.zero_le _, rfl, rfl, hm0, HO0, hbb0⟩
      case round =>
        clear hm0 HO0 hbb0 so sA sAa hBA la_c hbA hlt1
        obtain ⟨wc, hwc⟩ : ∃ wm : World, wm = wr := ⟨_, rfl⟩
        subst hwc
        obtain ⟨i, o, am, cm, hi1, rfl, rfl, hM, HO, hbb⟩ := hrel
        have sR := hbb.size
        have q_c0 := oldc hbb lb_c qW_c0
        have l_c := Nat.lt_of_lt_of_le lb_c sR
        by_cases hli : i < f.1.length
        · have hI : (i : Int) < (f.1.length : Int) := by omega
          obtain ⟨b0, off, x0, rfl, hx, hcx, hx1, hx2, -, -, hbl, -⟩ := hM.out.rd.int_at (i := i) hli
          have HMX := Lib.hid (show mrk o i = x0 from getI_at hx.out)
          by_cases h0 : 0 ≤ x0
          · have HN := Lib.hid (HO.out.skip hli (by rw [HMX.out]; exact h0))
            clear hx HMX HO
            go_wp2
            go_roundw
            case rel => exact ⟨i + 1, o, _, cm, by omega, by go_num, rfl, hM, HN, hbb⟩
            case measure => simp [intOf]; omega
          have HNM := Lib.hid (show mrk o i < 0 by rw [HMX.out]; omega)
          have HF0 := Lib.hid (show ∀ y : Int, 0 ≤ y → y < ((0 : Nat) : Int) → ¬ ∃ k, AVal f c g k ∧ Agr f.1.length k (o.set i y) from fun y h1 h2 => by omega)
          clear hx HMX
          go_wp2
          go_loopw [9, 12, 13, 14, 15, 50] (fun s9 s12 _ _ _ s50 wr => ∃ (x : Nat), x ≤ c.1.length ∧ s50 = .int .i64 x ∧ s12 = .bool false ∧ s9 = .slice (some ⟨b0, off, none⟩) f.1.length cm ∧ Hid (Ow Wa.heap.size wr.heap.size wr [.slice (some ⟨b0, off, none⟩) f.1.length cm] o) ∧ Hid (∀ y : Int, 0 ≤ y → y < (x : Int) → ¬ ∃ k, AVal f c g k ∧ Agr f.1.length k (o.set i y)) ∧ Below Wa.heap.size Wa wr) (fun _ _ _ _ _ s50 _ => c.1.length - (intOf s50).toNat)
          case atStart => exact ⟨0, Nat.zero_le _, rfl, rfl, rfl, hM, HF0, hbb⟩
          case round =>
            clear HF0 hM hbb sR q_c0 l_c hcx hx1 hx2 hbl
            obtain ⟨wd, hwd⟩ : ∃ wm : World, wm = wr := ⟨_, rfl⟩
            subst hwd
            obtain ⟨x, hx1, rfl, rfl, rfl, hM, HF, hbb⟩ := hrel
            have sR := hbb.size
            by_cases hlx : x < c.1.length
            · have hIx : (x : Int) < (c.1.length : Int) := by omega
              go_wp2_with fail
              refine (spread_any _ _ _ _ f c g o (hut0.out.below hbb) hM.out.rd (hg0.out.below (hBa.trans (hbb.mono sa))) HE.out h40 h60 c8 HRG.out.1 i hli HO.out (by have := HNM.out; omega) x hlx).mono ?_
              rintro e w6 ⟨t, o2, us, rfl, how6, hb6, HT6, HNT6⟩
              have s6 := hb6.size
              have hbb6 : Below Wa.heap.size Wa w6 := hbb.trans (hb6.mono sR)
              cases t
              · obtain ⟨rfl, hN⟩ := HNT6.out rfl
                have HN := Lib.hid hN
                have HF2 := Lib.hid (show ∀ y : Int, 0 ≤ y → y < ((x + 1 : Nat) : Int) → ¬ ∃ k, AVal f c g k ∧ Agr f.1.length k (o.set i y) from fun y h1 h2 => by
                  by_cases e : y = (x : Int)
                  · rw [e]; exact HN.out
                  · exact HF.out y h1 (by omega))
                have hM6 := Lib.hid ((hM.out.below hb6).mono (Nat.le_refl _) s6)
                clear hN HN HT6 HNT6 how6 HF hM
                go_wp2
                go_roundw
                case rel => exact ⟨x + 1, by omega, by go_num, rfl, rfl, hM6, HF2, hbb6⟩
                case measure => simp [intOf]; omega
              · obtain ⟨⟨au, cu, rfl⟩, hI1, hI2⟩ := HT6.out rfl
                have HN := Lib.hid (AOut.next HO.out hli (by have := HNM.out; omega) (by omega) HF.out hI1 hI2)
                have how := Lib.hid (how6.mono (show Wa.heap.size ≤ wd.heap.size from sR) (Nat.le_refl _))
                clear HT6 HNT6 how6 HF hM hI1 hI2
                go_wp2
                go_roundw
                case rel => exact ⟨i + 1, o2, au, cu, by omega, by go_num, rfl, how, HN, hbb6⟩
                case measure => simp [intOf]; omega
            · obtain rfl : x = c.1.length := by omega
              have nIx : ¬ (c.1.length : Int) < (c.1.length : Int) := by omega
              obtain ⟨rfl, rfl⟩ := HR.out.no (HO.out.fail hli (by have := HNM.out; omega) HF.out)
              have hBd : Below w.heap.size w wd := hBa.trans (hbb.mono sa)
              clear HR HO
              go_wp2
              exact bodyPost_ret (v := .tuple #[.slice none 0 0, .bool false]) (by simp [results, go_sem]) rfl ⟨_, rfl, Ow.nil _ _ _, (by repeat' (first | (with_reducible exact Below.refl _ _) | (with_reducible assumption) | (with_reducible refine Below.alloc ?_ (by first | omega | (simp; omega) | simp) _) | (with_reducible refine Below.setCell ?_ (by first | omega | (simp; omega) | simp) _) | (with_reducible refine Below.drew ?_) | (with_reducible refine below_drewN ?_ _)))⟩
        · obtain rfl : i = f.1.length := by omega
          have nI : ¬ (f.1.length : Int) < (f.1.length : Int) := by omega
          obtain ⟨rfl, rfl⟩ := HR.out.yes (AOut.least_of HO.out HIN.out)
          have HW := Lib.hid (hM.out.mono (show w.heap.size ≤ Wa.heap.size from sa) (Nat.le_refl _))
          have hBd : Below w.heap.size w wc := hBa.trans (hbb.mono sa)
          clear HR HO
          go_wp2
          exact bodyPost_ret (v := .tuple #[.slice am f.1.length cm, .bool true]) (by simp [results, go_sem]) rfl ⟨_, rfl, HW.out, (by repeat' (first | (with_reducible exact Below.refl _ _) | (with_reducible assumption) | (with_reducible refine Below.alloc ?_ (by first | omega | (simp; omega) | simp) _) | (with_reducible refine Below.setCell ?_ (by first | omega | (simp; omega) | simp) _) | (with_reducible refine Below.drew ?_) | (with_reducible refine below_drewN ?_ _)))⟩
end Go.Proofs.Ytomigopkejlmcaa
