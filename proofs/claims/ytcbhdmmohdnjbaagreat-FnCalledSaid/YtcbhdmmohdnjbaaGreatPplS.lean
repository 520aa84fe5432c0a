/- Contract of spec.PeopleCalled. -/
import Derived.Test.YtcbhdmmohdnjbaaGreatPpl
import Derived.Test.YtcbhdmmohdnjbaaGreatWls
import Derived.Test.YtcbhdmmohdnjbaaGreatTbtS
namespace Go.Proofs.YtcbhdmmohdnjbaaGreat
set_option linter.unusedVariables false
set_option linter.unusedSimpArgs false
open Go.RowKit
set_option maxHeartbeats 100000000
def mkL (f : Fam) (L : List Kin) (i k : Nat) : List Bool := (List.range f.1.length).map fun q => pplR f (L.take k) i q
def mkB (f : Fam) (L : List Kin) (i k b : Nat) : List Bool := (List.range f.1.length).map fun q => if q < b then pplR f (L.take (k + 1)) i q else pplR f (L.take k) i q
theorem mkL_len (f : Fam) (L : List Kin) (i k : Nat) : (mkL f L i k).length = f.1.length := by unfold mkL; simp
theorem mkB_len (f : Fam) (L : List Kin) (i k b : Nat) : (mkB f L i k b).length = f.1.length := by unfold mkB; simp
theorem mkL_zero (f : Fam) (L : List Kin) (i : Nat) : mkL f L i 0 = List.replicate f.1.length false := by
 apply List.ext_getElem?
 intro q
 unfold mkL
 by_cases h : q < f.1.length
 ·rw [List.getElem?_map, List.getElem?_range h, List.getElem?_replicate, if_pos h]; simp [pplR]
 ·rw [List.getElem?_eq_none soT, List.getElem?_eq_none soT]
theorem mkB_zero (f : Fam) (L : List Kin) (i k : Nat) : mkB f L i k 0 = mkL f L i k := by unfold mkB mkL; simp
theorem mkB_end (f : Fam) (L : List Kin) (i k : Nat) : mkB f L i k f.1.length = mkL f L i (k + 1) := by
 unfold mkB mkL
 refine List.map_congr_left fun q hq => ?_
 rw [if_pos (List.mem_range.1 hq)]
theorem mkB_at {f : Fam} {L : List Kin} {i k b q : Nat} (h : q < f.1.length) : (mkB f L i k b)[q]? = some (if q < b then pplR f (L.take (k + 1)) i q else pplR f (L.take k) i q) := by
 unfold mkB; rw [List.getElem?_map, List.getElem?_range h]; rfl
theorem mkB_succ {f : Fam} {L : List Kin} {i k b : Nat} (h : b < f.1.length) {t : Kin} (ht : L[k]? = some t) : mkB f L i k (b + 1) = (mkB f L i k b).set b (pplR f (L.take k) i b || leadsB f t.2 i b) := by
 apply List.ext_getElem?
 intro q
 by_cases hq : q < f.1.length
 ·rw [mkB_at hq, List.getElem?_set, mkB_at hq]
  by_cases e : b = q
  ·subst e
   rw [if_pos (Nat.lt_succ_self b), if_pos rfl, if_pos (by rw [mkB_len]; exact h)]
   congr 1
   rw [take_snoc ht]
   unfold pplR
   rw [List.any_append]; simp
  ·rw [if_neg e]
   by_cases h2 : q < b
   ·rw [if_pos h2, if_pos omT]
   ·rw [if_neg h2, if_neg omT]
 ·rw [List.getElem?_eq_none (by rw [mkB_len]; omega), List.getElem?_eq_none (by rw [List.length_set, mkB_len]; omega)]
theorem mkL_list (f : Fam) (L : List Kin) (i : Nat) : listTo (mkL f L i L.length) (mkL f L i L.length).length = rowTo (pplR f L) i f.1.length := by
 rw [mkL_len]
 unfold listTo rowTo
 congr 1
 refine List.filter_congr fun q hq => ?_
 unfold mkL
 rw [List.getD_eq_getElem?_getD, List.getElem?_map, List.getElem?_range (List.mem_range.1 hq), List.take_length]
 rfl
theorem hasB_one (f : Fam) (a : Int) : hasB f [a] = (famB f && inB f a) := by unfold hasB; simp
theorem calX_ks {y : Trm} {ego n : Int} {x : ByteArray} (hy : isTerm y = true) {te : Int} {tl : List Stp} (h : ((te, tl) : Kin) ∈ calX y ego n x) : te = ego ∧ (∀ s ∈ tl, (1 ≤ s.1 ∧ s.1 ≤ 8) ∧ s.2 = 0) ∧ ¬ te = 0 := by
 rw [calX_eq hy] at h
 have h2 := typesX_ks (List.mem_filter.1 h).1
 exact ⟨h2.1, h2.2.1, h2.2.2.1⟩
theorem inzG (g : Nat) : InZ g (g + 1) [g] := fun b hb => by rw [List.mem_singleton] at hb; omega
set_option maxRecDepth 20000 in
theorem pplS_any {z z1 : Bool} {lo hi lo1 hi1 : Nat} (w : World) (v v2 y1 y2 : Value) (f : Fam) (y : Trm) (h : Rd z lo hi w [v, v2] f) (h' : Rd z1 lo1 hi1 w [y1, y2] y) (a : Int) (ba : I64 a) (xt : ByteArray) (n : Int) :
  Calls Tryz.prog 22 #[.agg #[v, v2], .agg #[y1, y2], .int .i64 a, .string xt, .int .i64 n] w (PostOw w (pplX f y a xt n)) := by
 obtain ⟨ao, an, cap, rfl, hn, -⟩ := h.fam.1.shape
 subst hn
 obtain ⟨bo, bn, dap, rfl, hn2, -⟩ := h.fam.2.shape
 subst hn2
 obtain ⟨rs, es⟩ := y
 obtain ⟨hy1, hy2⟩ := h'.two rfl
 dsimp only at hy1 hy2
 obtain ⟨ra, rn, rcap, rfl, -⟩ := hy1.shape
 obtain ⟨ea, en, ecap, rfl, -⟩ := hy2.shape
 have HH := Hd h
 have HY := Hd h'
 obtain ⟨r1, hlet_r1⟩ : ∃ r, r = (famB f && inB f a) := ⟨_, rfl⟩
 have H1 := Hd hlet_r1
 clear hlet_r1
 obtain ⟨r2, hlet_r2⟩ : ∃ r, r = isTerm (rs, es) := ⟨_, rfl⟩
 have H2 := Hd hlet_r2
 clear hlet_r2
 obtain ⟨X, hX⟩ : ∃ X, X = pplX f (rs, es) a xt n := ⟨_, rfl⟩
 rw [← hX]
 have HX := Hd hX
 have HE := Hd (show (isTerm (rs, es) && hasB f [a]) = (r2 && r1) by rw [H1.out, H2.out, hasB_one])
 clear h h' hy1 hy2 hX
 go_enter Tryz.func22, Tryz.ntmps22
 go_wp2_with fail
 refine (isTermS_b _ _ _ rs es (HY.out.below bwT) r2 H2.out).mono ?_
 rintro e1 w1 ⟨rfl, hbw1⟩
 have hpw1 : Below w.heap.size w w1 := Below.after bwT hbw1 szT
 have sw1 := hpw1.size
 have hBw1 : Below w.heap.size w w1 := hpw1
 have l_f : w.heap.size < w1.heap.size := by have := hbw1.size; simp at this; omega
 have q_f0 : w1.cell? ⟨w.heap.size, 0, none⟩ = some (.slice ao f.1.length cap) := oldc hbw1 ltT sgT
 have q_f1 : w1.cell? ⟨w.heap.size, 1, none⟩ = some (.slice bo f.2.length dap) := oldc hbw1 ltT sgT
 have l_y : w.heap.size + 1 < w1.heap.size := by have := hbw1.size; simp at this; omega
 have q_y0 : w1.cell? ⟨w.heap.size + 1, 0, none⟩ = some (.slice ra rn rcap) := oldc hbw1 ltT sgT
 have q_y1 : w1.cell? ⟨w.heap.size + 1, 1, none⟩ = some (.slice ea en ecap) := oldc hbw1 ltT sgT
 clear hbw1 hpw1
 cases r2
 ·obtain rfl : X = [] := by rw [HX.out]; exact pplX_no (by rw [HE.out, Bool.false_and])
  clear HX HE HH HY H1 H2
  go_wp2
  go_ret
  exact ⟨_, rfl, Ow.nil _ _ _, hBw1⟩
 go_wp2_with fail
 refine (l1Has_b _ _ _ f (HH.out.below bwT) a r1 H1.out).mono ?_
 rintro e2 w2 ⟨rfl, hbw2⟩
 have hpw2 : Below w1.heap.size w1 w2 := Below.after bwT hbw2 szT
 have sw2 := hpw2.size
 have hBw2 : Below w.heap.size w w2 := Below.trans hBw1 (Below.mono hpw2 hBw1.size)
 have q_f0 := oldc hpw2 l_f q_f0
 have q_f1 := oldc hpw2 l_f q_f1
 have q_y0 := oldc hpw2 l_y q_y0
 have q_y1 := oldc hpw2 l_y q_y1
 have l_f := ltL l_f sw2
 have l_y := ltL l_y sw2
 clear hbw2 hpw2
 cases r1
 ·obtain rfl : X = [] := by rw [HX.out]; exact pplX_no (by rw [HE.out, Bool.and_false])
  clear HX HE HH HY H1 H2
  go_wp2
  go_ret
  exact ⟨_, rfl, Ow.nil _ _ _, hBw2⟩
 obtain ⟨hf, i, rfl, hi⟩ := hasB1 (show hasB f [a] = true by rw [hasB_one]; exact H1.out.symm)
 have h40 := (famB_facts hf).1
 have HFB := Hd hf
 have HTY := Hd H2.out.symm
 obtain ⟨PB, PO, nm, sx, fa, mo, bo', di, e1, hXP, -, x1, -, -, -, -, -, -, -, -, -, -, -, -, pbl, -⟩ := (HH.out.below hBw2).fam.1.per_at hi
 subst e1
 have hsx : sexP f i = sx := sexP_at hXP.out
 have hiI : (i : Int) < (f.1.length : Int) := by omega
 have HXP := Hd hXP.out
 have HX2 := Hd (show X = rowTo (pplR f (calX (rs, es) sx n xt)) i f.1.length by
  rw [HX.out, pplX, if_pos (by rw [HE.out]; rfl), Int.toNat_natCast, hsx])
 clear hXP HX HE H1 H2 hf hsx
 obtain ⟨wP, hwP⟩ : ∃ W : World, W = w2 := ⟨_, rfl⟩
 subst hwP
 have hBP : Below w.heap.size w wP := hBw2
 have sP := hBP.size
 obtain ⟨G, hG⟩ : ∃ G, G = wP.heap.size := ⟨_, rfl⟩
 go_upto_region 4 with (at_make; refine wpList_mk (α := Bool) rfl rfl slBool (y0 := false) (fun _ => ⟨rfl, rfl⟩) rfl rfl rfl rfl omT mxT ?_; intro wM howM hbM hltM)
 have HM0 := Hd (show Ow G (G + 1) wM [.slice (some ⟨G, 0, none⟩) f.1.length f.1.length] (List.replicate f.1.length false) by rw [hG]; exact howM)
 have hlG : G < wM.heap.size := by rw [hG]; exact hltM
 have hBM : Below w.heap.size w wM := hBP.trans (hbM.mono sP)
 have c_f0 := oldc hbM l_f q_f0
 have c_f1 := oldc hbM l_f q_f1
 have c_y0 := oldc hbM l_y q_y0
 have c_y1 := oldc hbM l_y q_y1
 have c_x1 := oldc hbM pbl x1
 have lfG : w.heap.size < G := by rw [hG]; exact l_f
 have lyG : w.heap.size + 1 < G := by rw [hG]; exact l_y
 have lpG : PB < G := by rw [hG]; exact pbl
 have sG : w.heap.size ≤ G := by omega
 try rw [← hG]
 have lfM : w.heap.size < wM.heap.size := by omega
 have lyM : w.heap.size + 1 < wM.heap.size := by omega
 have lpM : PB < wM.heap.size := by omega
 clear howM hltM hbM hG q_f0 q_f1 q_y0 q_y1 x1 l_f l_y pbl hBP sP
 go_upto_region 4 with fail
 refine wp_region_held_drew (S := (fun w' => w'.cell? ⟨w.heap.size, 0, none⟩ = some (.slice (some ⟨PB, PO, none⟩) f.1.length cap) ∧ w'.cell? ⟨w.heap.size + 1, 0, none⟩ = some (.slice ra rn rcap) ∧ w'.cell? ⟨w.heap.size + 1, 1, none⟩ = some (.slice ea en ecap) ∧ w'.cell? ⟨PB, PO + i * 6 + 1, none⟩ = some (.int .i64 sx))) krT ?_ (fun hHeld => ?_)
 ·exact kpT
 refine tkA 0 ?_
 try simp only [cD]
 refine tkA 1 ?_
 try simp only [cD]
 refine tkA 3 ?_
 try simp only [cD]
 refine tkA 7 ?_
 try simp only [cD]
 refine tkA 8 ?_
 try simp only [cD]
 refine tkA 11 ?_
 try simp only [cD]
 refine tkA 2 ?_
 try simp only [cD]
 refine tkA 4 ?_
 try simp only [cD]
 refine tkA 5 ?_
 try simp only [cD]
 refine tkA 6 ?_
 try simp only [cD]
 refine rd1 9 fun K hK => ?_
 go_simp
 refine (typesCalledS_any _ _ _ (rs, es) ((HY.out.below hBM).below ?b1) sx n xt).mono ?_
 case b1 => exact bwT
 rintro e5 w5 ⟨ut, rfl, ho, hb5⟩
 have hp5 : Below wM.heap.size wM w5 := Below.trans (show Below wM.heap.size wM _ from bwT) (hb5.mono szT)
 have hS5 := aI (oldc hp5 lfM c_f0) (aI (oldc hp5 lyM c_y0) (aI (oldc hp5 lyM c_y1) (oldc hp5 lpM c_x1)))
 (try simp only [World.size_drew, World.size_alloc] at ho)
 obtain ⟨T, hT⟩ : ∃ T, T = calX (rs, es) sx n xt := ⟨_, rfl⟩
 rw [← hT] at ho
 obtain ⟨tao, tn, tcap, rfl, htn, -⟩ := ho.rd.shape
 subst htn
 have HT := Hd hT
 clear hb5 hT
 refine hK.out _ _ kpT fun hHeld => ?_
 clear hK K
 try simp only [cD]
 refine tkA 10 ?_
 try simp only [cD]
 refine wdT ?_
 have HF := Hd (show X = rowTo (pplR f T) i f.1.length by rw [HX2.out, HT.out])
 have HKS := Hd (show ∀ te tl, ((te, tl) : Kin) ∈ T → te = sx ∧ (∀ s ∈ tl, (1 ≤ s.1 ∧ s.1 ≤ 8) ∧ s.2 = 0) ∧ ¬ te = 0 from fun te tl hm => by rw [HT.out] at hm; exact calX_ks HTY.out hm)
 have hTL : T.length ≤ 600 := by rw [HT.out]; exact calX_len _ _ _ _
 have sM5 := hp5.size
 have HTK := Hd (show ∀ W : World, OffF [G] w5 W → Rd true wM.heap.size w5.heap.size W [.slice tao T.length tcap] T from fun W h => ho.rd.keep (h.zone (Nat.le_refl _) (inzG G) (.inl omT)))
 have HBK := Hd (show ∀ W : World, OffF [G] w5 W → Below G w5 W from fun W h => h.toBelow omT (fun b hb => by rw [List.mem_singleton] at hb; omega))
 have hB5 : Below w.heap.size w w5 := hBM.trans (hp5.mono omT)
 have HM1 := Hd (show Ow G (G + 1) w5 [.slice (some ⟨G, 0, none⟩) f.1.length f.1.length] (mkL f T i 0) by rw [mkL_zero]; exact HM0.out.below hp5)
 have d_f0 := oldc hp5 lfM c_f0
 have d_f1 := oldc hp5 lfM c_f1
 have lG5 : G < w5.heap.size := by omega
 clear HT HX2 HM0 ho hS5 hHeld c_f0 c_f1 c_y0 c_y1 c_x1
 go_wp2
 go_loopw [13, 14, 15, 40, 49] (fun _ _ _ s40 _ wl => ∃ k : Nat, k ≤ T.length ∧ s40 = .int .i64 k ∧ Hid (Ow G (G + 1) wl [.slice (some ⟨G, 0, none⟩) f.1.length f.1.length] (mkL f T i k)) ∧ OffF [G] w5 wl ∧ G < wl.heap.size) (fun _ _ _ s40 _ _ => T.length - (intOf s40).toNat)
 case atStart => exact ⟨0, Nat.zero_le _, rfl, HM1, OffF.refl _ _, lG5⟩
 case round =>
  clear HM1
  obtain ⟨wo, hwo⟩ : ∃ wm : World, wm = wr := ⟨_, rfl⟩
  subst hwo
  obtain ⟨k, hk, rfl, HM, hoff, lo'⟩ := hrel
  have hbo := HBK.out _ hoff
  have q_f0 := oldc hbo lfG d_f0
  have q_f1 := oldc hbo lfG d_f1
  have hBo : Below w.heap.size w wo := hB5.trans (hbo.mono sG)
  have so5 := hoff.size
  have lfo : w.heap.size < wo.heap.size := by omega
  by_cases hkl : k < T.length
  ·have hkI : (k : Int) < (T.length : Int) := by omega
   obtain ⟨tb, toff, t, tv, rfl, ht, c0, c1, -, hct, hrt, -, -, tlt⟩ := (HTK.out _ hoff).kin_at hkl
   obtain ⟨te, tl⟩ := t
   obtain ⟨sao, sn, scap, rfl, -⟩ := hct.shape
   dsimp only at c0
   obtain ⟨rfl, HKB, HK0⟩ := HKS.out te tl (List.mem_of_getElem? ht.out)
   have HRT := Hd hrt
   have HTT := Hd (show ∀ b, b < f.1.length → mkB f T i k (b + 1) = (mkB f T i k b).set b (pplR f (T.take k) i b || leadsB f tl i b) from fun b hb => mkB_succ hb ht.out)
   have hbw : Below w.heap.size w (wo.alloc (.cells #[.int .i64 te, .slice sao sn scap] 68)) := hBo.alloc omT _
   clear ht hct hrt
   go_wp2_with fail
   refine (relativesS_any _ _ _ _ f (HH.out.below hbw) HFB.out i hi te tl (HRT.out.below ?k2) HKB HK0 HXP.out rfl).mono ?_
   case k2 => exact bwT
   rintro e6 w6 ⟨u6, rfl, ho6, hb6⟩
   have s6 := hb6.size
   simp only [World.size_alloc] at s6 ho6
   have hoff6 : OffF [G] w5 w6 := (hoff.alloc _).below hb6
   have hol : (reachL f (single f.1.length i) tl).length = f.1.length := reachL_len (single_len _ _) _
   obtain ⟨ua, un, uc, rfl, hun, -⟩ := ho6.rd.shape
   rw [hol] at hun
   subst hun
   have HUK := Hd (show ∀ W : World, OffF [G] w6 W → Rd true (wo.heap.size + 1) w6.heap.size W [.slice ua f.1.length uc] (reachL f (single f.1.length i) tl) from fun W h => ho6.rd.keep (h.zone (Nat.le_refl _) (inzG G) (.inl omT)))
   have HM6 := Hd (show Ow G (G + 1) w6 [.slice (some ⟨G, 0, none⟩) f.1.length f.1.length] (mkB f T i k 0) by rw [mkB_zero]; exact (HM.out.below (show Below wo.heap.size wo (wo.alloc (.cells #[.int .i64 te, .slice sao sn scap] 68)) from bwT)).below hb6)
   have l6 : G < w6.heap.size := by omega
   clear HM hb6 ho6 hol c0 c1
   go_wp2
   go_loopw [14, 15, 49] (fun _ _ s49 wl => ∃ b : Nat, b ≤ f.1.length ∧ s49 = .int .i64 b ∧ Hid (Ow G (G + 1) wl [.slice (some ⟨G, 0, none⟩) f.1.length f.1.length] (mkB f T i k b)) ∧ OffF [G] w6 wl ∧ G < wl.heap.size) (fun _ _ s49 _ => f.1.length - (intOf s49).toNat)
   case atStart => exact ⟨0, Nat.zero_le _, rfl, HM6, OffF.refl _ _, l6⟩
   case round =>
    clear HM6
    obtain ⟨wi, hwi⟩ : ∃ wm : World, wm = wr := ⟨_, rfl⟩
    subst hwi
    obtain ⟨b, hb, rfl, HM, hoffi, li⟩ := hrel
    by_cases hbl : b < f.1.length
    ·have hbI : (b : Int) < (f.1.length : Int) := by omega
     obtain ⟨bx, ofx, x, hua, hx, x0, -⟩ := (HUK.out _ hoffi).bool_at (i := b) hbl
     subst hua
     obtain ⟨yv, hy, y0, yf, -⟩ := HM.out.bool_at0 (i := b) hbl
     have hxe : leadsB f tl i b = x := (leadsB_at hx.out).symm
     have hye : pplR f (T.take k) i b = yv := by
      have h := hy.out
      rw [mkB_at hbl, if_neg (Nat.lt_irrefl b)] at h
      exact Option.some.inj h
     have HST := Hd (show mkB f T i k (b + 1) = (mkB f T i k b).set b (yv || x) by rw [HTT.out b hbl, hxe, hye])
     clear hx hy hxe hye
     cases yv
     ·have HN := Hd (show Ow G (G + 1) (wi.setCell ⟨G, b, none⟩ (.bool x)) [.slice (some ⟨G, 0, none⟩) f.1.length f.1.length] (mkB f T i k (b + 1)) by
       rw [HST.out, Bool.false_or]; exact HM.out.bool_set0 hbl x)
      have ho2 : OffF [G] w6 (wi.setCell ⟨G, b, none⟩ (.bool x)) := hoffi.setCell spT _
      have l2 : G < (wi.setCell ⟨G, b, none⟩ (.bool x)).heap.size := by simp; exact li
      clear HM HST
      go_wp2
      go_roundw
      case rel => exact ⟨b + 1, by omega, by go_num, HN, ho2, l2⟩
      case measure => simp [intOf]; omega
     ·have HN := Hd (show Ow G (G + 1) (wi.setCell ⟨G, b, none⟩ (.bool true)) [.slice (some ⟨G, 0, none⟩) f.1.length f.1.length] (mkB f T i k (b + 1)) by
       rw [HST.out, Bool.true_or]; exact HM.out.bool_set0 hbl true)
      have ho2 : OffF [G] w6 (wi.setCell ⟨G, b, none⟩ (.bool true)) := hoffi.setCell spT _
      have l2 : G < (wi.setCell ⟨G, b, none⟩ (.bool true)).heap.size := by simp; exact li
      clear HM HST
      go_wp2
      go_roundw
      case rel => exact ⟨b + 1, by omega, by go_num, HN, ho2, l2⟩
      case measure => simp [intOf]; omega
    ·obtain rfl : b = f.1.length := by omega
     have hbI : ¬ (f.1.length : Int) < (f.1.length : Int) := by omega
     have HN := Hd (show Ow G (G + 1) wi [.slice (some ⟨G, 0, none⟩) f.1.length f.1.length] (mkL f T i (k + 1)) by rw [← mkB_end]; exact HM.out)
     have ho2 : OffF [G] w5 wi := hoff6.trans hoffi
     clear HM
     go_wp2
     go_roundw
     case rel => exact ⟨k + 1, by omega, by go_num, HN, ho2, li⟩
     case measure => simp [intOf]; omega
  ·obtain rfl : k = T.length := by omega
   have hkI : ¬ (T.length : Int) < (T.length : Int) := by omega
   obtain ⟨o, ho⟩ : ∃ o, o = mkL f T i T.length := ⟨_, rfl⟩
   have HOX := Hd (show listTo o o.length = X by rw [HF.out, ho]; exact mkL_list f T i)
   have HOL := Hd (show o.length = f.1.length by rw [ho, mkL_len])
   rw [← ho] at HM
   clear ho
   go_wp2_with fail
   refine (listedS_any _ _ o HM.out.rd (by rw [HOL.out]; exact h40)).mono ?_
   rintro e7 w7 ⟨u7, rfl, ho7, hb7⟩
   rw [HOX.out] at ho7
   obtain ⟨xa, xn, xc, rfl, -⟩ := ho7.rd.shape
   have HO7 := Hd ho7
   have hB7 : Below w.heap.size w w7 := hBo.trans (hb7.mono omT)
   clear ho7 hb7 HM
   go_wp2
   go_ret
   exact ⟨_, rfl, HO7.out.mono omT (Nat.le_refl _), hB7⟩
end Go.Proofs.YtcbhdmmohdnjbaaGreat
