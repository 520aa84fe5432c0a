/- The reference's l3Reach and l3Listed. -/
import Derived.Test.YtcbhdmmohdnjbaaGreatLdsS
import Derived.Test.YtcbhdmmohdnjbaaGreatFamM
namespace Go.Proofs.YtcbhdmmohdnjbaaGreat
set_option linter.unusedVariables false
set_option linter.unusedSimpArgs false
open Go.RowKit
set_option maxHeartbeats 100000000
set_option maxRecDepth 20000 in
theorem reachS_any {z z2 : Bool} {lo hi lo2 hi2 : Nat} (w : World) (v v2 u : Value) (f : Fam) (h : Rd z lo hi w [v, v2] f) (hf : famB f = true) (o : List Bool) (ho : Rd z2 lo2 hi2 w [u] o) (hl : o.length = f.1.length) (k g : Int) (hk : 1 ≤ k ∧ k ≤ 8) (hg : 0 ≤ g ∧ g ≤ 2) :
  Calls Tryz.prog 76 #[.agg #[v, v2], u, .agg #[.int .i64 k, .int .i64 g]] w (PostOw w (stepSet (ledB f (k, g)) f.1.length o)) := by
 obtain ⟨ao, an, cap, rfl, hn, -⟩ := h.fam.1.shape
 subst hn
 obtain ⟨bo, bn, dap, rfl, hn2, -⟩ := h.fam.2.shape
 subst hn2
 obtain ⟨oa, on, oc, rfl, hon, -⟩ := ho.shape
 rw [hl] at hon
 subst hon
 have h40 := (famB_facts hf).1
 have HH := Hd h
 have HF := Hd hf
 have HO0 := Hd ho
 have HL := Hd hl
 obtain ⟨R, hR⟩ : ∃ R, R = ledB f (k, g) := ⟨_, rfl⟩
 have HR := Hd hR
 rw [← hR]
 clear h hf ho hl hR
 go_enter Tryz.func76, Tryz.ntmps76
 go_upto_region 2 with (at_make; refine wpList_mk (α := Bool) rfl rfl slBool (y0 := false) (fun _ => ⟨rfl, rfl⟩) rfl rfl rfl rfl omT mxT ?_; intro wA how hbA hlt1)
 simp only [World.size_alloc] at how hbA hlt1
 have hbW : Below w.heap.size w wA := Below.trans (show Below w.heap.size w ((w.alloc (.cells #[.slice ao f.1.length cap, .slice bo f.2.length dap] 37)).alloc (.cells #[.int .i64 k, .int .i64 g] 126)) from bwT) (hbA.mono omT)
 have f0 : wA.cell? ⟨w.heap.size, 0, none⟩ = some (.slice ao f.1.length cap) := oldc hbA omT sgT
 have f1 : wA.cell? ⟨w.heap.size, 1, none⟩ = some (.slice bo f.2.length dap) := oldc hbA omT sgT
 have s0 : wA.cell? ⟨w.heap.size + 1, 0, none⟩ = some (.int .i64 k) := oldc hbA omT sgT
 have s1 : wA.cell? ⟨w.heap.size + 1, 1, none⟩ = some (.int .i64 g) := oldc hbA omT sgT
 obtain ⟨G, hG⟩ : ∃ G, G = w.heap.size + 1 + 1 := ⟨_, rfl⟩
 rw [← hG] at how hlt1
 have hbG : Below G wA wA := Below.refl _ _
 have lG : w.heap.size + 1 < G := by omega
 have HOA := Hd (show Ow G (G + 1) wA [.slice (some ⟨G, 0, none⟩) f.1.length f.1.length] (stepTo R f.1.length o 0) by rw [stepTo_zero]; exact how)
 try rw [← hG]
 clear how hbA hG
 go_wp2
 go_loopw [8, 9, 10, 16, 23] (fun _ _ _ s16 _ wl => ∃ p : Nat, p ≤ f.1.length ∧ s16 = .int .i64 p ∧ Hid (Ow G (G + 1) wl [.slice (some ⟨G, 0, none⟩) f.1.length f.1.length] (stepTo R f.1.length o p)) ∧ Below G wA wl ∧ G < wl.heap.size) (fun _ _ _ s16 _ _ => f.1.length - (intOf s16).toNat)
 case atStart => exact ⟨0, Nat.zero_le _, rfl, HOA, hbG, hlt1⟩
 case round =>
  clear HOA hbG hlt1
  obtain ⟨wo, hwo⟩ : ∃ y : World, y = wr := ⟨_, rfl⟩
  subst hwo
  obtain ⟨p, hp, rfl, HO, hbo, lo'⟩ := hrel
  have hBo : Below w.heap.size w wo := hbW.trans (hbo.mono omT)
  by_cases hpn : p < f.1.length
  ·have hpI : (p : Int) < (f.1.length : Int) := by omega
   obtain ⟨bx, ofx, x, hoa, hx, x0, -⟩ := (HO0.out.below hBo).bool_at (i := p) hpn
   subst hoa
   have hxg : o.getD p false = x := by rw [List.getD_eq_getElem?_getD, hx.out]; rfl
   obtain ⟨S, hS⟩ : ∃ S, S = stepTo R f.1.length o p := ⟨_, rfl⟩
   have HSN := Hd (show stepTo R f.1.length o (p + 1) = if x = true then markL S (rowTo R p f.1.length) else S by
    cases x
    ·rw [if_neg (by decide), hS]; exact stepTo_off hxg
    ·rw [if_pos rfl, hS]; exact (stepTo_on hxg).symm)
   have HSL := Hd (show S.length = f.1.length by rw [hS, stepTo_len])
   rw [← hS] at HO
   clear hS hxg hx
   go_wp2
   go_loopw [10, 23] (fun _ s23 wl => ∃ j : Nat, j ≤ f.1.length ∧ s23 = .int .i64 j ∧ Hid (Ow G (G + 1) wl [.slice (some ⟨G, 0, none⟩) f.1.length f.1.length] (if x = true then markL S (rowTo R p j) else S)) ∧ Below G wA wl ∧ G < wl.heap.size) (fun _ s23 _ => f.1.length - (intOf s23).toNat)
   case atStart => exact ⟨0, Nat.zero_le _, rfl, Hd (by
    have e : rowTo R p 0 = [] := rfl
    rw [e, markL_nil]; cases x <;> exact HO.out), hbo, lo'⟩
   case round =>
    clear HO
    obtain ⟨wi, hwi⟩ : ∃ y : World, y = wr := ⟨_, rfl⟩
    subst hwi
    obtain ⟨j, hj, rfl, HI, hbi, li⟩ := hrel
    have q0 := oldc hbi omT f0
    have q1 := oldc hbi omT f1
    have q2 := oldc hbi omT s0
    have q3 := oldc hbi omT s1
    have hBi : Below w.heap.size w wi := hbW.trans (hbi.mono omT)
    by_cases hjl : j < f.1.length
    ·have hjI : (j : Int) < (f.1.length : Int) := by omega
     cases x
     ·have HI2 := Hd (show Ow G (G + 1) wi [.slice (some ⟨G, 0, none⟩) f.1.length f.1.length] (if false = true then markL S (rowTo R p (j + 1)) else S) from HI.out)
      clear HI
      go_wp2
      go_roundw
      case rel => exact ⟨j + 1, by omega, by go_num, HI2, hbi, li⟩
      case measure => simp [intOf]; omega
     ·obtain ⟨c, hc⟩ : ∃ c, c = R p j := ⟨_, rfl⟩
      have HC := Hd (show c = ledB f (k, g) p j by rw [hc, HR.out])
      have HCR := Hd hc.symm
      clear hc
      go_wp2_with fail
      refine (leadsS_b _ _ _ f (HH.out.below hBi) HF.out k g hk hg p j hpn hjl c HC.out).mono ?_
      rintro e5 w5 ⟨rfl, hb5⟩
      have HI5 := Hd (HI.out.below hb5)
      have hb5G : Below G wA w5 := hbi.trans (hb5.mono omT)
      have l5 : G < w5.heap.size := ltL li hb5.size
      clear HI hb5
      cases c
      ·have HI2 := Hd (show Ow G (G + 1) w5 [.slice (some ⟨G, 0, none⟩) f.1.length f.1.length] (if true = true then markL S (rowTo R p (j + 1)) else S) by rw [rowTo_out HCR.out]; exact HI5.out)
       clear HI5
       go_wp2
       go_roundw
       case rel => exact ⟨j + 1, by omega, by go_num, HI2, hb5G, l5⟩
       case measure => simp [intOf]; omega
      ·obtain ⟨y, -, y0, yf, -⟩ := HI5.out.bool_at0 (i := j) hjl
       have HI2 := Hd (show Ow G (G + 1) (w5.setCell ⟨G, j, none⟩ (.bool true)) [.slice (some ⟨G, 0, none⟩) f.1.length f.1.length] (if true = true then markL S (rowTo R p (j + 1)) else S) by
        rw [rowTo_in HCR.out, if_pos rfl, ← markL_snoc S (rowTo R p j) (by rw [HSL.out]; exact hjl)]
        exact HI5.out.bool_set0 hjl true)
       have hb6 : Below G wA (w5.setCell ⟨G, j, none⟩ (.bool true)) := by exact bwT
       have l6 : G < (w5.setCell ⟨G, j, none⟩ (.bool true)).heap.size := by simp; exact l5
       clear HI5
       go_wp2
       go_roundw
       case rel => exact ⟨j + 1, by omega, by go_num, HI2, hb6, l6⟩
       case measure => simp [intOf]; omega
    ·obtain rfl : j = f.1.length := by omega
     have hjI : ¬ (f.1.length : Int) < (f.1.length : Int) := by omega
     have HO2 := Hd (show Ow G (G + 1) wi [.slice (some ⟨G, 0, none⟩) f.1.length f.1.length] (stepTo R f.1.length o (p + 1)) by rw [HSN.out]; exact HI.out)
     clear HI
     go_wp2
     go_roundw
     case rel => exact ⟨p + 1, by omega, by go_num, HO2, hbi, li⟩
     case measure => simp [intOf]; omega
  ·obtain rfl : p = f.1.length := by omega
   have hpI : ¬ (f.1.length : Int) < (f.1.length : Int) := by omega
   have HO2 := Hd (show Ow w.heap.size wo.heap.size wo [.slice (some ⟨G, 0, none⟩) f.1.length f.1.length] (stepSet R f.1.length o) from HO.out.mono omT omT)
   clear HO
   go_wp2
   go_ret
   exact ⟨_, rfl, HO2.out, hBo⟩
def listTo (o : List Bool) (k : Nat) : List Int := ((List.range k).filter fun i => o.getD i false).map fun (i : Nat) => (i : Int)
theorem listTo_in {o : List Bool} {k : Nat} (h : o.getD k false = true) : listTo o (k + 1) = listTo o k ++ [(k : Int)] := by
 unfold listTo; rw [List.range_succ, List.filter_append, List.map_append, List.filter_cons, if_pos h]; rfl
theorem listTo_out {o : List Bool} {k : Nat} (h : o.getD k false = false) : listTo o (k + 1) = listTo o k := by
 unfold listTo; rw [List.range_succ, List.filter_append, List.map_append, List.filter_cons, if_neg (by rw [h]; decide)]; simp
theorem listTo_len (o : List Bool) (k : Nat) : (listTo o k).length ≤ k := by
 unfold listTo; rw [List.length_map]; exact Nat.le_trans (List.length_filter_le _ _) spT
set_option maxRecDepth 20000 in
theorem listedS_any {z : Bool} {lo hi : Nat} (w : World) (u : Value) (o : List Bool) (h : Rd z lo hi w [u] o) (h40 : o.length ≤ 40) :
  Calls Tryz.prog 63 #[u] w (PostOw w (listTo o o.length)) := by
 obtain ⟨oa, on, oc, rfl, hon, -⟩ := h.shape
 subst hon
 have HH := Hd h
 clear h
 go_enter Tryz.func63, Tryz.ntmps63
 go_wp2
 go_loopw [3, 4, 5, 9] (fun s3 _ _ s9 wl => ∃ k : Nat, k ≤ o.length ∧ s9 = .int .i64 k ∧ Hid (GL (α := Int) true w.heap.size w.heap.size wl.heap.size wl 3 s3 (listTo o k)) ∧ Below w.heap.size w wl) (fun _ _ _ s9 _ => o.length - (intOf s9).toNat)
 case atStart => exact ⟨0, Nat.zero_le _, rfl, Hd ((GL.lit0 true _ _ w _ (Nat.le_refl _)).top), bwT⟩
 case round =>
  obtain ⟨wo, hwo⟩ : ∃ y : World, y = wr := ⟨_, rfl⟩
  subst hwo
  obtain ⟨k, hk, rfl, HG, hbo⟩ := hrel
  have so := hbo.size
  have hlen := listTo_len o k
  by_cases hkl : k < o.length
  ·have hkI : (k : Int) < (o.length : Int) := by omega
   obtain ⟨bx, ofx, x, hoa, hx, x0, -⟩ := (HH.out.below hbo).bool_at (i := k) hkl
   subst hoa
   have hxg : o.getD k false = x := by rw [List.getD_eq_getElem?_getD, hx.out]; rfl
   obtain ⟨P, hP⟩ : ∃ P, P = listTo o k := ⟨_, rfl⟩
   rw [← hP] at HG hlen
   cases x
   ·have HG2 := Hd (show GL (α := Int) true w.heap.size w.heap.size wo.heap.size wo 3 _ (listTo o (k + 1)) by rw [listTo_out hxg, ← hP]; exact HG.out)
    clear HG hP hxg hx
    go_wp2
    go_roundw
    case rel => exact ⟨k + 1, by omega, by go_num, HG2, hbo⟩
    case measure => simp [intOf]; omega
   ·have HS := Hd (show listTo o (k + 1) = P ++ [(k : Int)] by rw [listTo_in hxg, hP])
    have hkJ : I64 (k : Int) := by unfold I64; omega
    clear hP hxg hx
    obtain ⟨pa, pc, rfl, -, -⟩ := HG.out.len
    go_wp2_with (at_builtin; refine wpList_push rfl rfl slInt (by show (0 : Nat) < 1; omega) (HG.out.alloc _) rfl (ad := ⟨wo.heap.size, 0, none⟩) rfl (cs := [.int .i64 k]) (y := (k : Int)) (lx := wo.heap.size) (hx' := wo.heap.size) ?c1 (It.flat (z := true) (w0 := wo) (fp := []) ⟨rfl, hkJ, rfl⟩) omT (.inl szT) mxT omT ?c2 ?_)
    case c1 =>
     intro j c hj
     match j, hj with
     | 0, hj => simp at hj; subst hj; simp [Addr.add]
    case c2 => simp; omega
    intro v3 w3 hG3 _ hb3
    have HG3 := Hd (show GL (α := Int) true w.heap.size w.heap.size w3.heap.size w3 3 v3 (listTo o (k + 1)) by rw [HS.out]; exact hG3)
    have hbo3 : Below w.heap.size w w3 := hbo.trans (Below.trans (show Below w.heap.size wo _ from bwT) hb3)
    clear HG hG3 hb3
    go_wp2
    go_roundw
    case rel => exact ⟨k + 1, by omega, by go_num, HG3, hbo3⟩
    case measure => simp [intOf]; omega
  ·obtain rfl : k = o.length := by omega
   have hkI : ¬ (o.length : Int) < (o.length : Int) := by omega
   obtain ⟨P, hP⟩ : ∃ P, P = listTo o o.length := ⟨_, rfl⟩
   rw [← hP] at HG
   have HP := Hd hP
   obtain ⟨pa, pc, rfl, -, -⟩ := HG.out.len
   clear hlen hP
   go_wp2
   go_ret
   exact ⟨_, rfl, by rw [← HP.out]; exact HG.out.ow (Nat.le_refl _) (Nat.le_refl _), hbo⟩
set_option maxRecDepth 20000 in
theorem relativesS_any {z z2 : Bool} {lo hi lo2 hi2 : Nat} (w : World) (v v2 tv : Value) (f : Fam) (h : Rd z lo hi w [v, v2] f) (hf : famB f = true) (p : Nat) (hp : p < f.1.length) (e : Int) (l : List Stp) (ht : Rd z2 lo2 hi2 w [.int .i64 e, tv] ((e, l) : Kin)) (hks : ∀ s ∈ l, (1 ≤ s.1 ∧ s.1 ≤ 8) ∧ s.2 = 0) (he : ¬ e = 0) {x : Per} (hx : f.1[p]? = some x) (hxe : x.2.1 = e) :
  Calls Tryz.prog 62 #[.agg #[v, v2], .int .i64 p, .agg #[.int .i64 e, tv]] w (PostOw w (reachL f (single f.1.length p) l)) := by
 obtain ⟨ao, an, cap, rfl, hn, -⟩ := h.fam.1.shape
 subst hn
 obtain ⟨bo, bn, dap, rfl, hn2, -⟩ := h.fam.2.shape
 subst hn2
 obtain ⟨ta, tn, tc, rfl, htn, htc, htm, -⟩ := ht.kin.2.2.shape
 subst htn
 unfold maxLen at htm
 have htc' : l.length ≤ tc := htc
 have hle : l.length ≤ 9223372036854775807 := by omega
 have h40 := (famB_facts hf).1
 obtain ⟨PB, PO, nm, sx, fa, mo, bo', di, e1, hX, -, x1, -, -, -, -, -, -, -, -, -, -, -, -, pbl, -⟩ := h.fam.1.per_at hp
 subst e1
 obtain rfl := Option.some.inj (hX.out.symm.trans hx)
 have hsx : sx = e := hxe
 subst hsx
 have e0 : (sx == 0) = false := by simpa using he
 have HH := Hd h
 have HF := Hd hf
 have HTS := Hd ht.kin.2.2
 have HKS := Hd hks
 have hpI : (p : Int) < (f.1.length : Int) := by omega
 clear h hf ht hks hx hX hxe htc htc' htm he
 go_enter Tryz.func62, Tryz.ntmps62
 go_upto_region 2 with (at_make; refine wpList_mk (α := Bool) rfl rfl slBool (y0 := false) (fun _ => ⟨rfl, rfl⟩) rfl rfl rfl rfl omT mxT ?_; intro wA how hbA hlt1)
 simp only [World.size_alloc] at how hbA hlt1
 have hbW : Below w.heap.size w wA := Below.trans (show Below w.heap.size w ((w.alloc (.cells #[.slice (some ⟨PB, PO, none⟩) f.1.length cap, .slice bo f.2.length dap] 37)).alloc (.cells #[.int .i64 sx, .slice ta l.length tc] 68)) from bwT) (hbA.mono omT)
 have f0 : wA.cell? ⟨w.heap.size, 0, none⟩ = some (.slice (some ⟨PB, PO, none⟩) f.1.length cap) := oldc hbA omT sgT
 have f1 : wA.cell? ⟨w.heap.size, 1, none⟩ = some (.slice bo f.2.length dap) := oldc hbA omT sgT
 have s0 : wA.cell? ⟨w.heap.size + 1, 0, none⟩ = some (.int .i64 sx) := oldc hbA omT sgT
 have s1 : wA.cell? ⟨w.heap.size + 1, 1, none⟩ = some (.slice ta l.length tc) := oldc hbA omT sgT
 have y1 := oldc hbW pbl x1
 obtain ⟨y, -, y0, yf, -⟩ := how.bool_at0 (i := p) hp
 have k0 : ¬ PB = w.heap.size + 1 + 1 := by omega
 have k1 : ¬ w.heap.size + 1 + 1 = PB := by omega
 go_upto_region 2 with fail
 refine wp_region_held_drew (S := (fun w' => w'.cell? ⟨w.heap.size, 0, none⟩ = some (.slice (some ⟨PB, PO, none⟩) f.1.length cap) ∧ w'.cell? ⟨w.heap.size + 1, 0, none⟩ = some (.int .i64 sx) ∧ w'.cell? ⟨PB, PO + p * 6 + 1, none⟩ = some (.int .i64 sx))) krT ?_ (fun hHeld => ?_)
 ·exact kpT
 refine tkA 0 ?_
 try simp only [cD]
 refine tkA 1 ?_
 try simp only [cD]
 refine tkA 2 ?_
 try simp only [cD]
 refine tkA 3 ?_
 try simp only [cD]
 refine tkA 4 ?_
 try simp only [cD]
 refine tkA 5 ?_
 try simp only [cD]
 refine tkA 6 ?_
 try simp only [cD]
 refine tkA 8 ?_
 try simp only [cD]
 refine tkA 10 ?_
 try simp only [cD]
 refine tkA 7 ?_
 try simp only [cD]
 refine tkA 9 ?_
 try simp only [cD]
 refine tkA 11 ?_
 try simp only [cD]
 refine tkA 12 ?_
 try simp only [cD]
 refine tkA 13 ?_
 try simp only [cD]
 refine tkA 14 ?_
 try simp only [cD]
 refine tkA 15 ?_
 try simp only [cD]
 refine tkA 16 ?_
 try simp only [cD]
 refine rd1 17 fun K hK => ?_
 go_simp
 refine hK.out _ _ kpT fun hHeld => ?_
 clear hK K
 try simp only [cD]
 refine wdT ?_
 obtain ⟨WS, hWS⟩ : ∃ W : World, W = (wA.setCell ⟨w.heap.size + 1 + 1, p, none⟩ (.bool true)).drew := ⟨_, rfl⟩
 have HS := Hd (show Ow (w.heap.size + 1 + 1) (w.heap.size + 1 + 1 + 1) WS [.slice (some ⟨w.heap.size + 1 + 1, 0, none⟩) f.1.length f.1.length] (single f.1.length p) by rw [hWS]; exact (how.bool_set0 hp true).keep (Zone.refl _ _ _))
 have hbS : Below (w.heap.size + 1 + 1) wA WS := by rw [hWS]; exact bwT
 have hBS : Below w.heap.size w WS := hbW.trans (hbS.mono omT)
 have g0 := oldc hbS omT f0
 have g1 := oldc hbS omT f1
 have t1 := oldc hbS omT s1
 have lS : w.heap.size + 1 + 1 < WS.heap.size := by rw [hWS]; simp; exact hlt1
 rw [← hWS]
 clear hWS how hbA hbW hbS y0 yf f0 f1 s0 s1 y1 hlt1 hHeld k0 k1 pbl x1 e0
 go_wp2
 go_loopw [7, 9, 34] (fun s7 _ s34 wl => ∃ (i : Nat) (u : Value), i ≤ l.length ∧ s34 = .int .i64 i ∧ u = s7 ∧ Hid (Ow w.heap.size wl.heap.size wl [u] (reachL f (single f.1.length p) (l.take i))) ∧ wl.cell? ⟨w.heap.size, 0, none⟩ = some (.slice (some ⟨PB, PO, none⟩) f.1.length cap) ∧ wl.cell? ⟨w.heap.size, 1, none⟩ = some (.slice bo f.2.length dap) ∧ wl.cell? ⟨w.heap.size + 1, 1, none⟩ = some (.slice ta l.length tc) ∧ Below w.heap.size w wl ∧ w.heap.size + 1 < wl.heap.size) (fun _ _ s34 _ => l.length - (intOf s34).toNat)
 case atStart => exact ⟨0, _, Nat.zero_le _, rfl, rfl, Hd (HS.out.top.mono omT (Nat.le_refl _)), g0, g1, t1, hBS, by omega⟩
 case round =>
  clear HS hBS t1 lS g0 g1
  obtain ⟨wo, hwo⟩ : ∃ y : World, y = wr := ⟨_, rfl⟩
  subst hwo
  obtain ⟨i, u, hi, rfl, hu, HO, g0, g1, t1, hbo, lo'⟩ := hrel
  obtain ⟨ua, un, uc, rfl, hun, -⟩ := HO.out.rd.shape
  subst hu
  have hsl : (single f.1.length p).length = f.1.length := by unfold single; simp
  have hol : (reachL f (single f.1.length p) (l.take i)).length = f.1.length := reachL_len hsl _
  rw [hol] at hun
  subst hun
  by_cases hil : i < l.length
  ·have hiI : (i : Int) < (l.length : Int) := by omega
   obtain ⟨sb, so, k, g, e1, hs, s0, s1, gk, gg, -, -, sbl, -⟩ := (HTS.out.below hbo).stp_at hil
   subst e1
   obtain ⟨hk, hg0⟩ := HKS.out (k, g) (List.mem_of_getElem? hs.out)
   dsimp only at hk hg0
   subst hg0
   have HRT := Hd (reachL_take (f := f) (o := single f.1.length p) hs.out)
   obtain ⟨O, hO⟩ : ∃ O, O = reachL f (single f.1.length p) (l.take i) := ⟨_, rfl⟩
   rw [← hO] at HO HRT hol
   have HOL := Hd hol
   have n0 : ¬ w.heap.size = wo.heap.size := by omega
   have n1 : ¬ wo.heap.size = w.heap.size := by omega
   have n2 : w.heap.size < wo.heap.size := by omega
   clear hs hO hol
   go_wp2_with fail
   refine (reachS_any _ _ _ _ f ((HH.out.below hbo).below bwT) HF.out O (HO.out.rd.below bwT) HOL.out k 0 hk omT).mono ?_
   rintro e5 w5 ⟨u5, rfl, ho5, hb5⟩
   have hp5 : Below wo.heap.size wo w5 := Below.trans (show Below wo.heap.size wo _ from bwT) (hb5.mono szT)
   have g5 := oldc hp5 n2 g0
   have g6 := oldc hp5 n2 g1
   have t5 := oldc hp5 lo' t1
   have HO5 := Hd (show Ow w.heap.size w5.heap.size w5 [u5] (reachL f (single f.1.length p) (l.take (i + 1))) by rw [HRT.out]; exact ho5.mono soT (Nat.le_refl _))
   have hb5w : Below w.heap.size w w5 := hbo.trans (hp5.mono omT)
   have l5 : w.heap.size + 1 < w5.heap.size := ltL lo' hp5.size
   clear ho5 hb5 hp5 HO HRT
   go_wp2
   go_roundw
   case rel => exact ⟨i + 1, _, by omega, by go_num, rfl, HO5, g5, g6, t5, hb5w, l5⟩
   case measure => simp [intOf]; omega
  ·obtain rfl : i = l.length := by omega
   have hiI : ¬ (l.length : Int) < (l.length : Int) := by omega
   rw [List.take_length] at HO
   clear hol
   go_wp2
   go_ret
   exact ⟨_, rfl, HO.out, hbo⟩
end Go.Proofs.YtcbhdmmohdnjbaaGreat
