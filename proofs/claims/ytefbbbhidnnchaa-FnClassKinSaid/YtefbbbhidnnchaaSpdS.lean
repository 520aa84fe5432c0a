/- Contracts of l7Link and l7Spread (spec): classes spread over the marks in place. -/
import Derived.Test.YtefbbbhidnnchaaAsg
import Derived.Test.YtefbbbhidnnchaaZ14D
namespace Go.Proofs.Ytefbbbhidnnchaa
set_option linter.unusedVariables false
set_option linter.unusedSimpArgs false
open Go.RowKit

/-- Marks are turned in place; a Bool is told. -/
def PostL (b : Bool) (m' : List Int) (fp : List Nat) (w : World) (vm : Value) (e : Ending) (w' : World) : Prop := e = .returned (.bool b) ∧ Rep.rep true w' [vm] m' fp ∧ OffF fp w w'

set_option maxRecDepth 20000 in
set_option maxHeartbeats 4000000 in
theorem linkS_any {z : Bool} {lo hi : Nat} (w : World) (vm vp : Value) (p m : List Int) (hp : Rd z lo hi w [vp] p) (fp : List Nat) (hm : Rep.rep true w [vm] m fp) (hdis : ∀ b ∈ fp, b < lo ∨ hi ≤ b) (hpm : isPerm p = true) (hpl : p.length ≤ 8) (hml : m.length ≤ 40) (a b : Nat) (ha : a < m.length) (hb : b < m.length)
    (hra : mrk m a = -1 ∨ (0 ≤ mrk m a ∧ mrk m a < p.length)) (hrb : mrk m b = -1 ∨ (0 ≤ mrk m b ∧ mrk m b < p.length)) :
    Calls Try.prog 84 #[vm, .int .i64 a, .int .i64 b, vp] w (PostL (linkR m (a, b, p)).1 (linkR m (a, b, p)).2 fp w vm) := by
  have hR : Rd true 0 w.heap.size w [vm] m := ⟨fp, hm, fun b hb => ⟨Nat.zero_le _, Rep.lt hm b hb⟩⟩
  obtain ⟨ao, n, cap, rfl, hn, hnc, hcm, hnone⟩ := hR.shape
  subst hn
  have bj := isPerm_bij hpm
  have BJ := Lib.hid bj
  obtain ⟨b0, off, x, rfl, hx, hcx, hx1, hx2, hbm, hbl, hfz⟩ := rep_int_at hm (i := a) ha
  obtain ⟨_, _, y, ee, hy, hcy, hy1, hy2, -, -, -⟩ := rep_int_at hm (i := b) hb
  simp only [Option.some.injEq, Addr.mk.injEq, and_true] at ee
  obtain ⟨rfl, rfl⟩ := ee
  have hfz := hfz rfl
  have hMX : mrk m a = x := getI_at hx.out
  have hMY : mrk m b = y := getI_at hy.out
  have hb0 := hdis b0 hbm.out
  rw [hMX] at hra
  rw [hMY] at hrb
  have HM := Lib.hid hm
  have HX := Lib.hid hMX
  have HY := Lib.hid hMY
  clear bj hR hm hnone hdis
  unfold maxLen at *
  have haI : (a : Int) < (m.length : Int) := by omega
  have hbI : (b : Int) < (m.length : Int) := by omega
  obtain ⟨q1, q2, q3, rfl, hq, hqc, hqm, -⟩ := hp.shape
  subst hq
  by_cases e1 : 0 ≤ x
  · obtain ⟨xn, rfl⟩ := Int.eq_ofNat_of_zero_le e1
    have hxn : xn < p.length := by omega
    have hxI : (xn : Int) < (p.length : Int) := by omega
    obtain ⟨pb, poff, v, rfl, hv, hcv, hv1, hv2, hpb1, hpb2, hpb3, -⟩ := hp.int_at (i := xn) hxn
    have hvr := BJ.out.rng (xn : Int) (by omega) (by omega)
    have hGV : getI p (xn : Int) = v := getI_at hv.out
    rw [hGV] at hvr
    have nb1 : ¬ b0 = pb := by omega
    have nb2 : ¬ pb = b0 := by omega
    by_cases e2 : y < 0
    · have HL := Lib.hid (show linkR m (a, b, p) = (true, m.set b v) by unfold linkR; rw [if_pos (by rw [HX.out]; exact e1), if_pos (by rw [HY.out]; exact e2), HX.out, hGV])
      rw [HL.out]
      have hset := Lib.hid (rep_int_set HM.out hy.out ⟨hy1, hy2⟩ (y := v) ⟨hv1, hv2⟩)
      have hof := (OffF.refl fp w).setCell (p := ⟨b0, off + b, none⟩) hbm.out (.int .i64 v)
      have hab : ¬ a = b := fun e => by subst e; have h1 := HX.out; have h2 := HY.out; omega
      have hba : ¬ b = a := fun e => hab e.symm
      have e3 : ¬ (xn : Int) < 0 := by omega
      have e4 : 0 ≤ v := hvr.1
      clear hx hy hv hp hra hrb hvr hMX hMY HM HX HY BJ hGV HL hpm
      go_enter Try.func84, Try.ntmps84
      go_wp2
      go_quiet (fail)
      go_wp2
      go_ret
      exact ⟨rfl, Rep.keep hset.out (fun _ _ => rfl), offF_drewN hof _⟩
    · have e3 : 0 ≤ y := by omega
      have e4 : ¬ (xn : Int) < 0 := by omega
      obtain ⟨r, hr⟩ : ∃ r, r = decide (y = v) := ⟨_, rfl⟩
      have HL := Lib.hid (show linkR m (a, b, p) = (r, m) by unfold linkR; rw [if_pos (by rw [HX.out]; exact e1), if_neg (by rw [HY.out]; exact e2), HX.out, HY.out, hGV, hr])
      rw [HL.out]
      have hrr : (y == v) = r := by rw [hr]; rfl
      clear hr hx hy hv hp hra hrb hvr hMX hMY HX HY BJ hGV HL hpm
      go_enter Try.func84, Try.ntmps84
      go_wp2
      go_quiet (fail)
      go_wp2
      go_ret
      exact ⟨rfl, Rep.keep HM.out (fun _ _ => rfl), offF_drewN (OffF.refl _ _) _⟩
  · by_cases e2 : 0 ≤ y
    · obtain ⟨yn, rfl⟩ := Int.eq_ofNat_of_zero_le e2
      have hyn : yn < p.length := by omega
      have hyI : (yn : Int) < (p.length : Int) := by omega
      have hvr := BJ.out.rng' (yn : Int) (by omega) (by omega)
      have hvt := BJ.out.two (yn : Int) (by omega) (by omega)
      obtain ⟨v, hv⟩ : ∃ v, v = getI (inv p) (yn : Int) := ⟨_, rfl⟩
      rw [← hv] at hvr hvt
      have HL := Lib.hid (show linkR m (a, b, p) = (true, m.set a v) by unfold linkR; rw [if_neg (by rw [HX.out]; exact e1), if_pos (by rw [HY.out]; exact e2), HY.out, hv])
      rw [HL.out]
      have HV := Lib.hid hv
      have hset := Lib.hid (rep_int_set HM.out hx.out ⟨hx1, hx2⟩ (y := v) ⟨by omega, by omega⟩)
      have hof := (OffF.refl fp w).setCell (p := ⟨b0, off + a, none⟩) hbm.out (.int .i64 v)
      have hab : ¬ a = b := fun e => by subst e; have h1 := HX.out; have h2 := HY.out; omega
      have hba : ¬ b = a := fun e => hab e.symm
      have e3 : x < 0 := by omega
      have e4 : ¬ (yn : Int) < 0 := by omega
      have e5 : 0 ≤ v := hvr.1
      have HPM := Lib.hid hpm
      obtain ⟨vn, rfl⟩ := Int.eq_ofNat_of_zero_le e5
      have hvn : vn < p.length := by omega
      have hvI : (vn : Int) < (p.length : Int) := by omega
      obtain ⟨pb, poff, v2, rfl, hw2, hcv, hv1, hv2, hpb1, hpb2, hpb3, -⟩ := hp.int_at (i := vn) hvn
      obtain rfl : v2 = (yn : Int) := by rw [← hvt]; exact (getI_at hw2.out).symm
      have nb1 : ¬ b0 = pb := by omega
      have nb2 : ¬ pb = b0 := by omega
      have HXA := Lib.hid hx.out
      clear hx hy hra hrb hMX hMY HX HY BJ HL hpm hv hvt hw2
      go_enter Try.func84, Try.ntmps84
      go_upto_region 4 with fail
      refine wp_region_held_drew (S := (fun w' => w'.cell? ⟨b0, off + b, none⟩ = some (.int .i64 (yn : Int)))) (by kernel_rfl) ?_ (fun hHeld => ?_)
      · first | exact trivial | ((try dsimp only); go_keep)
      refine tkR 0 (v := ?_) ?_ ?_
      rotate_left
      · intro w hSw; (try dsimp only at hSw); go_simp <;> with_reducible rfl
      try simp only [Act.put, List.setIfInBounds_toArray, List.set_cons_zero, List.set_cons_succ]
      refine tkR 1 (v := ?_) ?_ ?_
      rotate_left
      · intro w hSw; (try dsimp only at hSw); go_simp <;> with_reducible rfl
      try simp only [Act.put, List.setIfInBounds_toArray, List.set_cons_zero, List.set_cons_succ]
      refine tkR 2 (v := ?_) ?_ ?_
      rotate_left
      · intro w hSw; (try dsimp only at hSw); go_simp <;> with_reducible rfl
      try simp only [Act.put, List.setIfInBounds_toArray, List.set_cons_zero, List.set_cons_succ]
      refine tkR 4 (v := ?_) ?_ ?_
      rotate_left
      · intro w hSw; (try dsimp only at hSw); go_simp <;> with_reducible rfl
      try simp only [Act.put, List.setIfInBounds_toArray, List.set_cons_zero, List.set_cons_succ]
      refine tkR 5 (v := ?_) ?_ ?_
      rotate_left
      · intro w hSw; (try dsimp only at hSw); go_simp <;> with_reducible rfl
      try simp only [Act.put, List.setIfInBounds_toArray, List.set_cons_zero, List.set_cons_succ]
      refine tkR 6 (v := ?_) ?_ ?_
      rotate_left
      · intro w hSw; (try dsimp only at hSw); go_simp <;> with_reducible rfl
      try simp only [Act.put, List.setIfInBounds_toArray, List.set_cons_zero, List.set_cons_succ]
      refine tkR 7 (v := ?_) ?_ ?_
      rotate_left
      · intro w hSw; (try dsimp only at hSw); go_simp <;> with_reducible rfl
      try simp only [Act.put, List.setIfInBounds_toArray, List.set_cons_zero, List.set_cons_succ]
      refine wpAnyH_ready (rs := [3]) (by kernel_rfl) (by simp) ?_
      refine rdR (fun K hK => ?_) ?_
      · go_simp
        refine (inversePermS_any _ _ _ (hp.below bwT) (by omega)).mono ?_
        rw [invP, if_pos HPM.out]
        rintro e w1 ⟨u, rfl, ho, hb1⟩
        have hs1 := Lib.hid (Rep.keep hset.out (fun _ _ => rfl))
        obtain ⟨u1, u2, u3, rfl, hu2, hu3, hu4, -⟩ := ho.rd.shape
        have hul : yn < u2 := by rw [← hu2, inv_len]; exact hyn
        obtain ⟨ib, ioff, v3, rfl, hv3, hcv3, -, -, hib1, hib2, hib3, -⟩ := ho.rd.int_at (i := yn) hul
        obtain rfl : v3 = (vn : Int) := by rw [HV.out]; exact (getI_at hv3.out).symm
        have hlu : u2 = p.length := by rw [← hu2, inv_len]
        subst hlu
        have hm1 := Lib.hid (Rep.keep HM.out (fun c hc => hb1.block c (by have := Rep.lt HM.out c hc; simp; omega)))
        have hof1 := ((OffF.refl fp w).drew).below hb1
        have c1a := oldc hb1 (by simp; omega) (show w.drew.cell? _ = _ from hcx)
        have c1b := oldc hb1 (by simp; omega) (show w.drew.cell? _ = _ from hcy)
        have c1p := oldc hb1 (by simp; omega) (show w.drew.cell? _ = _ from hcv)
        have f1 : ∀ o, w1.frozen? ⟨b0, o, none⟩ = false := fun o => (hb1.frozen (p := ⟨b0, o, none⟩) (by simp; omega)).trans (hfz o)
        simp only [World.size_drew] at hib1
        have nb3 : ¬ b0 = ib := by omega
        have nb4 : ¬ ib = b0 := by omega
        clear hs1 ho hv3 hb1 hu3 hu4
        refine hK.out _ _ ?_ (fun hHeld => ?_)
        · exact kpT
        clear hK K
        try simp only [Act.put, List.setIfInBounds_toArray, List.set_cons_zero, List.set_cons_succ]
        refine tkR 8 (v := ?_) ?_ ?_
        rotate_left
        · intro w hSw; (try dsimp only at hSw); go_simp <;> with_reducible rfl
        try simp only [Act.put, List.setIfInBounds_toArray, List.set_cons_zero, List.set_cons_succ]
        refine wpAnyH_ready (rs := [9]) (by kernel_rfl) (by simp) ?_
        refine rdR (fun K hK => ?_) ?_
        · go_simp
          refine hK.out _ _ ?_ (fun hHeld => ?_)
          · exact kpT
          clear hK K
          try simp only [Act.put, List.setIfInBounds_toArray, List.set_cons_zero, List.set_cons_succ]
          refine tkR 10 (v := ?_) ?_ ?_
          rotate_left
          · intro w hSw; (try dsimp only at hSw); go_simp <;> with_reducible rfl
          try simp only [Act.put, List.setIfInBounds_toArray, List.set_cons_zero, List.set_cons_succ]
          refine wpAnyH_ready (rs := [11]) (by kernel_rfl) (by simp) ?_
          refine rdR (fun K hK => ?_) ?_
          · go_simp
            refine hK.out _ _ ?_ (fun hHeld => ?_)
            · exact kpT
            clear hK K
            try simp only [Act.put, List.setIfInBounds_toArray, List.set_cons_zero, List.set_cons_succ]
            refine wpAnyH_done (by kernel_rfl) ?_ _
            have hs2 := Lib.hid (rep_int_set hm1.out HXA.out ⟨hx1, hx2⟩ (y := vn) ⟨by omega, by omega⟩)
            have hof2 := hof1.setCell (p := ⟨b0, off + a, none⟩) hbm.out (.int .i64 vn)
            have e6 : ¬ (vn : Int) < 0 := by omega
            clear hm1 hof1 hp hset hof HPM HV
            go_wp2_with fail
            go_quiet (fail)
            go_wp2
            go_ret
            exact ⟨rfl, Rep.keep hs2.out (fun _ _ => rfl), offF_drewN hof2 _⟩
          exact AllReadyH.nil
        exact AllReadyH.nil
      exact AllReadyH.nil
    · have HL := Lib.hid (show linkR m (a, b, p) = (true, m) by unfold linkR; rw [if_neg (by rw [HX.out]; exact e1), if_neg (by rw [HY.out]; exact e2)])
      rw [HL.out]
      have e3 : x < 0 := by omega
      have e4 : y < 0 := by omega
      clear hx hy hp hra hrb hMX hMY HX HY BJ HL hpm
      go_enter Try.func84, Try.ntmps84
      go_wp2
      go_quiet (fail)
      go_wp2
      go_ret
      exact ⟨rfl, Rep.keep HM.out (fun _ _ => rfl), offF_drewN (OffF.refl _ _) _⟩

def PostA (f : Fam) (c : Cls) (g o1 : List Int) (fp : List Nat) (w : World) (vm : Value) (e : Ending) (w' : World) : Prop :=
  ∃ (t : Bool) (o' : List Int), e = .returned (.bool t) ∧ Rep.rep true w' [vm] o' fp ∧ OffF fp w w' ∧ Hid (t = true → AInn f c g o1 o' ∧ AFix f c o') ∧ Hid (t = false → ¬ ∃ k, AVal f c g k ∧ Agr f.1.length k o1)

set_option maxRecDepth 20000 in
set_option maxHeartbeats 16000000 in
theorem spreadS_any {z z1 : Bool} {lo hi lo1 hi1 : Nat} (w : World) (v v2 u1 u2 vm : Value) (f : Fam) (c : Cls) (h : Rd z lo hi w [v, v2] f) (hc : Rd z1 lo1 hi1 w [u1, u2] c) (g o1 : List Int) (fp : List Nat) (hm : Rep.rep true w [vm] o1 fp) (lm : Nat) (hzm : InZ lm w.heap.size fp) (hhi : hi ≤ lm) (hhi1 : hi1 ≤ lm) (hlm : lm ≤ w.heap.size) (hfam : famB f = true) (hcls : isCls c = true) (hrg : ARng f c o1) :
    Calls Try.prog 47 #[.agg #[v, v2], .agg #[u1, u2], vm] w (PostA f c g o1 fp w vm) := by
  obtain ⟨ha, hb⟩ := h.fam
  obtain ⟨hw, hq⟩ := hc.two rfl
  obtain ⟨ao, n, cap, rfl, hn, hnc, hcm, hnone⟩ := ha.shape
  obtain ⟨ao2, n2, cap2, rfl, hn2, hnc2, hcm2, hnone2⟩ := hb.shape
  subst hn hn2
  obtain ⟨bo, n3, dap, rfl, hn3, hnc3, hcm3, hnone3⟩ := hw.shape
  obtain ⟨bo2, n4, dap2, rfl, hn4, hnc4, hcm4, hnone4⟩ := hq.shape
  subst hn3 hn4
  have hR : Rd true lm w.heap.size w [vm] o1 := ⟨fp, hm, hzm⟩
  obtain ⟨ao3, n5, cap3, rfl, hn5, hnc5, hcm5, hnone5⟩ := hR.shape
  obtain rfl : n5 = f.1.length := by rw [← hn5]; exact hrg.1
  unfold maxLen at *
  obtain ⟨h40, h60, hP, hU⟩ := famB_facts hfam
  obtain ⟨c0, c8, c12, hp1, hp2⟩ := isCls_facts hcls
  have HE := Lib.hid (edOk hfam hcls)
  have HP := Lib.hid hP
  have HP1 := Lib.hid hp1
  have HP2 := Lib.hid hp2
  have hbm : isPerm (byM c) = true := bij_comp (isPerm_inv hp1) hp2 (by rw [inv_len, c12])
  have hbl : (byM c).length = c.1.length := by unfold byM; rw [comp_len, inv_len]
  have HPM := Lib.hid hbm
  have HBL := Lib.hid hbl
  have HU := Lib.hid (show ∀ (k : Nat) (u : Uni), f.2[k]? = some u → (0 ≤ u.1 ∧ u.1 < f.1.length) ∧ (0 ≤ u.2.1 ∧ u.2.1 < f.1.length) from fun k u hu => by
    obtain ⟨m, wo, fr, tl⟩ := u
    exact uniOk_facts (hU k (List.getElem?_eq_some_iff.1 hu).1) hu)
  have HH0 := Lib.hid (AHr.start (g := g) hrg)
  have hM0 := Lib.hid hm
  have hzw := hzm
  have HDI := Lib.hid (show ∀ b ∈ fp, b < lo1 ∨ hi1 ≤ b from fun b hb => by have := hzm b hb; omega)
  have hIR : InRange c.2.length (inv c.1) := by rw [c12]; exact inv_range
  have HIR := Lib.hid hIR
  have haz := Lib.hid (show ∀ W, Below lm w W → Rd z lo hi W [.slice ao f.1.length cap] f.1 from fun W hb => ha.keep (fun i h1 h2 => hb.block i (by omega)))
  have hbz := Lib.hid (show ∀ W, Below lm w W → Rd z lo hi W [.slice ao2 f.2.length cap2] f.2 from fun W hbb => hb.keep (fun i h1 h2 => hbb.block i (by omega)))
  have hwz := Lib.hid (show ∀ W, Below lm w W → Rd z1 lo1 hi1 W [.slice bo c.1.length dap] c.1 from fun W hb => hw.keep (fun i h1 h2 => hb.block i (by omega)))
  have hqz := Lib.hid (show ∀ W, Below lm w W → Rd z1 lo1 hi1 W [.slice bo2 c.2.length dap2] c.2 from fun W hb => hq.keep (fun i h1 h2 => hb.block i (by omega)))
  have HC := Lib.hid c12
  have c28 : c.2.length ≤ 8 := by omega
  clear c12 hP hU hn5 hnone hnone2 hnone3 hnone4 hnone5 hR hm hp1 hp2 hbm hbl hfam hcls hrg hzm ha hb hw hq h hc hIR
  go_enter Try.func47, Try.ntmps47
  have la0 : (w.alloc (.cells #[.slice ao f.1.length cap, .slice ao2 f.2.length cap2] 26)).heap.size = w.heap.size + 1 := by simp
  go_upto_region 1 with fail
  refine wp_region_held_drew (S := (fun w' => w'.cell? ⟨w.heap.size + 1, 0, none⟩ = some (.slice bo c.1.length dap) ∧ w'.cell? ⟨w.heap.size + 1, 1, none⟩ = some (.slice bo2 c.2.length dap2))) (by kernel_rfl) ?_ (fun hHeld => ?_)
  · first | exact trivial | ((try dsimp only); go_keep)
  refine tkR 0 (v := ?_) ?_ ?_
  rotate_left
  · intro w hSw; (try dsimp only at hSw); go_simp <;> with_reducible rfl
  try simp only [Act.put, List.setIfInBounds_toArray, List.set_cons_zero, List.set_cons_succ]
  refine tkR 3 (v := ?_) ?_ ?_
  rotate_left
  · intro w hSw; (try dsimp only at hSw); go_simp <;> with_reducible rfl
  try simp only [Act.put, List.setIfInBounds_toArray, List.set_cons_zero, List.set_cons_succ]
  refine tkR 1 (v := ?_) ?_ ?_
  rotate_left
  · intro w hSw; (try dsimp only at hSw); go_simp <;> with_reducible rfl
  try simp only [Act.put, List.setIfInBounds_toArray, List.set_cons_zero, List.set_cons_succ]
  refine tkR 4 (v := ?_) ?_ ?_
  rotate_left
  · intro w hSw; (try dsimp only at hSw); go_simp <;> with_reducible rfl
  try simp only [Act.put, List.setIfInBounds_toArray, List.set_cons_zero, List.set_cons_succ]
  refine wpAnyH_ready (rs := [2]) (by kernel_rfl) (by simp) ?_
  refine rdR (fun K hK => ?_) ?_
  · go_simp
    refine (inversePermS_any _ _ _ (hwz.out _ bwT) (by omega)).mono ?_
    rw [invP, if_pos HP1.out]
    rintro e w1 ⟨u1, rfl, hoi, hb1⟩
    have s1 := hb1.size
    have hS1 := And.intro (oldc hb1 (by simp) hHeld.1) (oldc hb1 (by simp) hHeld.2)
    simp only [World.size_alloc, World.size_drew] at s1
    refine hK.out _ _ ?_ (fun hHeld => ?_)
    · exact kpT
    clear hK K
    try simp only [Act.put, List.setIfInBounds_toArray, List.set_cons_zero, List.set_cons_succ]
    refine wpAnyH_ready (rs := [5]) (by kernel_rfl) (by simp) ?_
    refine rdR (fun K hK => ?_) ?_
    · go_simp
      refine (composedS_any _ _ _ _ _ hoi.rd (hqz.out _ (Below.trans (show Below lm w _ from bwT) (hb1.mono szT))) (by rw [inv_len]; omega) HIR.out).mono ?_
      rintro e w2 ⟨u2, rfl, hoc, hb2⟩
      have s2 := hb2.size
      have hS2 := And.intro (oldc hb2 (by omega) hHeld.1) (oldc hb2 (by omega) hHeld.2)
      refine hK.out _ _ ?_ (fun hHeld => ?_)
      · exact kpT
      clear hK K
      try simp only [Act.put, List.setIfInBounds_toArray, List.set_cons_zero, List.set_cons_succ]
      refine tkR 6 (v := ?_) ?_ ?_
      rotate_left
      · intro w hSw; (try dsimp only at hSw); go_simp <;> with_reducible rfl
      try simp only [Act.put, List.setIfInBounds_toArray, List.set_cons_zero, List.set_cons_succ]
      refine wpAnyH_done (by kernel_rfl) ?_ _
      have l2 : w.heap.size + 2 ≤ w2.heap.size := by omega
      have hBW : Below lm w w2 := Below.trans (Below.trans (show Below lm w _ from bwT) (hb1.mono szT)) (hb2.mono (by omega))
      have qa_f0 : w2.cell? ⟨w.heap.size, 0, none⟩ = some (.slice ao f.1.length cap) := oldc hb2 (by omega) (oldc hb1 (by simp; omega) (by simp [go_sem]))
      have qa_f1 : w2.cell? ⟨w.heap.size, 1, none⟩ = some (.slice ao2 f.2.length cap2) := oldc hb2 (by omega) (oldc hb1 (by simp; omega) (by simp [go_sem]))
      have qa_c0 : w2.cell? ⟨w.heap.size + 1, 0, none⟩ = some (.slice bo c.1.length dap) := hS2.1
      have qa_c1 : w2.cell? ⟨w.heap.size + 1, 1, none⟩ = some (.slice bo2 c.2.length dap2) := hS2.2
      have hof0 := ((((OffF.refl fp w).alloc (.cells #[.slice ao f.1.length cap, .slice ao2 f.2.length cap2] 26)).alloc (.cells #[.slice bo c.1.length dap, .slice bo2 c.2.length dap2] 44)).drew.below hb1).below hb2
      have HBM := Lib.hid (show ∀ W, OffF fp w2 W → Rd true w1.heap.size w2.heap.size W [u2] (byM c) from fun W ho => hoc.rd.keep (ho.zone (Nat.le_refl _) hzw (.inl (by omega))))
      have HDB := Lib.hid (show ∀ b ∈ fp, b < w1.heap.size ∨ w2.heap.size ≤ b from fun b hb => by have := hzw b hb; omega)
      have hM2 := Lib.hid (Rep.keep hM0.out (fun b hb => by have hbl := (hzw b hb).2; exact (hb2.block b (by omega)).trans ((hb1.block b (by simp; omega)).trans ((Below.refl w.heap.size w).alloc (Nat.le_refl _) _ |>.alloc (by simp) _ |>.block b hbl))))
      clear hS1 hS2 hHeld hoi hoc hb1 hb2 hM0 la0
      go_wp2
      go_loopw [8] (fun s8 wr => ∃ (r : Nat) (o : List Int), r ≤ f.1.length + 1 ∧ s8 = .int .i64 r ∧ Hid (Rep.rep true wr [.slice ao3 f.1.length cap3] o fp) ∧ Hid (AHr f c g o1 r o) ∧ OffF fp w2 wr) (fun s8 _ => f.1.length + 1 - (intOf s8).toNat)
      case atStart => exact ⟨0, o1, Nat.zero_le _, rfl, hM2, HH0, OffF.refl _ _⟩
      case round =>
        clear hM2 HH0
        obtain ⟨wb, hwb⟩ : ∃ wm : World, wm = wr := ⟨_, rfl⟩
        subst hwb
        obtain ⟨r, o', hr1, rfl, hM, HH, hoff⟩ := hrel
        by_cases hlr : r ≤ f.1.length
        · have hIr : (r : Int) ≤ (f.1.length : Int) := by omega
          have HS0 := Lib.hid (show Ar f c g o1 o' (edTo f c 0) o' from Ar.start HH.out.inn)
          have sR := hoff.size
          have hbw : Below lm w wb := hBW.trans (hoff.toBelow (by omega) (fun b hb => (hzw b hb).1))
          have q_f0 := offc hoff hzw (.inr (Nat.le_refl _)) (by omega) qa_f0
          go_wp2
          go_loopw [9, 10, 28] (fun _ _ s28 wr => ∃ (a : Nat) (p : List Int), a ≤ f.1.length ∧ s28 = .int .i64 a ∧ Hid (Rep.rep true wr [.slice ao3 f.1.length cap3] p fp) ∧ Hid (Ar f c g o1 o' (edTo f c a) p) ∧ OffF fp w2 wr) (fun _ _ s28 _ => f.1.length - (intOf s28).toNat)
          case atStart => exact ⟨0, o', Nat.zero_le _, rfl, hM, HS0, hoff⟩
          case round =>
            clear HS0 hM hoff sR hbw q_f0
            obtain ⟨wc, hwc⟩ : ∃ wm : World, wm = wr := ⟨_, rfl⟩
            subst hwc
            obtain ⟨a, p, ha1, rfl, hM, HS, hoff⟩ := hrel
            have sR := hoff.size
            have hbw : Below lm w wc := hBW.trans (hoff.toBelow (by omega) (fun b hb => (hzw b hb).1))
            have q_f1 := offc hoff hzw (.inr (Nat.le_refl _)) (by omega) qa_f1
            have q_c0 := offc hoff hzw (.inr (Nat.le_succ _)) (by omega) qa_c0
            have q_c1 := offc hoff hzw (.inr (Nat.le_succ _)) (by omega) qa_c1
            have l_f : w.heap.size < wc.heap.size := by omega
            have l_c : w.heap.size + 1 < wc.heap.size := by omega
            by_cases hla : a < f.1.length
            · have hIa : (a : Int) < (f.1.length : Int) := by omega
              have hpl : p.length = f.1.length := HS.out.inn.rng.1
              have HPL := Lib.hid hpl
              clear hpl
              obtain ⟨pb, poff, nm, sx, fa, mo, bo', di, rfl, hx, p0, p1, p2, p3, p4, p5, -, -, -, -, -, -, -, -, hbl, -⟩ := (haz.out _ hbw).per_at hla
              obtain ⟨-, -, -, hfa, hmo, -⟩ := HP.out.at hla hx.out
              have HD := Lib.hid (edTo_succ (c := c) hx.out)
              have HX := hx
              clear hx
              rcases hfa with rfl | ⟨hfa0, hfa1⟩
              · have HS1 := Lib.hid (show Ar f c g o1 o' (edTo f c a ++ edFa c a (nm, sx, -1, mo, bo', di)) p by rw [show edFa c a (nm, sx, -1, mo, bo', di) = [] from rfl, List.append_nil]; exact HS.out)
                clear HS
                rcases hmo with rfl | ⟨hmo0, hmo1⟩
                · have HN := Lib.hid (show Ar f c g o1 o' (edTo f c (a + 1)) p by rw [HD.out, show edMo c a (nm, sx, -1, -1, bo', di) = [] from rfl, List.append_nil]; exact HS1.out)
                  clear HS1 HD HX
                  go_wp2
                  go_roundw
                  case rel => exact ⟨a + 1, p, by omega, by go_num, Lib.hid (Rep.keep hM.out (fun b hb => by first | rfl | exact Below.heap_alloc _ _ b (Rep.lt hM.out b hb))), HN, (by repeat' (first | (with_reducible exact OffF.refl _ _) | (with_reducible assumption) | (with_reducible refine offF_drewN ?_ _) | (with_reducible refine OffF.drew ?_) | (with_reducible refine OffF.setCell ?_ (by simp) _) | (with_reducible refine OffF.alloc ?_ _)))⟩
                  case measure => simp [intOf]; omega
                · obtain ⟨mn, rfl⟩ := Int.eq_ofNat_of_zero_le hmo0
                  have hmn : mn < f.1.length := by omega
                  have hEM := Lib.hid (show (mn, a, byM c) ∈ edges f c from mem_edges.2 (.inr (.inl ⟨_, HX.out, hmo0, rfl, rfl⟩)))
                  have hr1 := HS1.out.inn.rng.2 mn hmn
                  have hr2 := HS1.out.inn.rng.2 a hla
                  obtain ⟨⟨t2, p2'⟩, hl2⟩ : ∃ q : Bool × List Int, q = linkR p (mn, a, byM c) := ⟨_, rfl⟩
                  have HT2 := Lib.hid (show t2 = true → Ar f c g o1 o' (edTo f c (a + 1)) p2' from fun e => by
                    have := HS1.out.step HE.out hEM.out (by rw [← hl2]; exact e)
                    rw [← hl2] at this
                    rw [HD.out, show edMo c a (nm, sx, -1, (mn : Int), bo', di) = [(mn, a, byM c)] by simp [edMo]]; exact this)
                  have HF2 := Lib.hid (show t2 = false → ¬ ∃ k, AVal f c g k ∧ Agr f.1.length k o1 from fun e => HS1.out.bad HE.out hEM.out (by rw [← hl2]; exact e))
                  have HR34 := Lib.hid (And.intro hr1 hr2)
                  clear HS1 hEM hr1 hr2 HD HX
                  go_wp2_with fail
                  refine (linkS_any _ _ _ (byM c) p (HBM.out _ ?hb3) fp (Rep.keep hM.out ?hk3) HDB.out HPM.out (by have := HBL.out; omega) (by have := HPL.out; omega) mn a (by have := HPL.out; omega) (by have := HPL.out; omega) (by rw [HBL.out]; exact HR34.out.1) (by rw [HBL.out]; exact HR34.out.2)).mono ?_
                  case hb3 => exact (by repeat' (first | (with_reducible exact OffF.refl _ _) | (with_reducible assumption) | (with_reducible refine offF_drewN ?_ _) | (with_reducible refine OffF.drew ?_) | (with_reducible refine OffF.setCell ?_ (by simp) _) | (with_reducible refine OffF.alloc ?_ _)))
                  case hk3 => exact (fun b hb => by first | rfl | exact Below.heap_alloc _ _ b (Rep.lt hM.out b hb))
                  rw [← hl2]
                  rintro e w4 ⟨rfl, hm4, ho4⟩
                  have hM4 := Lib.hid hm4
                  have hoff4 : OffF fp w2 w4 := OffF.trans (by exact (by repeat' (first | (with_reducible exact OffF.refl _ _) | (with_reducible assumption) | (with_reducible refine offF_drewN ?_ _) | (with_reducible refine OffF.drew ?_) | (with_reducible refine OffF.setCell ?_ (by simp) _) | (with_reducible refine OffF.alloc ?_ _)))) ho4
                  clear hl2 hm4 ho4 hM hoff HR34 HPL
                  cases t2
                  · have HB2 := Lib.hid (HF2.out rfl)
                    clear HF2 HT2
                    go_wp2
                    go_ret
                    exact ⟨false, p2', rfl, hM4.out, hof0.trans hoff4, Lib.hid (fun h => by cases h), Lib.hid (fun _ => HB2.out)⟩
                  · have HN := Lib.hid (HT2.out rfl)
                    clear HT2 HF2
                    go_wp2
                    go_roundw
                    case rel => exact ⟨a + 1, p2', by omega, by go_num, hM4, HN, hoff4⟩
                    case measure => simp [intOf]; omega
              · obtain ⟨fn, rfl⟩ := Int.eq_ofNat_of_zero_le hfa0
                have hfn : fn < f.1.length := by omega
                have hEF := Lib.hid (show (fn, a, c.2) ∈ edges f c from mem_edges.2 (.inl ⟨_, HX.out, hfa0, rfl, rfl⟩))
                have hr1 := HS.out.inn.rng.2 fn hfn
                have hr2 := HS.out.inn.rng.2 a hla
                obtain ⟨⟨t1, p1'⟩, hl1⟩ : ∃ q : Bool × List Int, q = linkR p (fn, a, c.2) := ⟨_, rfl⟩
                have HT1 := Lib.hid (show t1 = true → Ar f c g o1 o' (edTo f c a ++ edFa c a (nm, sx, (fn : Int), mo, bo', di)) p1' from fun e => by
                  have := HS.out.step HE.out hEF.out (by rw [← hl1]; exact e)
                  rw [← hl1] at this
                  rw [show edFa c a (nm, sx, (fn : Int), mo, bo', di) = [(fn, a, c.2)] by simp [edFa]]; exact this)
                have HF1 := Lib.hid (show t1 = false → ¬ ∃ k, AVal f c g k ∧ Agr f.1.length k o1 from fun e => HS.out.bad HE.out hEF.out (by rw [← hl1]; exact e))
                have HR12 := Lib.hid (And.intro hr1 hr2)
                clear HS hEF hr1 hr2
                go_wp2_with fail
                refine (linkS_any _ _ _ c.2 p (hqz.out _ ?hb1) fp (Rep.keep hM.out ?hk1) HDI.out HP2.out c28 (by have := HPL.out; omega) fn a (by have := HPL.out; omega) (by have := HPL.out; omega) (by rw [HC.out]; exact HR12.out.1) (by rw [HC.out]; exact HR12.out.2)).mono ?_
                case hb1 => exact bwT
                case hk1 => exact (fun b hb => by first | rfl | exact Below.heap_alloc _ _ b (Rep.lt hM.out b hb))
                rw [← hl1]
                rintro e w3 ⟨rfl, hm3, ho3⟩
                have s3 := ho3.size
                simp only [World.size_alloc] at s3
                have q_f1 := offc ho3 hzw (.inr (Nat.le_refl _)) szT (oldc ((Below.refl _ _).alloc (Nat.le_refl _) _) (by omega) q_f1)
                have q_c0 := offc ho3 hzw (.inr (Nat.le_succ _)) szT (oldc ((Below.refl _ _).alloc (Nat.le_refl _) _) (by omega) q_c0)
                have q_c1 := offc ho3 hzw (.inr (Nat.le_succ _)) szT (oldc ((Below.refl _ _).alloc (Nat.le_refl _) _) (by omega) q_c1)
                have q_m3 : w3.cell? ⟨wc.heap.size, 3, none⟩ = some (.int .i64 mo) := offc ho3 hzw (.inr (by omega)) (by simp) (by simp [go_sem])
                have hM3 := Lib.hid hm3
                have hoff3 : OffF fp w2 w3 := OffF.trans (by exact (by repeat' (first | (with_reducible exact OffF.refl _ _) | (with_reducible assumption) | (with_reducible refine offF_drewN ?_ _) | (with_reducible refine OffF.drew ?_) | (with_reducible refine OffF.setCell ?_ (by simp) _) | (with_reducible refine OffF.alloc ?_ _)))) ho3
                have hbw3 : Below lm w w3 := hBW.trans (hoff3.toBelow (by omega) (fun b hb => (hzw b hb).1))
                have HPL1 := Lib.hid (show p1'.length = f.1.length by have := linkR_len p (fn, a, c.2); rw [← hl1] at this; exact this.trans HPL.out)
                clear hl1 hm3 ho3 hM hoff hbw HR12 HPL p0 p1 p2 p3 p4 p5
                cases t1
                · have HB1 := Lib.hid (HF1.out rfl)
                  clear HF1 HT1 HPL1 q_f1 q_c0 q_c1 q_m3
                  go_wp2
                  go_ret
                  exact ⟨false, p1', rfl, hM3.out, hof0.trans hoff3, Lib.hid (fun h => by cases h), Lib.hid (fun _ => HB1.out)⟩
                · have HS1 := Lib.hid (HT1.out rfl)
                  clear HT1 HF1
                  rcases hmo with rfl | ⟨hmo0, hmo1⟩
                  · have HN := Lib.hid (show Ar f c g o1 o' (edTo f c (a + 1)) p1' by rw [HD.out, show edMo c a (nm, sx, (fn : Int), -1, bo', di) = [] from rfl, List.append_nil]; exact HS1.out)
                    clear HS1 HD HX
                    go_wp2
                    go_roundw
                    case rel => exact ⟨a + 1, p1', by omega, by go_num, Lib.hid (Rep.keep hM3.out (fun _ _ => rfl)), HN, (by repeat' (first | (with_reducible exact OffF.refl _ _) | (with_reducible assumption) | (with_reducible refine offF_drewN ?_ _) | (with_reducible refine OffF.drew ?_) | (with_reducible refine OffF.setCell ?_ (by simp) _) | (with_reducible refine OffF.alloc ?_ _)))⟩
                    case measure => simp [intOf]; omega
                  · obtain ⟨mn, rfl⟩ := Int.eq_ofNat_of_zero_le hmo0
                    have hmn : mn < f.1.length := by omega
                    have hEM := Lib.hid (show (mn, a, byM c) ∈ edges f c from mem_edges.2 (.inr (.inl ⟨_, HX.out, hmo0, rfl, rfl⟩)))
                    have hr1 := HS1.out.inn.rng.2 mn hmn
                    have hr2 := HS1.out.inn.rng.2 a hla
                    obtain ⟨⟨t2, p2'⟩, hl2⟩ : ∃ q : Bool × List Int, q = linkR p1' (mn, a, byM c) := ⟨_, rfl⟩
                    have HT2 := Lib.hid (show t2 = true → Ar f c g o1 o' (edTo f c (a + 1)) p2' from fun e => by
                      have := HS1.out.step HE.out hEM.out (by rw [← hl2]; exact e)
                      rw [← hl2] at this
                      rw [HD.out, show edMo c a (nm, sx, (fn : Int), (mn : Int), bo', di) = [(mn, a, byM c)] by simp [edMo]]; exact this)
                    have HF2 := Lib.hid (show t2 = false → ¬ ∃ k, AVal f c g k ∧ Agr f.1.length k o1 from fun e => HS1.out.bad HE.out hEM.out (by rw [← hl2]; exact e))
                    have HR34 := Lib.hid (And.intro hr1 hr2)
                    clear HS1 hEM hr1 hr2 HD HX
                    go_wp2_with fail
                    refine (linkS_any _ _ _ (byM c) p1' (HBM.out _ ?hb4) fp (Rep.keep hM3.out ?hk4) HDB.out HPM.out (by have := HBL.out; omega) (by have := HPL1.out; omega) mn a (by have := HPL1.out; omega) (by have := HPL1.out; omega) (by rw [HBL.out]; exact HR34.out.1) (by rw [HBL.out]; exact HR34.out.2)).mono ?_
                    case hb4 => exact (by repeat' (first | (with_reducible exact OffF.refl _ _) | (with_reducible assumption) | (with_reducible refine offF_drewN ?_ _) | (with_reducible refine OffF.drew ?_) | (with_reducible refine OffF.setCell ?_ (by simp) _) | (with_reducible refine OffF.alloc ?_ _)))
                    case hk4 => exact (fun _ _ => rfl)
                    rw [← hl2]
                    rintro e w4 ⟨rfl, hm4, ho4⟩
                    have hM4 := Lib.hid hm4
                    have hoff4 : OffF fp w2 w4 := OffF.trans (by exact (by repeat' (first | (with_reducible exact OffF.refl _ _) | (with_reducible assumption) | (with_reducible refine offF_drewN ?_ _) | (with_reducible refine OffF.drew ?_) | (with_reducible refine OffF.setCell ?_ (by simp) _) | (with_reducible refine OffF.alloc ?_ _)))) ho4
                    clear hl2 hm4 ho4 hM3 hoff3 HR34 HPL1
                    cases t2
                    · have HB2 := Lib.hid (HF2.out rfl)
                      clear HF2 HT2
                      go_wp2
                      go_ret
                      exact ⟨false, p2', rfl, hM4.out, hof0.trans hoff4, Lib.hid (fun h => by cases h), Lib.hid (fun _ => HB2.out)⟩
                    · have HN := Lib.hid (HT2.out rfl)
                      clear HT2 HF2
                      go_wp2
                      go_roundw
                      case rel => exact ⟨a + 1, p2', by omega, by go_num, hM4, HN, hoff4⟩
                      case measure => simp [intOf]; omega
            · obtain rfl : a = f.1.length := by omega
              have nIa : ¬ (f.1.length : Int) < (f.1.length : Int) := by omega
              have HSU := Lib.hid (show Ar f c g o1 o' (edTo f c f.1.length ++ edU c (f.2.take 0)) p by simpa [edU] using HS.out)
              clear HS
              go_wp2
              go_loopw [12, 64] (fun _ s64 wr => ∃ (j : Nat) (p : List Int), j ≤ f.2.length ∧ s64 = .int .i64 j ∧ Hid (Rep.rep true wr [.slice ao3 f.1.length cap3] p fp) ∧ Hid (Ar f c g o1 o' (edTo f c f.1.length ++ edU c (f.2.take j)) p) ∧ OffF fp w2 wr) (fun _ s64 _ => f.2.length - (intOf s64).toNat)
              case atStart => exact ⟨0, p, Nat.zero_le _, rfl, hM, HSU, hoff⟩
              case round =>
                clear HSU hM hoff sR hbw q_f1 q_c0 q_c1 l_f l_c
                obtain ⟨wd, hwd⟩ : ∃ wm : World, wm = wr := ⟨_, rfl⟩
                subst hwd
                obtain ⟨j, p, hj1, rfl, hM, HS, hoff⟩ := hrel
                have sR := hoff.size
                have hbw : Below lm w wd := hBW.trans (hoff.toBelow (by omega) (fun b hb => (hzw b hb).1))
                have q_c0 := offc hoff hzw (.inr (Nat.le_succ _)) (by omega) qa_c0
                have l_f : w.heap.size < wd.heap.size := by omega
                have l_c : w.heap.size + 1 < wd.heap.size := by omega
                by_cases hlj : j < f.2.length
                · have hIj : (j : Int) < (f.2.length : Int) := by omega
                  have HPL := Lib.hid (show p.length = f.1.length from HS.out.inn.rng.1)
                  obtain ⟨ub, uoff, ma, wo, fr, tl, rfl, hu, p0, p1, p2, p3, -, -, -, -, -, -, ubl, -⟩ := (hbz.out _ hbw).uni_at hlj
                  obtain ⟨⟨um1, um2⟩, ⟨uw1, uw2⟩⟩ := HU.out j _ hu.out
                  dsimp only at um1 um2 uw1 uw2
                  obtain ⟨mi, rfl⟩ := Int.eq_ofNat_of_zero_le um1
                  obtain ⟨wi, rfl⟩ := Int.eq_ofNat_of_zero_le uw1
                  have hmi : mi < f.1.length := by omega
                  have hwi : wi < f.1.length := by omega
                  have hEF := Lib.hid (show (mi, wi, c.1) ∈ edges f c from mem_edges.2 (.inr (.inr ⟨_, List.mem_of_getElem? hu.out, by simp, by simp, rfl⟩)))
                  have hr1 := HS.out.inn.rng.2 mi hmi
                  have hr2 := HS.out.inn.rng.2 wi hwi
                  obtain ⟨⟨t1, p1'⟩, hl1⟩ : ∃ q : Bool × List Int, q = linkR p (mi, wi, c.1) := ⟨_, rfl⟩
                  have HT1 := Lib.hid (show t1 = true → Ar f c g o1 o' (edTo f c f.1.length ++ edU c (f.2.take (j + 1))) p1' from fun e => by
                    have := HS.out.step HE.out hEF.out (by rw [← hl1]; exact e)
                    rw [← hl1] at this
                    rw [edU_take hu.out, ← List.append_assoc]; simpa using this)
                  have HF1 := Lib.hid (show t1 = false → ¬ ∃ k, AVal f c g k ∧ Agr f.1.length k o1 from fun e => HS.out.bad HE.out hEF.out (by rw [← hl1]; exact e))
                  have HR12 := Lib.hid (And.intro hr1 hr2)
                  clear HS hEF hr1 hr2 hu
                  go_wp2_with fail
                  refine (linkS_any _ _ _ c.1 p (hwz.out _ ?hb2) fp (Rep.keep hM.out ?hk2) HDI.out HP1.out c8 (by have := HPL.out; omega) mi wi (by have := HPL.out; omega) (by have := HPL.out; omega) HR12.out.1 HR12.out.2).mono ?_
                  case hb2 => exact bwT
                  case hk2 => exact (fun b hb => by first | rfl | exact Below.heap_alloc _ _ b (Rep.lt hM.out b hb))
                  rw [← hl1]
                  rintro e w3 ⟨rfl, hm3, ho3⟩
                  have s3 := ho3.size
                  simp only [World.size_alloc] at s3
                  have hM3 := Lib.hid hm3
                  have hoff3 : OffF fp w2 w3 := OffF.trans (by exact (by repeat' (first | (with_reducible exact OffF.refl _ _) | (with_reducible assumption) | (with_reducible refine offF_drewN ?_ _) | (with_reducible refine OffF.drew ?_) | (with_reducible refine OffF.setCell ?_ (by simp) _) | (with_reducible refine OffF.alloc ?_ _)))) ho3
                  clear hl1 hm3 ho3 hM hoff hbw HR12 HPL p0 p1 p2 p3
                  cases t1
                  · have HB1 := Lib.hid (HF1.out rfl)
                    clear HF1 HT1
                    go_wp2
                    go_ret
                    exact ⟨false, p1', rfl, hM3.out, hof0.trans hoff3, Lib.hid (fun h => by cases h), Lib.hid (fun _ => HB1.out)⟩
                  · have HN := Lib.hid (HT1.out rfl)
                    clear HT1 HF1
                    go_wp2
                    go_roundw
                    case rel => exact ⟨j + 1, p1', by omega, by go_num, hM3, HN, hoff3⟩
                    case measure => simp [intOf]; omega
                · obtain rfl : j = f.2.length := by omega
                  have nIj : ¬ (f.2.length : Int) < (f.2.length : Int) := by omega
                  have HN := Lib.hid (Ar.round (show Ar f c g o1 o' (edges f c) p by have := HS.out; rw [List.take_length] at this; exact this) HH.out)
                  clear HS HH
                  go_wp2
                  go_roundw
                  case rel => exact ⟨r + 1, p, by omega, by go_num, hM, HN, hoff⟩
                  case measure => simp [intOf]; omega
        · have nIr : ¬ (r : Int) ≤ (f.1.length : Int) := by omega
          have HF := Lib.hid (And.intro HH.out.inn (HH.out.fixed (by omega)))
          clear HH
          go_wp2
          go_ret
          exact ⟨true, o', rfl, hM.out, hof0.trans hoff, Lib.hid (fun _ => HF.out), Lib.hid (fun h => by cases h)⟩
    exact AllReadyH.nil
  exact AllReadyH.nil
end Go.Proofs.Ytefbbbhidnnchaa
