/- Contracts of l1Elder, l1Full, l1Other and l3Leads (reference). Written by lds_gen.py. -/
import Derived.Test.YtcbhdmmohdnjbaaGreatLedM
import Derived.Test.YtcbhdmmohdnjbaaGreatFamM
import Derived.Test.YtcbhdmmohdnjbaaGreatTypS
namespace Go.Proofs.YtcbhdmmohdnjbaaGreat
set_option linter.unusedVariables false
set_option linter.unusedSimpArgs false
open Go.RowKit
set_option maxHeartbeats 100000000
section
variable {z : Bool} {lo hi : Nat} (w : World) (v v2 : Value) (ps : List Per) (h : Rd z lo hi w [v] ps) (a b : Nat) {x y : Per} (hx : ps[a]? = some x) (hy : ps[b]? = some y) (r : Bool)
include h hx hy
theorem elderS_b (hr : r = eldB x y a b) : Calls Tryz.prog 159 #[.agg #[v, v2], .int .i64 a, .int .i64 b] w (PostB w r) := by
 obtain ⟨ao, n, cap, rfl, hn, -⟩ := h.shape
 subst hn
 have ha := (List.getElem?_eq_some_iff.1 hx).1
 have hb := (List.getElem?_eq_some_iff.1 hy).1
 obtain ⟨B, O, nm, sx, fa, mo, bo, di, rfl, hX, x0, x1, x2, x3, x4, x5, -, -, -, -, -, -, -, -, hbl, -⟩ := h.per_at ha
 obtain rfl := Option.some.inj (hX.out.symm.trans hx)
 obtain ⟨_, _, nm', sx', fa', mo', bo', di', e, hY, y0, y1, y2, y3, y4, y5, -⟩ := h.per_at hb
 simp only [Option.some.injEq, Addr.mk.injEq, and_true] at e
 obtain ⟨rfl, rfl⟩ := e
 obtain rfl := Option.some.inj (hY.out.symm.trans hy)
 have haI : (a : Int) < (ps.length : Int) := by omega
 have hbI : (b : Int) < (ps.length : Int) := by omega
 have HR := Hd hr
 clear h hx hy hX hY x0 x1 x2 x3 x5 y0 y1 y2 y3 y5 hr
 go_enter Tryz.func159, Tryz.ntmps159
 by_cases h1 : bo < bo'
 ·have HT := Hd (show r = true by rw [HR.out]; exact decide_eq_true (.inl h1))
  go_wp2
  go_ret
  exact ⟨ret_bool HT.out.symm, bwT⟩
 ·by_cases h2 : bo = bo'
  ·by_cases h3 : a < b
   ·have HT := Hd (show r = true by rw [HR.out]; exact decide_eq_true (.inr ⟨h2, by omega⟩))
    have h3I : (a : Int) < (b : Int) := by omega
    subst h2
    go_wp2
    go_ret
    exact ⟨ret_bool HT.out.symm, bwT⟩
   ·have HT := Hd (show r = false by rw [HR.out]; exact decide_eq_false (fun h => by rcases h with h | h <;> simp at h <;> omega))
    have h3I : ¬ (a : Int) < (b : Int) := by omega
    subst h2
    go_wp2
    go_ret
    exact ⟨ret_bool HT.out.symm, bwT⟩
  ·have HT := Hd (show r = false by rw [HR.out]; exact decide_eq_false (fun h => by rcases h with h | h <;> simp at h <;> omega))
   have h3 : (bo == bo') = false := by simpa using h2
   clear h2
   go_wp2
   go_ret
   exact ⟨ret_bool HT.out.symm, bwT⟩
theorem fullS_b (hr : r = fullB x y a b) : Calls Tryz.prog 160 #[.agg #[v, v2], .int .i64 a, .int .i64 b] w (PostB w r) := by
 obtain ⟨ao, n, cap, rfl, hn, -⟩ := h.shape
 subst hn
 have ha := (List.getElem?_eq_some_iff.1 hx).1
 have hb := (List.getElem?_eq_some_iff.1 hy).1
 obtain ⟨B, O, nm, sx, fa, mo, bo, di, rfl, hX, x0, x1, x2, x3, x4, x5, -, -, -, -, -, -, -, -, hbl, -⟩ := h.per_at ha
 obtain rfl := Option.some.inj (hX.out.symm.trans hx)
 obtain ⟨_, _, nm', sx', fa', mo', bo', di', e, hY, y0, y1, y2, y3, y4, y5, -⟩ := h.per_at hb
 simp only [Option.some.injEq, Addr.mk.injEq, and_true] at e
 obtain ⟨rfl, rfl⟩ := e
 obtain rfl := Option.some.inj (hY.out.symm.trans hy)
 have haI : (a : Int) < (ps.length : Int) := by omega
 have hbI : (b : Int) < (ps.length : Int) := by omega
 have k0 : ¬ B = w.heap.size := by omega
 have k1 : ¬ w.heap.size = B := by omega
 have k2 : ¬ B = w.heap.size + 1 := by omega
 have k3 : ¬ w.heap.size + 1 = B := by omega
 have k4 : ¬ B = w.heap.size + 1 + 1 := by omega
 have k5 : ¬ w.heap.size + 1 + 1 = B := by omega
 have k8 : ¬ B = w.heap.size + 1 + 1 + 1 := by omega
 have k9 : ¬ w.heap.size + 1 + 1 + 1 = B := by omega
 have k6 : B < w.heap.size + 1 := by omega
 have k7 : B < w.heap.size + 1 + 1 := by omega
 have ka : B < w.heap.size + 1 + 1 + 1 := by omega
 have HR := Hd (show r = (decide ((a : Int) ≠ b) && (decide (0 ≤ fa) && (decide (0 ≤ mo) && (decide (fa = fa') && decide (mo = mo'))))) from hr)
 clear h hx hy hX hY hr
 go_enter Tryz.func160, Tryz.ntmps160
 by_cases h0 : (a : Int) = (b : Int)
 ·have HT := Hd (show r = false by rw [HR.out]; simp [h0])
  have e0 : ((a : Int) != (b : Int)) = false := by simpa using h0
  clear h0
  go_wp2
  go_ret
  exact ⟨ret_bool HT.out.symm, bwT⟩
 have e0 : ((a : Int) != (b : Int)) = true := by simpa using h0
 by_cases h1 : 0 ≤ fa
 rotate_left
 ·have HT := Hd (show r = false by rw [HR.out]; simp [h1])
  go_wp2
  go_ret
  exact ⟨ret_bool HT.out.symm, bwT⟩
 by_cases h2 : 0 ≤ mo
 rotate_left
 ·have HT := Hd (show r = false by rw [HR.out]; simp [h2])
  go_wp2
  go_ret
  exact ⟨ret_bool HT.out.symm, bwT⟩
 by_cases h3 : fa = fa'
 rotate_left
 ·have HT := Hd (show r = false by rw [HR.out]; simp [h3])
  have e3 : (fa == fa') = false := by simpa using h3
  clear h3
  go_wp2
  go_ret
  exact ⟨ret_bool HT.out.symm, bwT⟩
 by_cases h4 : mo = mo'
 rotate_left
 ·have HT := Hd (show r = false by rw [HR.out]; simp [h4])
  have e4 : (mo == mo') = false := by simpa using h4
  have e3 : (fa == fa') = true := by simpa using h3
  clear h4 h3
  go_wp2
  go_ret
  exact ⟨ret_bool HT.out.symm, bwT⟩
 have HT := Hd (show r = true by rw [HR.out]; simp [h0, h1, h2, h3, h4]; omega)
 have e3 : (fa == fa') = true := by simpa using h3
 have e4 : (mo == mo') = true := by simpa using h4
 clear h3 h4 h0
 go_wp2
 go_ret
 exact ⟨ret_bool HT.out.symm, bwT⟩
end
theorem otherS_b (w : World) (ma wo fr tl p : Int) (q : Int) (s : Bool) (hq : q = if ma = p then wo else ma) (hs : s = (decide (ma = p) || decide (wo = p))) :
  Calls Tryz.prog 158 #[.agg #[.int .i64 ma, .int .i64 wo, .int .i64 fr, .int .i64 tl], .int .i64 p] w (fun e w' => e = .returned (.tuple #[.int .i64 q, .bool s]) ∧ Below w.heap.size w w') := by
 by_cases h1 : ma = p
 ·have e1 : (ma == p) = true := by simpa using h1
  obtain rfl : q = wo := by rw [hq, if_pos h1]
  obtain rfl : s = true := by rw [hs, decide_eq_true h1]; rfl
  clear hq hs h1
  go_enter Tryz.func158, Tryz.ntmps158
  go_wp2
  exact bodyPost_ret (v := .tuple #[.int .i64 q, .bool true]) (by simp [results, go_sem]) rfl ⟨rfl, bwT⟩
 ·have e1 : (ma == p) = false := by simpa using h1
  obtain rfl : q = ma := by rw [hq, if_neg h1]
  have e2 : (wo == p) = s := by rw [hs, decide_eq_false h1]; by_cases h : wo = p <;> simp [h]
  clear hq hs h1
  go_enter Tryz.func158, Tryz.ntmps158
  go_upto_region 3 with fail
  go_region_held3 (fun w' => w'.cell? ⟨w.heap.size, 0, none⟩ = some (.int .i64 q) ∧ w'.cell? ⟨w.heap.size, 1, none⟩ = some (.int .i64 wo)) (go_keep) (fail)
  go_wp2
  exact bodyPost_ret (v := .tuple #[.int .i64 q, .bool s]) (by simp [results, go_sem]) rfl ⟨rfl, bwT⟩
section
variable {z : Bool} {lo hi : Nat} (W : World) (ao ub0 : Option Addr) (cap dap : Nat) (f : Fam) (h : Rd z lo hi W [.slice ao f.1.length cap, .slice ub0 f.2.length dap] f) (k g : Int) (a b : Nat) (ha : a < f.1.length) (hb : b < f.1.length) (h40 : f.1.length ≤ 40) (h60 : f.2.length ≤ 60) (r : Bool)
include h ha hb h40 h60
set_option maxRecDepth 20000 in
theorem leadsS1_b (hk : k = 1) (hg : g = 0 ∨ g = 1 ∨ g = 2) {x y : Per} (hx : f.1[a]? = some x) (hy : f.1[b]? = some y) (hr : r = ledT f.2 k g a b x y) : Calls Tryz.prog 119 #[.agg #[.slice ao f.1.length cap, .slice ub0 f.2.length dap], .agg #[.int .i64 k, .int .i64 g], .int .i64 a, .int .i64 b] W (PostB W r) := by
 have h40c : f.1.length ≤ 40 := h40
 have h60c : f.2.length ≤ 60 := h60
 clear h40c
 subst hk
 have hF := h.fam.1
 have HUN := Hd h.fam.2
 obtain ⟨B, O, nm, sx, fa, mo, bo, di, e1, hX, x0, x1, x2, x3, x4, x5, -, -, -, -, -, -, -, -, hbl, -⟩ := hF.per_at ha
 subst e1
 obtain rfl := Option.some.inj (hX.out.symm.trans hx)
 obtain ⟨_, _, nm', sx', fa', mo', bo', di', e, hY, y0, y1, y2, y3, y4, y5, -⟩ := hF.per_at hb
 simp only [Option.some.injEq, Addr.mk.injEq, and_true] at e
 obtain ⟨rfl, rfl⟩ := e
 obtain rfl := Option.some.inj (hY.out.symm.trans hy)
 have haI : (a : Int) < (f.1.length : Int) := by omega
 have hbI : (b : Int) < (f.1.length : Int) := by omega
 have HX := Hd hx
 have HY := Hd hy
 have HF := Hd hF
 obtain ⟨ss, hss⟩ : ∃ s, s = decide (sx' = stSex 1) := ⟨_, rfl⟩
 have HSS := Hd hss
 obtain ⟨nn, hnn⟩ : ∃ n, n = !ss := ⟨_, rfl⟩
 have HNN := Hd hnn
 have hse : (sx' != stSex 1) = nn := by rw [hnn, hss]; by_cases h : sx' = stSex 1 <;> simp [h]
 clear hnn
 have HR := Hd hr
 have k0 : ¬ B = W.heap.size := by omega
 have k1 : ¬ W.heap.size = B := by omega
 have k2 : ¬ B = W.heap.size + 1 := by omega
 have k3 : ¬ W.heap.size + 1 = B := by omega
 have k4 : ¬ B = W.heap.size + 1 + 1 := by omega
 have k5 : ¬ W.heap.size + 1 + 1 = B := by omega
 have k8 : ¬ B = W.heap.size + 1 + 1 + 1 := by omega
 have k9 : ¬ W.heap.size + 1 + 1 + 1 = B := by omega
 have k6 : B < W.heap.size + 1 := by omega
 have k7 : B < W.heap.size + 1 + 1 := by omega
 have ka : B < W.heap.size + 1 + 1 + 1 := by omega
 clear hr hX hY hF h hss hx hy
 obtain ⟨W4, hW4⟩ : ∃ W4 : World, W4 = (((W.alloc (.cells #[.slice (some ⟨B, O, none⟩) f.1.length cap, .slice ub0 f.2.length dap] 37)).alloc (.cells #[.int .i64 1, .int .i64 g] 126)).alloc (.cells #[.string nm, .int .i64 sx, .int .i64 fa, .int .i64 mo, .int .i64 bo, .int .i64 di] 100)).alloc (.cells #[.string nm', .int .i64 sx', .int .i64 fa', .int .i64 mo', .int .i64 bo', .int .i64 di'] 100) := ⟨_, rfl⟩
 have f0 : W4.cell? ⟨W.heap.size, 0, none⟩ = some (.slice (some ⟨B, O, none⟩) f.1.length cap) := by rw [hW4]; simp [go_sem]
 have f1 : W4.cell? ⟨W.heap.size, 1, none⟩ = some (.slice ub0 f.2.length dap) := by rw [hW4]; simp [go_sem]
 have s0 : W4.cell? ⟨W.heap.size + 1, 0, none⟩ = some (.int .i64 1) := by rw [hW4]; simp [go_sem]
 have s1 : W4.cell? ⟨W.heap.size + 1, 1, none⟩ = some (.int .i64 g) := by rw [hW4]; simp [go_sem]
 have a2 : W4.cell? ⟨W.heap.size + 1 + 1, 2, none⟩ = some (.int .i64 fa) := by rw [hW4]; simp [go_sem]
 have a3 : W4.cell? ⟨W.heap.size + 1 + 1, 3, none⟩ = some (.int .i64 mo) := by rw [hW4]; simp [go_sem]
 have b1 : W4.cell? ⟨W.heap.size + 1 + 1 + 1, 1, none⟩ = some (.int .i64 sx') := by rw [hW4]; simp [go_sem]
 have b2 : W4.cell? ⟨W.heap.size + 1 + 1 + 1, 2, none⟩ = some (.int .i64 fa') := by rw [hW4]; simp [go_sem]
 have b3 : W4.cell? ⟨W.heap.size + 1 + 1 + 1, 3, none⟩ = some (.int .i64 mo') := by rw [hW4]; simp [go_sem]
 have hB4 : Below W.heap.size W W4 := by rw [hW4]; exact bwT
 have l4 : W.heap.size + 1 + 1 + 1 < W4.heap.size := by rw [hW4]; simp
 go_enter Tryz.func119, Tryz.ntmps119
 go_upto_region 3 with fail
 rw [← hW4]
 clear hW4
 refine wp_region_held_drew (S := (fun w' => w'.cell? ⟨W.heap.size + 1 + 1 + 1, 1, none⟩ = some (.int .i64 sx') ∧ w'.cell? ⟨W.heap.size + 1, 0, none⟩ = some (.int .i64 1))) krT ?_ (fun hHeld => ?_)
 ·exact kpT
 refine tkA 0 ?_
 try simp only [cD]
 refine tkA 2 ?_
 try simp only [cD]
 refine tkA 1 ?_
 try simp only [cD]
 refine tkA 3 ?_
 try simp only [cD]
 refine rd1 4 fun K hK => ?_
 go_simp
 refine (stepSexS_any _ 1 omT).mono ?_
 rintro e1 w1 ⟨rfl, hb1⟩
 have hp4 : Below W4.heap.size W4 w1 := Below.trans (show Below W4.heap.size W4 _ from bwT) (hb1.mono szT)
 have f0 := oldc hp4 omT f0
 have f1 := oldc hp4 omT f1
 have s0 := oldc hp4 omT s0
 have s1 := oldc hp4 omT s1
 have a2 := oldc hp4 omT a2
 have a3 := oldc hp4 omT a3
 have b1 := oldc hp4 omT b1
 have b2 := oldc hp4 omT b2
 have b3 := oldc hp4 omT b3
 have hp1 : Below W.heap.size W w1 := hB4.trans (hp4.mono hB4.size)
 have l1 : W.heap.size + 1 + 1 + 1 < w1.heap.size := by have := hp4.size; omega
 have hS1 := aI b1 s0
 clear hb1 hp4
 refine hK.out _ _ kpT fun hHeld => ?_
 clear hK K
 try simp only [cD]
 refine tkA 5 ?_
 try simp only [cD]
 refine wdT ?_
 clear hHeld
 have HF1 := Hd (HF.out.below hp1)
 have HU1 := Hd (HUN.out.below hp1)
 clear HF HUN x0 x1 x2 x3 x4 x5 y0 y1 y2 y3 y4 y5 k0 k1 k2 k3 k4 k5 k6 k7 k8 k9 ka hbl
 cases ss
 ·obtain rfl : nn = true := HNN.out
  have HZ := Hd (show r = false by rw [HR.out]; unfold ledT; rw [show decide (sx' = stSex 1) = false from HSS.out.symm]; rfl)
  clear HR
  go_wp2
  go_ret
  exact ⟨ret_bool HZ.out.symm, hp1⟩
 obtain rfl : nn = false := HNN.out
 have HT := Hd (show r = (decide (fa = (b : Int))) by rw [HR.out]; unfold ledT; rw [show decide (sx' = stSex 1) = true from HSS.out.symm]; rfl)
 clear HR HSS
 have ep : (fa == (b : Int)) = r := by rw [HT.out]; by_cases h : fa = (b : Int) <;> simp [h]
 go_wp2
 go_ret
 exact ⟨ret_bool rfl, hp1⟩
set_option maxRecDepth 20000 in
theorem leadsS2_b (hk : k = 2) (hg : g = 0 ∨ g = 1 ∨ g = 2) {x y : Per} (hx : f.1[a]? = some x) (hy : f.1[b]? = some y) (hr : r = ledT f.2 k g a b x y) : Calls Tryz.prog 119 #[.agg #[.slice ao f.1.length cap, .slice ub0 f.2.length dap], .agg #[.int .i64 k, .int .i64 g], .int .i64 a, .int .i64 b] W (PostB W r) := by
 have h40c : f.1.length ≤ 40 := h40
 have h60c : f.2.length ≤ 60 := h60
 clear h40c
 subst hk
 have hF := h.fam.1
 have HUN := Hd h.fam.2
 obtain ⟨B, O, nm, sx, fa, mo, bo, di, e1, hX, x0, x1, x2, x3, x4, x5, -, -, -, -, -, -, -, -, hbl, -⟩ := hF.per_at ha
 subst e1
 obtain rfl := Option.some.inj (hX.out.symm.trans hx)
 obtain ⟨_, _, nm', sx', fa', mo', bo', di', e, hY, y0, y1, y2, y3, y4, y5, -⟩ := hF.per_at hb
 simp only [Option.some.injEq, Addr.mk.injEq, and_true] at e
 obtain ⟨rfl, rfl⟩ := e
 obtain rfl := Option.some.inj (hY.out.symm.trans hy)
 have haI : (a : Int) < (f.1.length : Int) := by omega
 have hbI : (b : Int) < (f.1.length : Int) := by omega
 have HX := Hd hx
 have HY := Hd hy
 have HF := Hd hF
 obtain ⟨ss, hss⟩ : ∃ s, s = decide (sx' = stSex 2) := ⟨_, rfl⟩
 have HSS := Hd hss
 obtain ⟨nn, hnn⟩ : ∃ n, n = !ss := ⟨_, rfl⟩
 have HNN := Hd hnn
 have hse : (sx' != stSex 2) = nn := by rw [hnn, hss]; by_cases h : sx' = stSex 2 <;> simp [h]
 clear hnn
 have HR := Hd hr
 have k0 : ¬ B = W.heap.size := by omega
 have k1 : ¬ W.heap.size = B := by omega
 have k2 : ¬ B = W.heap.size + 1 := by omega
 have k3 : ¬ W.heap.size + 1 = B := by omega
 have k4 : ¬ B = W.heap.size + 1 + 1 := by omega
 have k5 : ¬ W.heap.size + 1 + 1 = B := by omega
 have k8 : ¬ B = W.heap.size + 1 + 1 + 1 := by omega
 have k9 : ¬ W.heap.size + 1 + 1 + 1 = B := by omega
 have k6 : B < W.heap.size + 1 := by omega
 have k7 : B < W.heap.size + 1 + 1 := by omega
 have ka : B < W.heap.size + 1 + 1 + 1 := by omega
 clear hr hX hY hF h hss hx hy
 obtain ⟨W4, hW4⟩ : ∃ W4 : World, W4 = (((W.alloc (.cells #[.slice (some ⟨B, O, none⟩) f.1.length cap, .slice ub0 f.2.length dap] 37)).alloc (.cells #[.int .i64 2, .int .i64 g] 126)).alloc (.cells #[.string nm, .int .i64 sx, .int .i64 fa, .int .i64 mo, .int .i64 bo, .int .i64 di] 100)).alloc (.cells #[.string nm', .int .i64 sx', .int .i64 fa', .int .i64 mo', .int .i64 bo', .int .i64 di'] 100) := ⟨_, rfl⟩
 have f0 : W4.cell? ⟨W.heap.size, 0, none⟩ = some (.slice (some ⟨B, O, none⟩) f.1.length cap) := by rw [hW4]; simp [go_sem]
 have f1 : W4.cell? ⟨W.heap.size, 1, none⟩ = some (.slice ub0 f.2.length dap) := by rw [hW4]; simp [go_sem]
 have s0 : W4.cell? ⟨W.heap.size + 1, 0, none⟩ = some (.int .i64 2) := by rw [hW4]; simp [go_sem]
 have s1 : W4.cell? ⟨W.heap.size + 1, 1, none⟩ = some (.int .i64 g) := by rw [hW4]; simp [go_sem]
 have a2 : W4.cell? ⟨W.heap.size + 1 + 1, 2, none⟩ = some (.int .i64 fa) := by rw [hW4]; simp [go_sem]
 have a3 : W4.cell? ⟨W.heap.size + 1 + 1, 3, none⟩ = some (.int .i64 mo) := by rw [hW4]; simp [go_sem]
 have b1 : W4.cell? ⟨W.heap.size + 1 + 1 + 1, 1, none⟩ = some (.int .i64 sx') := by rw [hW4]; simp [go_sem]
 have b2 : W4.cell? ⟨W.heap.size + 1 + 1 + 1, 2, none⟩ = some (.int .i64 fa') := by rw [hW4]; simp [go_sem]
 have b3 : W4.cell? ⟨W.heap.size + 1 + 1 + 1, 3, none⟩ = some (.int .i64 mo') := by rw [hW4]; simp [go_sem]
 have hB4 : Below W.heap.size W W4 := by rw [hW4]; exact bwT
 have l4 : W.heap.size + 1 + 1 + 1 < W4.heap.size := by rw [hW4]; simp
 go_enter Tryz.func119, Tryz.ntmps119
 go_upto_region 3 with fail
 rw [← hW4]
 clear hW4
 refine wp_region_held_drew (S := (fun w' => w'.cell? ⟨W.heap.size + 1 + 1 + 1, 1, none⟩ = some (.int .i64 sx') ∧ w'.cell? ⟨W.heap.size + 1, 0, none⟩ = some (.int .i64 2))) krT ?_ (fun hHeld => ?_)
 ·exact kpT
 refine tkA 0 ?_
 try simp only [cD]
 refine tkA 2 ?_
 try simp only [cD]
 refine tkA 1 ?_
 try simp only [cD]
 refine tkA 3 ?_
 try simp only [cD]
 refine rd1 4 fun K hK => ?_
 go_simp
 refine (stepSexS_any _ 2 omT).mono ?_
 rintro e1 w1 ⟨rfl, hb1⟩
 have hp4 : Below W4.heap.size W4 w1 := Below.trans (show Below W4.heap.size W4 _ from bwT) (hb1.mono szT)
 have f0 := oldc hp4 omT f0
 have f1 := oldc hp4 omT f1
 have s0 := oldc hp4 omT s0
 have s1 := oldc hp4 omT s1
 have a2 := oldc hp4 omT a2
 have a3 := oldc hp4 omT a3
 have b1 := oldc hp4 omT b1
 have b2 := oldc hp4 omT b2
 have b3 := oldc hp4 omT b3
 have hp1 : Below W.heap.size W w1 := hB4.trans (hp4.mono hB4.size)
 have l1 : W.heap.size + 1 + 1 + 1 < w1.heap.size := by have := hp4.size; omega
 have hS1 := aI b1 s0
 clear hb1 hp4
 refine hK.out _ _ kpT fun hHeld => ?_
 clear hK K
 try simp only [cD]
 refine tkA 5 ?_
 try simp only [cD]
 refine wdT ?_
 clear hHeld
 have HF1 := Hd (HF.out.below hp1)
 have HU1 := Hd (HUN.out.below hp1)
 clear HF HUN x0 x1 x2 x3 x4 x5 y0 y1 y2 y3 y4 y5 k0 k1 k2 k3 k4 k5 k6 k7 k8 k9 ka hbl
 cases ss
 ·obtain rfl : nn = true := HNN.out
  have HZ := Hd (show r = false by rw [HR.out]; unfold ledT; rw [show decide (sx' = stSex 2) = false from HSS.out.symm]; rfl)
  clear HR
  go_wp2
  go_ret
  exact ⟨ret_bool HZ.out.symm, hp1⟩
 obtain rfl : nn = false := HNN.out
 have HT := Hd (show r = (decide (mo = (b : Int))) by rw [HR.out]; unfold ledT; rw [show decide (sx' = stSex 2) = true from HSS.out.symm]; rfl)
 clear HR HSS
 have ep : (mo == (b : Int)) = r := by rw [HT.out]; by_cases h : mo = (b : Int) <;> simp [h]
 go_wp2
 go_ret
 exact ⟨ret_bool rfl, hp1⟩
set_option maxRecDepth 20000 in
theorem leadsS3_b (hk : k = 3) (hg : g = 0 ∨ g = 1 ∨ g = 2) {x y : Per} (hx : f.1[a]? = some x) (hy : f.1[b]? = some y) (hr : r = ledT f.2 k g a b x y) : Calls Tryz.prog 119 #[.agg #[.slice ao f.1.length cap, .slice ub0 f.2.length dap], .agg #[.int .i64 k, .int .i64 g], .int .i64 a, .int .i64 b] W (PostB W r) := by
 have h40c : f.1.length ≤ 40 := h40
 have h60c : f.2.length ≤ 60 := h60
 clear h40c
 subst hk
 have hF := h.fam.1
 have HUN := Hd h.fam.2
 obtain ⟨B, O, nm, sx, fa, mo, bo, di, e1, hX, x0, x1, x2, x3, x4, x5, -, -, -, -, -, -, -, -, hbl, -⟩ := hF.per_at ha
 subst e1
 obtain rfl := Option.some.inj (hX.out.symm.trans hx)
 obtain ⟨_, _, nm', sx', fa', mo', bo', di', e, hY, y0, y1, y2, y3, y4, y5, -⟩ := hF.per_at hb
 simp only [Option.some.injEq, Addr.mk.injEq, and_true] at e
 obtain ⟨rfl, rfl⟩ := e
 obtain rfl := Option.some.inj (hY.out.symm.trans hy)
 have haI : (a : Int) < (f.1.length : Int) := by omega
 have hbI : (b : Int) < (f.1.length : Int) := by omega
 have HX := Hd hx
 have HY := Hd hy
 have HF := Hd hF
 obtain ⟨ss, hss⟩ : ∃ s, s = decide (sx' = stSex 3) := ⟨_, rfl⟩
 have HSS := Hd hss
 obtain ⟨nn, hnn⟩ : ∃ n, n = !ss := ⟨_, rfl⟩
 have HNN := Hd hnn
 have hse : (sx' != stSex 3) = nn := by rw [hnn, hss]; by_cases h : sx' = stSex 3 <;> simp [h]
 clear hnn
 have HR := Hd hr
 have k0 : ¬ B = W.heap.size := by omega
 have k1 : ¬ W.heap.size = B := by omega
 have k2 : ¬ B = W.heap.size + 1 := by omega
 have k3 : ¬ W.heap.size + 1 = B := by omega
 have k4 : ¬ B = W.heap.size + 1 + 1 := by omega
 have k5 : ¬ W.heap.size + 1 + 1 = B := by omega
 have k8 : ¬ B = W.heap.size + 1 + 1 + 1 := by omega
 have k9 : ¬ W.heap.size + 1 + 1 + 1 = B := by omega
 have k6 : B < W.heap.size + 1 := by omega
 have k7 : B < W.heap.size + 1 + 1 := by omega
 have ka : B < W.heap.size + 1 + 1 + 1 := by omega
 clear hr hX hY hF h hss hx hy
 obtain ⟨W4, hW4⟩ : ∃ W4 : World, W4 = (((W.alloc (.cells #[.slice (some ⟨B, O, none⟩) f.1.length cap, .slice ub0 f.2.length dap] 37)).alloc (.cells #[.int .i64 3, .int .i64 g] 126)).alloc (.cells #[.string nm, .int .i64 sx, .int .i64 fa, .int .i64 mo, .int .i64 bo, .int .i64 di] 100)).alloc (.cells #[.string nm', .int .i64 sx', .int .i64 fa', .int .i64 mo', .int .i64 bo', .int .i64 di'] 100) := ⟨_, rfl⟩
 have f0 : W4.cell? ⟨W.heap.size, 0, none⟩ = some (.slice (some ⟨B, O, none⟩) f.1.length cap) := by rw [hW4]; simp [go_sem]
 have f1 : W4.cell? ⟨W.heap.size, 1, none⟩ = some (.slice ub0 f.2.length dap) := by rw [hW4]; simp [go_sem]
 have s0 : W4.cell? ⟨W.heap.size + 1, 0, none⟩ = some (.int .i64 3) := by rw [hW4]; simp [go_sem]
 have s1 : W4.cell? ⟨W.heap.size + 1, 1, none⟩ = some (.int .i64 g) := by rw [hW4]; simp [go_sem]
 have a2 : W4.cell? ⟨W.heap.size + 1 + 1, 2, none⟩ = some (.int .i64 fa) := by rw [hW4]; simp [go_sem]
 have a3 : W4.cell? ⟨W.heap.size + 1 + 1, 3, none⟩ = some (.int .i64 mo) := by rw [hW4]; simp [go_sem]
 have b1 : W4.cell? ⟨W.heap.size + 1 + 1 + 1, 1, none⟩ = some (.int .i64 sx') := by rw [hW4]; simp [go_sem]
 have b2 : W4.cell? ⟨W.heap.size + 1 + 1 + 1, 2, none⟩ = some (.int .i64 fa') := by rw [hW4]; simp [go_sem]
 have b3 : W4.cell? ⟨W.heap.size + 1 + 1 + 1, 3, none⟩ = some (.int .i64 mo') := by rw [hW4]; simp [go_sem]
 have hB4 : Below W.heap.size W W4 := by rw [hW4]; exact bwT
 have l4 : W.heap.size + 1 + 1 + 1 < W4.heap.size := by rw [hW4]; simp
 go_enter Tryz.func119, Tryz.ntmps119
 go_upto_region 3 with fail
 rw [← hW4]
 clear hW4
 refine wp_region_held_drew (S := (fun w' => w'.cell? ⟨W.heap.size + 1 + 1 + 1, 1, none⟩ = some (.int .i64 sx') ∧ w'.cell? ⟨W.heap.size + 1, 0, none⟩ = some (.int .i64 3))) krT ?_ (fun hHeld => ?_)
 ·exact kpT
 refine tkA 0 ?_
 try simp only [cD]
 refine tkA 2 ?_
 try simp only [cD]
 refine tkA 1 ?_
 try simp only [cD]
 refine tkA 3 ?_
 try simp only [cD]
 refine rd1 4 fun K hK => ?_
 go_simp
 refine (stepSexS_any _ 3 omT).mono ?_
 rintro e1 w1 ⟨rfl, hb1⟩
 have hp4 : Below W4.heap.size W4 w1 := Below.trans (show Below W4.heap.size W4 _ from bwT) (hb1.mono szT)
 have f0 := oldc hp4 omT f0
 have f1 := oldc hp4 omT f1
 have s0 := oldc hp4 omT s0
 have s1 := oldc hp4 omT s1
 have a2 := oldc hp4 omT a2
 have a3 := oldc hp4 omT a3
 have b1 := oldc hp4 omT b1
 have b2 := oldc hp4 omT b2
 have b3 := oldc hp4 omT b3
 have hp1 : Below W.heap.size W w1 := hB4.trans (hp4.mono hB4.size)
 have l1 : W.heap.size + 1 + 1 + 1 < w1.heap.size := by have := hp4.size; omega
 have hS1 := aI b1 s0
 clear hb1 hp4
 refine hK.out _ _ kpT fun hHeld => ?_
 clear hK K
 try simp only [cD]
 refine tkA 5 ?_
 try simp only [cD]
 refine wdT ?_
 clear hHeld
 have HF1 := Hd (HF.out.below hp1)
 have HU1 := Hd (HUN.out.below hp1)
 clear HF HUN x0 x1 x2 x3 x4 x5 y0 y1 y2 y3 y4 y5 k0 k1 k2 k3 k4 k5 k6 k7 k8 k9 ka hbl
 cases ss
 ·obtain rfl : nn = true := HNN.out
  have HZ := Hd (show r = false by rw [HR.out]; unfold ledT; rw [show decide (sx' = stSex 3) = false from HSS.out.symm]; rfl)
  clear HR
  go_wp2
  go_ret
  exact ⟨ret_bool HZ.out.symm, hp1⟩
 obtain rfl : nn = false := HNN.out
 have HT := Hd (show r = (((decide (g ≠ 1) || eldB (nm', sx', fa', mo', bo', di') (nm, sx, fa, mo, bo, di) b a) && (decide (g ≠ 2) || eldB (nm, sx, fa, mo, bo, di) (nm', sx', fa', mo', bo', di') a b)) && fullB (nm, sx, fa, mo, bo, di) (nm', sx', fa', mo', bo', di') a b) by rw [HR.out]; unfold ledT; rw [show decide (sx' = stSex 3) = true from HSS.out.symm]; rfl)
 clear HR HSS
 obtain ⟨p, hp⟩ : ∃ q, q = eldB (nm', sx', fa', mo', bo', di') (nm, sx, fa, mo, bo, di) b a := ⟨_, rfl⟩
 obtain ⟨q, hq⟩ : ∃ q, q = eldB (nm, sx, fa, mo, bo, di) (nm', sx', fa', mo', bo', di') a b := ⟨_, rfl⟩
 obtain ⟨fu, hfu⟩ : ∃ q, q = fullB (nm, sx, fa, mo, bo, di) (nm', sx', fa', mo', bo', di') a b := ⟨_, rfl⟩
 have HPP := Hd hp
 have HQQ := Hd hq
 have HFU := Hd hfu
 rw [← hp, ← hq, ← hfu] at HT
 clear hp hq hfu
 rcases hg with rfl | rfl | rfl
 ·have HZ := Hd (show r = fu by rw [HT.out]; cases fu <;> rfl)
  clear HT
  go_wp2_with fail
  refine (fullS_b _ _ _ f.1 ((HF1.out.below (Below.refl _ _)).below bwT) a b HX.out HY.out fu HFU.out).mono ?_
  rintro e9 w9 ⟨rfl, hb9⟩
  have hp9 : Below W.heap.size W w9 := hp1.trans (Below.mono hb9 hp1.size)
  clear hb9
  go_wp2
  go_ret
  exact ⟨ret_bool HZ.out.symm, hp9⟩
 ·have HT3 := Hd (show r = (p && fu) by rw [HT.out]; cases p <;> cases fu <;> rfl)
  clear HT
  go_wp2_with fail
  refine (elderS_b _ _ _ f.1 (HF1.out.below bwT) b a HY.out HX.out p HPP.out).mono ?_
  rintro e3 w3 ⟨rfl, hb3⟩
  have hp3 : Below W.heap.size W w3 := hp1.trans (Below.mono hb3 hp1.size)
  have f0 := oldc hb3 omT f0
  have f1 := oldc hb3 omT f1
  have s0 := oldc hb3 omT s0
  have s1 := oldc hb3 omT s1
  cases p
  ·have HZ := Hd (show r = false by rw [HT3.out]; rfl)
   go_wp2
   go_ret
   exact ⟨ret_bool HZ.out.symm, hp3⟩
  ·have HZ := Hd (show r = fu by rw [HT3.out]; rfl)
   clear HT3
   go_wp2_with fail
   refine (fullS_b _ _ _ f.1 ((HF1.out.below hb3).below bwT) a b HX.out HY.out fu HFU.out).mono ?_
   rintro e9 w9 ⟨rfl, hb9⟩
   have hp9 : Below W.heap.size W w9 := hp3.trans (Below.mono hb9 hp3.size)
   clear hb9
   go_wp2
   go_ret
   exact ⟨ret_bool HZ.out.symm, hp9⟩
 ·have HT3 := Hd (show r = (q && fu) by rw [HT.out]; cases q <;> cases fu <;> rfl)
  clear HT
  go_wp2_with fail
  refine (elderS_b _ _ _ f.1 (HF1.out.below bwT) a b HX.out HY.out q HQQ.out).mono ?_
  rintro e3 w3 ⟨rfl, hb3⟩
  have hp3 : Below W.heap.size W w3 := hp1.trans (Below.mono hb3 hp1.size)
  have f0 := oldc hb3 omT f0
  have f1 := oldc hb3 omT f1
  have s0 := oldc hb3 omT s0
  have s1 := oldc hb3 omT s1
  cases q
  ·have HZ := Hd (show r = false by rw [HT3.out]; rfl)
   go_wp2
   go_ret
   exact ⟨ret_bool HZ.out.symm, hp3⟩
  ·have HZ := Hd (show r = fu by rw [HT3.out]; rfl)
   clear HT3
   go_wp2_with fail
   refine (fullS_b _ _ _ f.1 ((HF1.out.below hb3).below bwT) a b HX.out HY.out fu HFU.out).mono ?_
   rintro e9 w9 ⟨rfl, hb9⟩
   have hp9 : Below W.heap.size W w9 := hp3.trans (Below.mono hb9 hp3.size)
   clear hb9
   go_wp2
   go_ret
   exact ⟨ret_bool HZ.out.symm, hp9⟩
set_option maxRecDepth 20000 in
theorem leadsS4_b (hk : k = 4) (hg : g = 0 ∨ g = 1 ∨ g = 2) {x y : Per} (hx : f.1[a]? = some x) (hy : f.1[b]? = some y) (hr : r = ledT f.2 k g a b x y) : Calls Tryz.prog 119 #[.agg #[.slice ao f.1.length cap, .slice ub0 f.2.length dap], .agg #[.int .i64 k, .int .i64 g], .int .i64 a, .int .i64 b] W (PostB W r) := by
 have h40c : f.1.length ≤ 40 := h40
 have h60c : f.2.length ≤ 60 := h60
 clear h40c
 subst hk
 have hF := h.fam.1
 have HUN := Hd h.fam.2
 obtain ⟨B, O, nm, sx, fa, mo, bo, di, e1, hX, x0, x1, x2, x3, x4, x5, -, -, -, -, -, -, -, -, hbl, -⟩ := hF.per_at ha
 subst e1
 obtain rfl := Option.some.inj (hX.out.symm.trans hx)
 obtain ⟨_, _, nm', sx', fa', mo', bo', di', e, hY, y0, y1, y2, y3, y4, y5, -⟩ := hF.per_at hb
 simp only [Option.some.injEq, Addr.mk.injEq, and_true] at e
 obtain ⟨rfl, rfl⟩ := e
 obtain rfl := Option.some.inj (hY.out.symm.trans hy)
 have haI : (a : Int) < (f.1.length : Int) := by omega
 have hbI : (b : Int) < (f.1.length : Int) := by omega
 have HX := Hd hx
 have HY := Hd hy
 have HF := Hd hF
 obtain ⟨ss, hss⟩ : ∃ s, s = decide (sx' = stSex 4) := ⟨_, rfl⟩
 have HSS := Hd hss
 obtain ⟨nn, hnn⟩ : ∃ n, n = !ss := ⟨_, rfl⟩
 have HNN := Hd hnn
 have hse : (sx' != stSex 4) = nn := by rw [hnn, hss]; by_cases h : sx' = stSex 4 <;> simp [h]
 clear hnn
 have HR := Hd hr
 have k0 : ¬ B = W.heap.size := by omega
 have k1 : ¬ W.heap.size = B := by omega
 have k2 : ¬ B = W.heap.size + 1 := by omega
 have k3 : ¬ W.heap.size + 1 = B := by omega
 have k4 : ¬ B = W.heap.size + 1 + 1 := by omega
 have k5 : ¬ W.heap.size + 1 + 1 = B := by omega
 have k8 : ¬ B = W.heap.size + 1 + 1 + 1 := by omega
 have k9 : ¬ W.heap.size + 1 + 1 + 1 = B := by omega
 have k6 : B < W.heap.size + 1 := by omega
 have k7 : B < W.heap.size + 1 + 1 := by omega
 have ka : B < W.heap.size + 1 + 1 + 1 := by omega
 clear hr hX hY hF h hss hx hy
 obtain ⟨W4, hW4⟩ : ∃ W4 : World, W4 = (((W.alloc (.cells #[.slice (some ⟨B, O, none⟩) f.1.length cap, .slice ub0 f.2.length dap] 37)).alloc (.cells #[.int .i64 4, .int .i64 g] 126)).alloc (.cells #[.string nm, .int .i64 sx, .int .i64 fa, .int .i64 mo, .int .i64 bo, .int .i64 di] 100)).alloc (.cells #[.string nm', .int .i64 sx', .int .i64 fa', .int .i64 mo', .int .i64 bo', .int .i64 di'] 100) := ⟨_, rfl⟩
 have f0 : W4.cell? ⟨W.heap.size, 0, none⟩ = some (.slice (some ⟨B, O, none⟩) f.1.length cap) := by rw [hW4]; simp [go_sem]
 have f1 : W4.cell? ⟨W.heap.size, 1, none⟩ = some (.slice ub0 f.2.length dap) := by rw [hW4]; simp [go_sem]
 have s0 : W4.cell? ⟨W.heap.size + 1, 0, none⟩ = some (.int .i64 4) := by rw [hW4]; simp [go_sem]
 have s1 : W4.cell? ⟨W.heap.size + 1, 1, none⟩ = some (.int .i64 g) := by rw [hW4]; simp [go_sem]
 have a2 : W4.cell? ⟨W.heap.size + 1 + 1, 2, none⟩ = some (.int .i64 fa) := by rw [hW4]; simp [go_sem]
 have a3 : W4.cell? ⟨W.heap.size + 1 + 1, 3, none⟩ = some (.int .i64 mo) := by rw [hW4]; simp [go_sem]
 have b1 : W4.cell? ⟨W.heap.size + 1 + 1 + 1, 1, none⟩ = some (.int .i64 sx') := by rw [hW4]; simp [go_sem]
 have b2 : W4.cell? ⟨W.heap.size + 1 + 1 + 1, 2, none⟩ = some (.int .i64 fa') := by rw [hW4]; simp [go_sem]
 have b3 : W4.cell? ⟨W.heap.size + 1 + 1 + 1, 3, none⟩ = some (.int .i64 mo') := by rw [hW4]; simp [go_sem]
 have hB4 : Below W.heap.size W W4 := by rw [hW4]; exact bwT
 have l4 : W.heap.size + 1 + 1 + 1 < W4.heap.size := by rw [hW4]; simp
 go_enter Tryz.func119, Tryz.ntmps119
 go_upto_region 3 with fail
 rw [← hW4]
 clear hW4
 refine wp_region_held_drew (S := (fun w' => w'.cell? ⟨W.heap.size + 1 + 1 + 1, 1, none⟩ = some (.int .i64 sx') ∧ w'.cell? ⟨W.heap.size + 1, 0, none⟩ = some (.int .i64 4))) krT ?_ (fun hHeld => ?_)
 ·exact kpT
 refine tkA 0 ?_
 try simp only [cD]
 refine tkA 2 ?_
 try simp only [cD]
 refine tkA 1 ?_
 try simp only [cD]
 refine tkA 3 ?_
 try simp only [cD]
 refine rd1 4 fun K hK => ?_
 go_simp
 refine (stepSexS_any _ 4 omT).mono ?_
 rintro e1 w1 ⟨rfl, hb1⟩
 have hp4 : Below W4.heap.size W4 w1 := Below.trans (show Below W4.heap.size W4 _ from bwT) (hb1.mono szT)
 have f0 := oldc hp4 omT f0
 have f1 := oldc hp4 omT f1
 have s0 := oldc hp4 omT s0
 have s1 := oldc hp4 omT s1
 have a2 := oldc hp4 omT a2
 have a3 := oldc hp4 omT a3
 have b1 := oldc hp4 omT b1
 have b2 := oldc hp4 omT b2
 have b3 := oldc hp4 omT b3
 have hp1 : Below W.heap.size W w1 := hB4.trans (hp4.mono hB4.size)
 have l1 : W.heap.size + 1 + 1 + 1 < w1.heap.size := by have := hp4.size; omega
 have hS1 := aI b1 s0
 clear hb1 hp4
 refine hK.out _ _ kpT fun hHeld => ?_
 clear hK K
 try simp only [cD]
 refine tkA 5 ?_
 try simp only [cD]
 refine wdT ?_
 clear hHeld
 have HF1 := Hd (HF.out.below hp1)
 have HU1 := Hd (HUN.out.below hp1)
 clear HF HUN x0 x1 x2 x3 x4 x5 y0 y1 y2 y3 y4 y5 k0 k1 k2 k3 k4 k5 k6 k7 k8 k9 ka hbl
 cases ss
 ·obtain rfl : nn = true := HNN.out
  have HZ := Hd (show r = false by rw [HR.out]; unfold ledT; rw [show decide (sx' = stSex 4) = false from HSS.out.symm]; rfl)
  clear HR
  go_wp2
  go_ret
  exact ⟨ret_bool HZ.out.symm, hp1⟩
 obtain rfl : nn = false := HNN.out
 have HT := Hd (show r = (((decide (g ≠ 1) || eldB (nm', sx', fa', mo', bo', di') (nm, sx, fa, mo, bo, di) b a) && (decide (g ≠ 2) || eldB (nm, sx, fa, mo, bo, di) (nm', sx', fa', mo', bo', di') a b)) && fullB (nm, sx, fa, mo, bo, di) (nm', sx', fa', mo', bo', di') a b) by rw [HR.out]; unfold ledT; rw [show decide (sx' = stSex 4) = true from HSS.out.symm]; rfl)
 clear HR HSS
 obtain ⟨p, hp⟩ : ∃ q, q = eldB (nm', sx', fa', mo', bo', di') (nm, sx, fa, mo, bo, di) b a := ⟨_, rfl⟩
 obtain ⟨q, hq⟩ : ∃ q, q = eldB (nm, sx, fa, mo, bo, di) (nm', sx', fa', mo', bo', di') a b := ⟨_, rfl⟩
 obtain ⟨fu, hfu⟩ : ∃ q, q = fullB (nm, sx, fa, mo, bo, di) (nm', sx', fa', mo', bo', di') a b := ⟨_, rfl⟩
 have HPP := Hd hp
 have HQQ := Hd hq
 have HFU := Hd hfu
 rw [← hp, ← hq, ← hfu] at HT
 clear hp hq hfu
 rcases hg with rfl | rfl | rfl
 ·have HZ := Hd (show r = fu by rw [HT.out]; cases fu <;> rfl)
  clear HT
  go_wp2_with fail
  refine (fullS_b _ _ _ f.1 ((HF1.out.below (Below.refl _ _)).below bwT) a b HX.out HY.out fu HFU.out).mono ?_
  rintro e9 w9 ⟨rfl, hb9⟩
  have hp9 : Below W.heap.size W w9 := hp1.trans (Below.mono hb9 hp1.size)
  clear hb9
  go_wp2
  go_ret
  exact ⟨ret_bool HZ.out.symm, hp9⟩
 ·have HT3 := Hd (show r = (p && fu) by rw [HT.out]; cases p <;> cases fu <;> rfl)
  clear HT
  go_wp2_with fail
  refine (elderS_b _ _ _ f.1 (HF1.out.below bwT) b a HY.out HX.out p HPP.out).mono ?_
  rintro e3 w3 ⟨rfl, hb3⟩
  have hp3 : Below W.heap.size W w3 := hp1.trans (Below.mono hb3 hp1.size)
  have f0 := oldc hb3 omT f0
  have f1 := oldc hb3 omT f1
  have s0 := oldc hb3 omT s0
  have s1 := oldc hb3 omT s1
  cases p
  ·have HZ := Hd (show r = false by rw [HT3.out]; rfl)
   go_wp2
   go_ret
   exact ⟨ret_bool HZ.out.symm, hp3⟩
  ·have HZ := Hd (show r = fu by rw [HT3.out]; rfl)
   clear HT3
   go_wp2_with fail
   refine (fullS_b _ _ _ f.1 ((HF1.out.below hb3).below bwT) a b HX.out HY.out fu HFU.out).mono ?_
   rintro e9 w9 ⟨rfl, hb9⟩
   have hp9 : Below W.heap.size W w9 := hp3.trans (Below.mono hb9 hp3.size)
   clear hb9
   go_wp2
   go_ret
   exact ⟨ret_bool HZ.out.symm, hp9⟩
 ·have HT3 := Hd (show r = (q && fu) by rw [HT.out]; cases q <;> cases fu <;> rfl)
  clear HT
  go_wp2_with fail
  refine (elderS_b _ _ _ f.1 (HF1.out.below bwT) a b HX.out HY.out q HQQ.out).mono ?_
  rintro e3 w3 ⟨rfl, hb3⟩
  have hp3 : Below W.heap.size W w3 := hp1.trans (Below.mono hb3 hp1.size)
  have f0 := oldc hb3 omT f0
  have f1 := oldc hb3 omT f1
  have s0 := oldc hb3 omT s0
  have s1 := oldc hb3 omT s1
  cases q
  ·have HZ := Hd (show r = false by rw [HT3.out]; rfl)
   go_wp2
   go_ret
   exact ⟨ret_bool HZ.out.symm, hp3⟩
  ·have HZ := Hd (show r = fu by rw [HT3.out]; rfl)
   clear HT3
   go_wp2_with fail
   refine (fullS_b _ _ _ f.1 ((HF1.out.below hb3).below bwT) a b HX.out HY.out fu HFU.out).mono ?_
   rintro e9 w9 ⟨rfl, hb9⟩
   have hp9 : Below W.heap.size W w9 := hp3.trans (Below.mono hb9 hp3.size)
   clear hb9
   go_wp2
   go_ret
   exact ⟨ret_bool HZ.out.symm, hp9⟩
set_option maxRecDepth 20000 in
theorem leadsS5_b (hk : k = 5) (hg : g = 0 ∨ g = 1 ∨ g = 2) {x y : Per} (hx : f.1[a]? = some x) (hy : f.1[b]? = some y) (hr : r = ledT f.2 k g a b x y) : Calls Tryz.prog 119 #[.agg #[.slice ao f.1.length cap, .slice ub0 f.2.length dap], .agg #[.int .i64 k, .int .i64 g], .int .i64 a, .int .i64 b] W (PostB W r) := by
 have h40c : f.1.length ≤ 40 := h40
 have h60c : f.2.length ≤ 60 := h60
 clear h40c
 subst hk
 have hF := h.fam.1
 have HUN := Hd h.fam.2
 obtain ⟨B, O, nm, sx, fa, mo, bo, di, e1, hX, x0, x1, x2, x3, x4, x5, -, -, -, -, -, -, -, -, hbl, -⟩ := hF.per_at ha
 subst e1
 obtain rfl := Option.some.inj (hX.out.symm.trans hx)
 obtain ⟨_, _, nm', sx', fa', mo', bo', di', e, hY, y0, y1, y2, y3, y4, y5, -⟩ := hF.per_at hb
 simp only [Option.some.injEq, Addr.mk.injEq, and_true] at e
 obtain ⟨rfl, rfl⟩ := e
 obtain rfl := Option.some.inj (hY.out.symm.trans hy)
 have haI : (a : Int) < (f.1.length : Int) := by omega
 have hbI : (b : Int) < (f.1.length : Int) := by omega
 have HX := Hd hx
 have HY := Hd hy
 have HF := Hd hF
 obtain ⟨ss, hss⟩ : ∃ s, s = decide (sx' = stSex 5) := ⟨_, rfl⟩
 have HSS := Hd hss
 obtain ⟨nn, hnn⟩ : ∃ n, n = !ss := ⟨_, rfl⟩
 have HNN := Hd hnn
 have hse : (sx' != stSex 5) = nn := by rw [hnn, hss]; by_cases h : sx' = stSex 5 <;> simp [h]
 clear hnn
 have HR := Hd hr
 have k0 : ¬ B = W.heap.size := by omega
 have k1 : ¬ W.heap.size = B := by omega
 have k2 : ¬ B = W.heap.size + 1 := by omega
 have k3 : ¬ W.heap.size + 1 = B := by omega
 have k4 : ¬ B = W.heap.size + 1 + 1 := by omega
 have k5 : ¬ W.heap.size + 1 + 1 = B := by omega
 have k8 : ¬ B = W.heap.size + 1 + 1 + 1 := by omega
 have k9 : ¬ W.heap.size + 1 + 1 + 1 = B := by omega
 have k6 : B < W.heap.size + 1 := by omega
 have k7 : B < W.heap.size + 1 + 1 := by omega
 have ka : B < W.heap.size + 1 + 1 + 1 := by omega
 clear hr hX hY hF h hss hx hy
 obtain ⟨W4, hW4⟩ : ∃ W4 : World, W4 = (((W.alloc (.cells #[.slice (some ⟨B, O, none⟩) f.1.length cap, .slice ub0 f.2.length dap] 37)).alloc (.cells #[.int .i64 5, .int .i64 g] 126)).alloc (.cells #[.string nm, .int .i64 sx, .int .i64 fa, .int .i64 mo, .int .i64 bo, .int .i64 di] 100)).alloc (.cells #[.string nm', .int .i64 sx', .int .i64 fa', .int .i64 mo', .int .i64 bo', .int .i64 di'] 100) := ⟨_, rfl⟩
 have f0 : W4.cell? ⟨W.heap.size, 0, none⟩ = some (.slice (some ⟨B, O, none⟩) f.1.length cap) := by rw [hW4]; simp [go_sem]
 have f1 : W4.cell? ⟨W.heap.size, 1, none⟩ = some (.slice ub0 f.2.length dap) := by rw [hW4]; simp [go_sem]
 have s0 : W4.cell? ⟨W.heap.size + 1, 0, none⟩ = some (.int .i64 5) := by rw [hW4]; simp [go_sem]
 have s1 : W4.cell? ⟨W.heap.size + 1, 1, none⟩ = some (.int .i64 g) := by rw [hW4]; simp [go_sem]
 have a2 : W4.cell? ⟨W.heap.size + 1 + 1, 2, none⟩ = some (.int .i64 fa) := by rw [hW4]; simp [go_sem]
 have a3 : W4.cell? ⟨W.heap.size + 1 + 1, 3, none⟩ = some (.int .i64 mo) := by rw [hW4]; simp [go_sem]
 have b1 : W4.cell? ⟨W.heap.size + 1 + 1 + 1, 1, none⟩ = some (.int .i64 sx') := by rw [hW4]; simp [go_sem]
 have b2 : W4.cell? ⟨W.heap.size + 1 + 1 + 1, 2, none⟩ = some (.int .i64 fa') := by rw [hW4]; simp [go_sem]
 have b3 : W4.cell? ⟨W.heap.size + 1 + 1 + 1, 3, none⟩ = some (.int .i64 mo') := by rw [hW4]; simp [go_sem]
 have hB4 : Below W.heap.size W W4 := by rw [hW4]; exact bwT
 have l4 : W.heap.size + 1 + 1 + 1 < W4.heap.size := by rw [hW4]; simp
 go_enter Tryz.func119, Tryz.ntmps119
 go_upto_region 3 with fail
 rw [← hW4]
 clear hW4
 refine wp_region_held_drew (S := (fun w' => w'.cell? ⟨W.heap.size + 1 + 1 + 1, 1, none⟩ = some (.int .i64 sx') ∧ w'.cell? ⟨W.heap.size + 1, 0, none⟩ = some (.int .i64 5))) krT ?_ (fun hHeld => ?_)
 ·exact kpT
 refine tkA 0 ?_
 try simp only [cD]
 refine tkA 2 ?_
 try simp only [cD]
 refine tkA 1 ?_
 try simp only [cD]
 refine tkA 3 ?_
 try simp only [cD]
 refine rd1 4 fun K hK => ?_
 go_simp
 refine (stepSexS_any _ 5 omT).mono ?_
 rintro e1 w1 ⟨rfl, hb1⟩
 have hp4 : Below W4.heap.size W4 w1 := Below.trans (show Below W4.heap.size W4 _ from bwT) (hb1.mono szT)
 have f0 := oldc hp4 omT f0
 have f1 := oldc hp4 omT f1
 have s0 := oldc hp4 omT s0
 have s1 := oldc hp4 omT s1
 have a2 := oldc hp4 omT a2
 have a3 := oldc hp4 omT a3
 have b1 := oldc hp4 omT b1
 have b2 := oldc hp4 omT b2
 have b3 := oldc hp4 omT b3
 have hp1 : Below W.heap.size W w1 := hB4.trans (hp4.mono hB4.size)
 have l1 : W.heap.size + 1 + 1 + 1 < w1.heap.size := by have := hp4.size; omega
 have hS1 := aI b1 s0
 clear hb1 hp4
 refine hK.out _ _ kpT fun hHeld => ?_
 clear hK K
 try simp only [cD]
 refine tkA 5 ?_
 try simp only [cD]
 refine wdT ?_
 clear hHeld
 have HF1 := Hd (HF.out.below hp1)
 have HU1 := Hd (HUN.out.below hp1)
 clear HF HUN x0 x1 x2 x3 x4 x5 y0 y1 y2 y3 y4 y5 k0 k1 k2 k3 k4 k5 k6 k7 k8 k9 ka hbl
 cases ss
 ·obtain rfl : nn = true := HNN.out
  have HZ := Hd (show r = false by rw [HR.out]; unfold ledT; rw [show decide (sx' = stSex 5) = false from HSS.out.symm]; rfl)
  clear HR
  go_wp2
  go_ret
  exact ⟨ret_bool HZ.out.symm, hp1⟩
 obtain rfl : nn = false := HNN.out
 have HT := Hd (show r = (parB (nm', sx', fa', mo', bo', di') a) by rw [HR.out]; unfold ledT; rw [show decide (sx' = stSex 5) = true from HSS.out.symm]; rfl)
 clear HR HSS
 have HT2 := Hd (show r = decide (fa' = (a : Int) ∨ mo' = (a : Int)) from HT.out)
 clear HT
 by_cases h1 : fa' = (a : Int)
 ·have HZ := Hd (show r = true by rw [HT2.out]; exact decide_eq_true (.inl h1))
  have e1 : (fa' == (a : Int)) = true := by simpa using h1
  clear h1
  go_wp2
  go_ret
  exact ⟨ret_bool HZ.out.symm, hp1⟩
 ·have e1 : (fa' == (a : Int)) = false := by simpa using h1
  have e2 : (mo' == (a : Int)) = r := by rw [HT2.out]; by_cases h : mo' = (a : Int) <;> simp [h, h1]
  clear h1
  go_wp2
  go_ret
  exact ⟨ret_bool rfl, hp1⟩
set_option maxRecDepth 20000 in
theorem leadsS6_b (hk : k = 6) (hg : g = 0 ∨ g = 1 ∨ g = 2) {x y : Per} (hx : f.1[a]? = some x) (hy : f.1[b]? = some y) (hr : r = ledT f.2 k g a b x y) : Calls Tryz.prog 119 #[.agg #[.slice ao f.1.length cap, .slice ub0 f.2.length dap], .agg #[.int .i64 k, .int .i64 g], .int .i64 a, .int .i64 b] W (PostB W r) := by
 have h40c : f.1.length ≤ 40 := h40
 have h60c : f.2.length ≤ 60 := h60
 clear h40c
 subst hk
 have hF := h.fam.1
 have HUN := Hd h.fam.2
 obtain ⟨B, O, nm, sx, fa, mo, bo, di, e1, hX, x0, x1, x2, x3, x4, x5, -, -, -, -, -, -, -, -, hbl, -⟩ := hF.per_at ha
 subst e1
 obtain rfl := Option.some.inj (hX.out.symm.trans hx)
 obtain ⟨_, _, nm', sx', fa', mo', bo', di', e, hY, y0, y1, y2, y3, y4, y5, -⟩ := hF.per_at hb
 simp only [Option.some.injEq, Addr.mk.injEq, and_true] at e
 obtain ⟨rfl, rfl⟩ := e
 obtain rfl := Option.some.inj (hY.out.symm.trans hy)
 have haI : (a : Int) < (f.1.length : Int) := by omega
 have hbI : (b : Int) < (f.1.length : Int) := by omega
 have HX := Hd hx
 have HY := Hd hy
 have HF := Hd hF
 obtain ⟨ss, hss⟩ : ∃ s, s = decide (sx' = stSex 6) := ⟨_, rfl⟩
 have HSS := Hd hss
 obtain ⟨nn, hnn⟩ : ∃ n, n = !ss := ⟨_, rfl⟩
 have HNN := Hd hnn
 have hse : (sx' != stSex 6) = nn := by rw [hnn, hss]; by_cases h : sx' = stSex 6 <;> simp [h]
 clear hnn
 have HR := Hd hr
 have k0 : ¬ B = W.heap.size := by omega
 have k1 : ¬ W.heap.size = B := by omega
 have k2 : ¬ B = W.heap.size + 1 := by omega
 have k3 : ¬ W.heap.size + 1 = B := by omega
 have k4 : ¬ B = W.heap.size + 1 + 1 := by omega
 have k5 : ¬ W.heap.size + 1 + 1 = B := by omega
 have k8 : ¬ B = W.heap.size + 1 + 1 + 1 := by omega
 have k9 : ¬ W.heap.size + 1 + 1 + 1 = B := by omega
 have k6 : B < W.heap.size + 1 := by omega
 have k7 : B < W.heap.size + 1 + 1 := by omega
 have ka : B < W.heap.size + 1 + 1 + 1 := by omega
 clear hr hX hY hF h hss hx hy
 obtain ⟨W4, hW4⟩ : ∃ W4 : World, W4 = (((W.alloc (.cells #[.slice (some ⟨B, O, none⟩) f.1.length cap, .slice ub0 f.2.length dap] 37)).alloc (.cells #[.int .i64 6, .int .i64 g] 126)).alloc (.cells #[.string nm, .int .i64 sx, .int .i64 fa, .int .i64 mo, .int .i64 bo, .int .i64 di] 100)).alloc (.cells #[.string nm', .int .i64 sx', .int .i64 fa', .int .i64 mo', .int .i64 bo', .int .i64 di'] 100) := ⟨_, rfl⟩
 have f0 : W4.cell? ⟨W.heap.size, 0, none⟩ = some (.slice (some ⟨B, O, none⟩) f.1.length cap) := by rw [hW4]; simp [go_sem]
 have f1 : W4.cell? ⟨W.heap.size, 1, none⟩ = some (.slice ub0 f.2.length dap) := by rw [hW4]; simp [go_sem]
 have s0 : W4.cell? ⟨W.heap.size + 1, 0, none⟩ = some (.int .i64 6) := by rw [hW4]; simp [go_sem]
 have s1 : W4.cell? ⟨W.heap.size + 1, 1, none⟩ = some (.int .i64 g) := by rw [hW4]; simp [go_sem]
 have a2 : W4.cell? ⟨W.heap.size + 1 + 1, 2, none⟩ = some (.int .i64 fa) := by rw [hW4]; simp [go_sem]
 have a3 : W4.cell? ⟨W.heap.size + 1 + 1, 3, none⟩ = some (.int .i64 mo) := by rw [hW4]; simp [go_sem]
 have b1 : W4.cell? ⟨W.heap.size + 1 + 1 + 1, 1, none⟩ = some (.int .i64 sx') := by rw [hW4]; simp [go_sem]
 have b2 : W4.cell? ⟨W.heap.size + 1 + 1 + 1, 2, none⟩ = some (.int .i64 fa') := by rw [hW4]; simp [go_sem]
 have b3 : W4.cell? ⟨W.heap.size + 1 + 1 + 1, 3, none⟩ = some (.int .i64 mo') := by rw [hW4]; simp [go_sem]
 have hB4 : Below W.heap.size W W4 := by rw [hW4]; exact bwT
 have l4 : W.heap.size + 1 + 1 + 1 < W4.heap.size := by rw [hW4]; simp
 go_enter Tryz.func119, Tryz.ntmps119
 go_upto_region 3 with fail
 rw [← hW4]
 clear hW4
 refine wp_region_held_drew (S := (fun w' => w'.cell? ⟨W.heap.size + 1 + 1 + 1, 1, none⟩ = some (.int .i64 sx') ∧ w'.cell? ⟨W.heap.size + 1, 0, none⟩ = some (.int .i64 6))) krT ?_ (fun hHeld => ?_)
 ·exact kpT
 refine tkA 0 ?_
 try simp only [cD]
 refine tkA 2 ?_
 try simp only [cD]
 refine tkA 1 ?_
 try simp only [cD]
 refine tkA 3 ?_
 try simp only [cD]
 refine rd1 4 fun K hK => ?_
 go_simp
 refine (stepSexS_any _ 6 omT).mono ?_
 rintro e1 w1 ⟨rfl, hb1⟩
 have hp4 : Below W4.heap.size W4 w1 := Below.trans (show Below W4.heap.size W4 _ from bwT) (hb1.mono szT)
 have f0 := oldc hp4 omT f0
 have f1 := oldc hp4 omT f1
 have s0 := oldc hp4 omT s0
 have s1 := oldc hp4 omT s1
 have a2 := oldc hp4 omT a2
 have a3 := oldc hp4 omT a3
 have b1 := oldc hp4 omT b1
 have b2 := oldc hp4 omT b2
 have b3 := oldc hp4 omT b3
 have hp1 : Below W.heap.size W w1 := hB4.trans (hp4.mono hB4.size)
 have l1 : W.heap.size + 1 + 1 + 1 < w1.heap.size := by have := hp4.size; omega
 have hS1 := aI b1 s0
 clear hb1 hp4
 refine hK.out _ _ kpT fun hHeld => ?_
 clear hK K
 try simp only [cD]
 refine tkA 5 ?_
 try simp only [cD]
 refine wdT ?_
 clear hHeld
 have HF1 := Hd (HF.out.below hp1)
 have HU1 := Hd (HUN.out.below hp1)
 clear HF HUN x0 x1 x2 x3 x4 x5 y0 y1 y2 y3 y4 y5 k0 k1 k2 k3 k4 k5 k6 k7 k8 k9 ka hbl
 cases ss
 ·obtain rfl : nn = true := HNN.out
  have HZ := Hd (show r = false by rw [HR.out]; unfold ledT; rw [show decide (sx' = stSex 6) = false from HSS.out.symm]; rfl)
  clear HR
  go_wp2
  go_ret
  exact ⟨ret_bool HZ.out.symm, hp1⟩
 obtain rfl : nn = false := HNN.out
 have HT := Hd (show r = (parB (nm', sx', fa', mo', bo', di') a) by rw [HR.out]; unfold ledT; rw [show decide (sx' = stSex 6) = true from HSS.out.symm]; rfl)
 clear HR HSS
 have HT2 := Hd (show r = decide (fa' = (a : Int) ∨ mo' = (a : Int)) from HT.out)
 clear HT
 by_cases h1 : fa' = (a : Int)
 ·have HZ := Hd (show r = true by rw [HT2.out]; exact decide_eq_true (.inl h1))
  have e1 : (fa' == (a : Int)) = true := by simpa using h1
  clear h1
  go_wp2
  go_ret
  exact ⟨ret_bool HZ.out.symm, hp1⟩
 ·have e1 : (fa' == (a : Int)) = false := by simpa using h1
  have e2 : (mo' == (a : Int)) = r := by rw [HT2.out]; by_cases h : mo' = (a : Int) <;> simp [h, h1]
  clear h1
  go_wp2
  go_ret
  exact ⟨ret_bool rfl, hp1⟩
set_option maxRecDepth 20000 in
theorem leadsS7_b (hk : k = 7) (hg : g = 0 ∨ g = 1 ∨ g = 2) {x y : Per} (hx : f.1[a]? = some x) (hy : f.1[b]? = some y) (hr : r = ledT f.2 k g a b x y) : Calls Tryz.prog 119 #[.agg #[.slice ao f.1.length cap, .slice ub0 f.2.length dap], .agg #[.int .i64 k, .int .i64 g], .int .i64 a, .int .i64 b] W (PostB W r) := by
 have h40c : f.1.length ≤ 40 := h40
 have h60c : f.2.length ≤ 60 := h60
 clear h40c
 subst hk
 have hF := h.fam.1
 have HUN := Hd h.fam.2
 obtain ⟨B, O, nm, sx, fa, mo, bo, di, e1, hX, x0, x1, x2, x3, x4, x5, -, -, -, -, -, -, -, -, hbl, -⟩ := hF.per_at ha
 subst e1
 obtain rfl := Option.some.inj (hX.out.symm.trans hx)
 obtain ⟨_, _, nm', sx', fa', mo', bo', di', e, hY, y0, y1, y2, y3, y4, y5, -⟩ := hF.per_at hb
 simp only [Option.some.injEq, Addr.mk.injEq, and_true] at e
 obtain ⟨rfl, rfl⟩ := e
 obtain rfl := Option.some.inj (hY.out.symm.trans hy)
 have haI : (a : Int) < (f.1.length : Int) := by omega
 have hbI : (b : Int) < (f.1.length : Int) := by omega
 have HX := Hd hx
 have HY := Hd hy
 have HF := Hd hF
 obtain ⟨ss, hss⟩ : ∃ s, s = decide (sx' = stSex 7) := ⟨_, rfl⟩
 have HSS := Hd hss
 obtain ⟨nn, hnn⟩ : ∃ n, n = !ss := ⟨_, rfl⟩
 have HNN := Hd hnn
 have hse : (sx' != stSex 7) = nn := by rw [hnn, hss]; by_cases h : sx' = stSex 7 <;> simp [h]
 clear hnn
 have HR := Hd hr
 have k0 : ¬ B = W.heap.size := by omega
 have k1 : ¬ W.heap.size = B := by omega
 have k2 : ¬ B = W.heap.size + 1 := by omega
 have k3 : ¬ W.heap.size + 1 = B := by omega
 have k4 : ¬ B = W.heap.size + 1 + 1 := by omega
 have k5 : ¬ W.heap.size + 1 + 1 = B := by omega
 have k8 : ¬ B = W.heap.size + 1 + 1 + 1 := by omega
 have k9 : ¬ W.heap.size + 1 + 1 + 1 = B := by omega
 have k6 : B < W.heap.size + 1 := by omega
 have k7 : B < W.heap.size + 1 + 1 := by omega
 have ka : B < W.heap.size + 1 + 1 + 1 := by omega
 clear hr hX hY hF h hss hx hy
 obtain ⟨W4, hW4⟩ : ∃ W4 : World, W4 = (((W.alloc (.cells #[.slice (some ⟨B, O, none⟩) f.1.length cap, .slice ub0 f.2.length dap] 37)).alloc (.cells #[.int .i64 7, .int .i64 g] 126)).alloc (.cells #[.string nm, .int .i64 sx, .int .i64 fa, .int .i64 mo, .int .i64 bo, .int .i64 di] 100)).alloc (.cells #[.string nm', .int .i64 sx', .int .i64 fa', .int .i64 mo', .int .i64 bo', .int .i64 di'] 100) := ⟨_, rfl⟩
 have f0 : W4.cell? ⟨W.heap.size, 0, none⟩ = some (.slice (some ⟨B, O, none⟩) f.1.length cap) := by rw [hW4]; simp [go_sem]
 have f1 : W4.cell? ⟨W.heap.size, 1, none⟩ = some (.slice ub0 f.2.length dap) := by rw [hW4]; simp [go_sem]
 have s0 : W4.cell? ⟨W.heap.size + 1, 0, none⟩ = some (.int .i64 7) := by rw [hW4]; simp [go_sem]
 have s1 : W4.cell? ⟨W.heap.size + 1, 1, none⟩ = some (.int .i64 g) := by rw [hW4]; simp [go_sem]
 have a2 : W4.cell? ⟨W.heap.size + 1 + 1, 2, none⟩ = some (.int .i64 fa) := by rw [hW4]; simp [go_sem]
 have a3 : W4.cell? ⟨W.heap.size + 1 + 1, 3, none⟩ = some (.int .i64 mo) := by rw [hW4]; simp [go_sem]
 have b1 : W4.cell? ⟨W.heap.size + 1 + 1 + 1, 1, none⟩ = some (.int .i64 sx') := by rw [hW4]; simp [go_sem]
 have b2 : W4.cell? ⟨W.heap.size + 1 + 1 + 1, 2, none⟩ = some (.int .i64 fa') := by rw [hW4]; simp [go_sem]
 have b3 : W4.cell? ⟨W.heap.size + 1 + 1 + 1, 3, none⟩ = some (.int .i64 mo') := by rw [hW4]; simp [go_sem]
 have hB4 : Below W.heap.size W W4 := by rw [hW4]; exact bwT
 have l4 : W.heap.size + 1 + 1 + 1 < W4.heap.size := by rw [hW4]; simp
 go_enter Tryz.func119, Tryz.ntmps119
 go_upto_region 3 with fail
 rw [← hW4]
 clear hW4
 refine wp_region_held_drew (S := (fun w' => w'.cell? ⟨W.heap.size + 1 + 1 + 1, 1, none⟩ = some (.int .i64 sx') ∧ w'.cell? ⟨W.heap.size + 1, 0, none⟩ = some (.int .i64 7))) krT ?_ (fun hHeld => ?_)
 ·exact kpT
 refine tkA 0 ?_
 try simp only [cD]
 refine tkA 2 ?_
 try simp only [cD]
 refine tkA 1 ?_
 try simp only [cD]
 refine tkA 3 ?_
 try simp only [cD]
 refine rd1 4 fun K hK => ?_
 go_simp
 refine (stepSexS_any _ 7 omT).mono ?_
 rintro e1 w1 ⟨rfl, hb1⟩
 have hp4 : Below W4.heap.size W4 w1 := Below.trans (show Below W4.heap.size W4 _ from bwT) (hb1.mono szT)
 have f0 := oldc hp4 omT f0
 have f1 := oldc hp4 omT f1
 have s0 := oldc hp4 omT s0
 have s1 := oldc hp4 omT s1
 have a2 := oldc hp4 omT a2
 have a3 := oldc hp4 omT a3
 have b1 := oldc hp4 omT b1
 have b2 := oldc hp4 omT b2
 have b3 := oldc hp4 omT b3
 have hp1 : Below W.heap.size W w1 := hB4.trans (hp4.mono hB4.size)
 have l1 : W.heap.size + 1 + 1 + 1 < w1.heap.size := by have := hp4.size; omega
 have hS1 := aI b1 s0
 clear hb1 hp4
 refine hK.out _ _ kpT fun hHeld => ?_
 clear hK K
 try simp only [cD]
 refine tkA 5 ?_
 try simp only [cD]
 refine wdT ?_
 clear hHeld
 have HF1 := Hd (HF.out.below hp1)
 have HU1 := Hd (HUN.out.below hp1)
 clear HF HUN x0 x1 x2 x3 x4 x5 y0 y1 y2 y3 y4 y5 k0 k1 k2 k3 k4 k5 k6 k7 k8 k9 ka hbl
 cases ss
 ·obtain rfl : nn = true := HNN.out
  have HZ := Hd (show r = false by rw [HR.out]; unfold ledT; rw [show decide (sx' = stSex 7) = false from HSS.out.symm]; rfl)
  clear HR
  go_wp2
  go_ret
  exact ⟨ret_bool HZ.out.symm, hp1⟩
 obtain rfl : nn = false := HNN.out
 have HT := Hd (show r = (f.2.any (othB a b)) by rw [HR.out]; unfold ledT; rw [show decide (sx' = stSex 7) = true from HSS.out.symm]; rfl)
 clear HR HSS
 go_wp2
 go_loopw [8, 12, 13, 14, 64] (fun _ _ _ _ s64 wl => ∃ i : Nat, i ≤ f.2.length ∧ s64 = .int .i64 i ∧ Hid (((f.2.take i).any (othB a b)) = false) ∧ Below w1.heap.size w1 wl) (fun _ _ _ _ s64 _ => f.2.length - (intOf s64).toNat)
 case atStart => exact ⟨0, Nat.zero_le _, rfl, Hd rfl, Below.refl _ _⟩
 case round =>
  obtain ⟨wi, hwi⟩ : ∃ y : World, y = wr := ⟨_, rfl⟩
  subst hwi
  obtain ⟨i, hi, rfl, HN, hbi⟩ := hrel
  have hpi : Below W.heap.size W wi := hp1.trans (Below.mono hbi hp1.size)
  by_cases hlt : i < f.2.length
  ·have hI : (i : Int) < (f.2.length : Int) := by omega
   obtain ⟨ub, uo, ma, wm, fr, tl, e1, hu, u0, u1, u2, u3, g0, g1, -, -, -, -, hul, -⟩ := (HU1.out.below hbi).uni_at hlt
   subst e1
   obtain ⟨q, hq⟩ : ∃ q, q = if ma = (a : Int) then wm else ma := ⟨_, rfl⟩
   obtain ⟨s, hs⟩ : ∃ s, s = (decide (ma = (a : Int)) || decide (wm = (a : Int))) := ⟨_, rfl⟩
   obtain ⟨t, ht⟩ : ∃ t, t = othB a b (ma, wm, fr, tl) := ⟨_, rfl⟩
   have HQ := Hd hq
   have HS := Hd hs
   have HTE := Hd (show t = (s && decide (q = (b : Int))) by
    rw [ht, hq, hs]; unfold othB
    by_cases h1 : ma = (a : Int)
    ·rw [if_pos h1, if_pos h1, decide_eq_true h1]; rfl
    ·rw [if_neg h1, if_neg h1, decide_eq_false h1]; rfl)
   have HNX := Hd (show ((f.2.take (i + 1)).any (othB a b)) = t by rw [take_snoc hu.out, List.any_append, HN.out, ht]; simp)
   have HMU := Hd (show t = true → f.2.any (othB a b) = true from fun e => List.any_eq_true.2 ⟨_, List.mem_of_getElem? hu.out, by rw [← ht]; exact e⟩)
   clear hq hs ht hu HN
   go_wp2_with fail
   refine (otherS_b _ ma wm fr tl (a : Int) q s HQ.out HS.out).mono ?_
   rintro e5 w5 ⟨rfl, hb5⟩
   have hp5 : Below w1.heap.size w1 w5 := hbi.trans (Below.mono (Below.trans (show Below wi.heap.size wi _ from bwT) (hb5.mono szT)) hbi.size)
   have hP5 : Below W.heap.size W w5 := hp1.trans (Below.mono hp5 hp1.size)
   clear hb5
   cases s
   ·have hT : t = false := by rw [HTE.out]; rfl
    have HN2 := Hd (show ((f.2.take (i + 1)).any (othB a b)) = false by rw [HNX.out, hT])
    clear hT HTE HMU HNX HS HQ
    go_wp2
    go_roundw
    case rel => exact ⟨i + 1, by omega, by go_num, HN2, hp5⟩
    case measure => simp [intOf]; omega
   ·have eq : (q == (b : Int)) = t := by rw [HTE.out]; by_cases h : q = (b : Int) <;> simp [h]
    clear HTE HS HQ
    cases t
    ·have HN2 := Hd (show ((f.2.take (i + 1)).any (othB a b)) = false from HNX.out)
     clear HMU HNX
     go_wp2
     go_roundw
     case rel => exact ⟨i + 1, by omega, by go_num, HN2, hp5⟩
     case measure => simp [intOf]; omega
    ·have HZ := Hd (show r = true by rw [HT.out]; exact HMU.out rfl)
     clear HMU HNX HT
     go_wp2
     go_ret
     exact ⟨ret_bool HZ.out.symm, hP5⟩
  ·obtain rfl : i = f.2.length := by omega
   have hI : ¬ (f.2.length : Int) < (f.2.length : Int) := by omega
   have HZ := Hd (show r = false by rw [HT.out]; have := HN.out; rwa [List.take_length] at this)
   clear HT HN
   go_wp2
   go_ret
   exact ⟨ret_bool HZ.out.symm, hpi⟩
set_option maxRecDepth 20000 in
theorem leadsS8_b (hk : k = 8) (hg : g = 0 ∨ g = 1 ∨ g = 2) {x y : Per} (hx : f.1[a]? = some x) (hy : f.1[b]? = some y) (hr : r = ledT f.2 k g a b x y) : Calls Tryz.prog 119 #[.agg #[.slice ao f.1.length cap, .slice ub0 f.2.length dap], .agg #[.int .i64 k, .int .i64 g], .int .i64 a, .int .i64 b] W (PostB W r) := by
 have h40c : f.1.length ≤ 40 := h40
 have h60c : f.2.length ≤ 60 := h60
 clear h40c
 subst hk
 have hF := h.fam.1
 have HUN := Hd h.fam.2
 obtain ⟨B, O, nm, sx, fa, mo, bo, di, e1, hX, x0, x1, x2, x3, x4, x5, -, -, -, -, -, -, -, -, hbl, -⟩ := hF.per_at ha
 subst e1
 obtain rfl := Option.some.inj (hX.out.symm.trans hx)
 obtain ⟨_, _, nm', sx', fa', mo', bo', di', e, hY, y0, y1, y2, y3, y4, y5, -⟩ := hF.per_at hb
 simp only [Option.some.injEq, Addr.mk.injEq, and_true] at e
 obtain ⟨rfl, rfl⟩ := e
 obtain rfl := Option.some.inj (hY.out.symm.trans hy)
 have haI : (a : Int) < (f.1.length : Int) := by omega
 have hbI : (b : Int) < (f.1.length : Int) := by omega
 have HX := Hd hx
 have HY := Hd hy
 have HF := Hd hF
 obtain ⟨ss, hss⟩ : ∃ s, s = decide (sx' = stSex 8) := ⟨_, rfl⟩
 have HSS := Hd hss
 obtain ⟨nn, hnn⟩ : ∃ n, n = !ss := ⟨_, rfl⟩
 have HNN := Hd hnn
 have hse : (sx' != stSex 8) = nn := by rw [hnn, hss]; by_cases h : sx' = stSex 8 <;> simp [h]
 clear hnn
 have HR := Hd hr
 have k0 : ¬ B = W.heap.size := by omega
 have k1 : ¬ W.heap.size = B := by omega
 have k2 : ¬ B = W.heap.size + 1 := by omega
 have k3 : ¬ W.heap.size + 1 = B := by omega
 have k4 : ¬ B = W.heap.size + 1 + 1 := by omega
 have k5 : ¬ W.heap.size + 1 + 1 = B := by omega
 have k8 : ¬ B = W.heap.size + 1 + 1 + 1 := by omega
 have k9 : ¬ W.heap.size + 1 + 1 + 1 = B := by omega
 have k6 : B < W.heap.size + 1 := by omega
 have k7 : B < W.heap.size + 1 + 1 := by omega
 have ka : B < W.heap.size + 1 + 1 + 1 := by omega
 clear hr hX hY hF h hss hx hy
 obtain ⟨W4, hW4⟩ : ∃ W4 : World, W4 = (((W.alloc (.cells #[.slice (some ⟨B, O, none⟩) f.1.length cap, .slice ub0 f.2.length dap] 37)).alloc (.cells #[.int .i64 8, .int .i64 g] 126)).alloc (.cells #[.string nm, .int .i64 sx, .int .i64 fa, .int .i64 mo, .int .i64 bo, .int .i64 di] 100)).alloc (.cells #[.string nm', .int .i64 sx', .int .i64 fa', .int .i64 mo', .int .i64 bo', .int .i64 di'] 100) := ⟨_, rfl⟩
 have f0 : W4.cell? ⟨W.heap.size, 0, none⟩ = some (.slice (some ⟨B, O, none⟩) f.1.length cap) := by rw [hW4]; simp [go_sem]
 have f1 : W4.cell? ⟨W.heap.size, 1, none⟩ = some (.slice ub0 f.2.length dap) := by rw [hW4]; simp [go_sem]
 have s0 : W4.cell? ⟨W.heap.size + 1, 0, none⟩ = some (.int .i64 8) := by rw [hW4]; simp [go_sem]
 have s1 : W4.cell? ⟨W.heap.size + 1, 1, none⟩ = some (.int .i64 g) := by rw [hW4]; simp [go_sem]
 have a2 : W4.cell? ⟨W.heap.size + 1 + 1, 2, none⟩ = some (.int .i64 fa) := by rw [hW4]; simp [go_sem]
 have a3 : W4.cell? ⟨W.heap.size + 1 + 1, 3, none⟩ = some (.int .i64 mo) := by rw [hW4]; simp [go_sem]
 have b1 : W4.cell? ⟨W.heap.size + 1 + 1 + 1, 1, none⟩ = some (.int .i64 sx') := by rw [hW4]; simp [go_sem]
 have b2 : W4.cell? ⟨W.heap.size + 1 + 1 + 1, 2, none⟩ = some (.int .i64 fa') := by rw [hW4]; simp [go_sem]
 have b3 : W4.cell? ⟨W.heap.size + 1 + 1 + 1, 3, none⟩ = some (.int .i64 mo') := by rw [hW4]; simp [go_sem]
 have hB4 : Below W.heap.size W W4 := by rw [hW4]; exact bwT
 have l4 : W.heap.size + 1 + 1 + 1 < W4.heap.size := by rw [hW4]; simp
 go_enter Tryz.func119, Tryz.ntmps119
 go_upto_region 3 with fail
 rw [← hW4]
 clear hW4
 refine wp_region_held_drew (S := (fun w' => w'.cell? ⟨W.heap.size + 1 + 1 + 1, 1, none⟩ = some (.int .i64 sx') ∧ w'.cell? ⟨W.heap.size + 1, 0, none⟩ = some (.int .i64 8))) krT ?_ (fun hHeld => ?_)
 ·exact kpT
 refine tkA 0 ?_
 try simp only [cD]
 refine tkA 2 ?_
 try simp only [cD]
 refine tkA 1 ?_
 try simp only [cD]
 refine tkA 3 ?_
 try simp only [cD]
 refine rd1 4 fun K hK => ?_
 go_simp
 refine (stepSexS_any _ 8 omT).mono ?_
 rintro e1 w1 ⟨rfl, hb1⟩
 have hp4 : Below W4.heap.size W4 w1 := Below.trans (show Below W4.heap.size W4 _ from bwT) (hb1.mono szT)
 have f0 := oldc hp4 omT f0
 have f1 := oldc hp4 omT f1
 have s0 := oldc hp4 omT s0
 have s1 := oldc hp4 omT s1
 have a2 := oldc hp4 omT a2
 have a3 := oldc hp4 omT a3
 have b1 := oldc hp4 omT b1
 have b2 := oldc hp4 omT b2
 have b3 := oldc hp4 omT b3
 have hp1 : Below W.heap.size W w1 := hB4.trans (hp4.mono hB4.size)
 have l1 : W.heap.size + 1 + 1 + 1 < w1.heap.size := by have := hp4.size; omega
 have hS1 := aI b1 s0
 clear hb1 hp4
 refine hK.out _ _ kpT fun hHeld => ?_
 clear hK K
 try simp only [cD]
 refine tkA 5 ?_
 try simp only [cD]
 refine wdT ?_
 clear hHeld
 have HF1 := Hd (HF.out.below hp1)
 have HU1 := Hd (HUN.out.below hp1)
 clear HF HUN x0 x1 x2 x3 x4 x5 y0 y1 y2 y3 y4 y5 k0 k1 k2 k3 k4 k5 k6 k7 k8 k9 ka hbl
 cases ss
 ·obtain rfl : nn = true := HNN.out
  have HZ := Hd (show r = false by rw [HR.out]; unfold ledT; rw [show decide (sx' = stSex 8) = false from HSS.out.symm]; rfl)
  clear HR
  go_wp2
  go_ret
  exact ⟨ret_bool HZ.out.symm, hp1⟩
 obtain rfl : nn = false := HNN.out
 have HT := Hd (show r = (f.2.any (othB a b)) by rw [HR.out]; unfold ledT; rw [show decide (sx' = stSex 8) = true from HSS.out.symm]; rfl)
 clear HR HSS
 go_wp2
 go_loopw [8, 12, 13, 14, 64] (fun _ _ _ _ s64 wl => ∃ i : Nat, i ≤ f.2.length ∧ s64 = .int .i64 i ∧ Hid (((f.2.take i).any (othB a b)) = false) ∧ Below w1.heap.size w1 wl) (fun _ _ _ _ s64 _ => f.2.length - (intOf s64).toNat)
 case atStart => exact ⟨0, Nat.zero_le _, rfl, Hd rfl, Below.refl _ _⟩
 case round =>
  obtain ⟨wi, hwi⟩ : ∃ y : World, y = wr := ⟨_, rfl⟩
  subst hwi
  obtain ⟨i, hi, rfl, HN, hbi⟩ := hrel
  have hpi : Below W.heap.size W wi := hp1.trans (Below.mono hbi hp1.size)
  by_cases hlt : i < f.2.length
  ·have hI : (i : Int) < (f.2.length : Int) := by omega
   obtain ⟨ub, uo, ma, wm, fr, tl, e1, hu, u0, u1, u2, u3, g0, g1, -, -, -, -, hul, -⟩ := (HU1.out.below hbi).uni_at hlt
   subst e1
   obtain ⟨q, hq⟩ : ∃ q, q = if ma = (a : Int) then wm else ma := ⟨_, rfl⟩
   obtain ⟨s, hs⟩ : ∃ s, s = (decide (ma = (a : Int)) || decide (wm = (a : Int))) := ⟨_, rfl⟩
   obtain ⟨t, ht⟩ : ∃ t, t = othB a b (ma, wm, fr, tl) := ⟨_, rfl⟩
   have HQ := Hd hq
   have HS := Hd hs
   have HTE := Hd (show t = (s && decide (q = (b : Int))) by
    rw [ht, hq, hs]; unfold othB
    by_cases h1 : ma = (a : Int)
    ·rw [if_pos h1, if_pos h1, decide_eq_true h1]; rfl
    ·rw [if_neg h1, if_neg h1, decide_eq_false h1]; rfl)
   have HNX := Hd (show ((f.2.take (i + 1)).any (othB a b)) = t by rw [take_snoc hu.out, List.any_append, HN.out, ht]; simp)
   have HMU := Hd (show t = true → f.2.any (othB a b) = true from fun e => List.any_eq_true.2 ⟨_, List.mem_of_getElem? hu.out, by rw [← ht]; exact e⟩)
   clear hq hs ht hu HN
   go_wp2_with fail
   refine (otherS_b _ ma wm fr tl (a : Int) q s HQ.out HS.out).mono ?_
   rintro e5 w5 ⟨rfl, hb5⟩
   have hp5 : Below w1.heap.size w1 w5 := hbi.trans (Below.mono (Below.trans (show Below wi.heap.size wi _ from bwT) (hb5.mono szT)) hbi.size)
   have hP5 : Below W.heap.size W w5 := hp1.trans (Below.mono hp5 hp1.size)
   clear hb5
   cases s
   ·have hT : t = false := by rw [HTE.out]; rfl
    have HN2 := Hd (show ((f.2.take (i + 1)).any (othB a b)) = false by rw [HNX.out, hT])
    clear hT HTE HMU HNX HS HQ
    go_wp2
    go_roundw
    case rel => exact ⟨i + 1, by omega, by go_num, HN2, hp5⟩
    case measure => simp [intOf]; omega
   ·have eq : (q == (b : Int)) = t := by rw [HTE.out]; by_cases h : q = (b : Int) <;> simp [h]
    clear HTE HS HQ
    cases t
    ·have HN2 := Hd (show ((f.2.take (i + 1)).any (othB a b)) = false from HNX.out)
     clear HMU HNX
     go_wp2
     go_roundw
     case rel => exact ⟨i + 1, by omega, by go_num, HN2, hp5⟩
     case measure => simp [intOf]; omega
    ·have HZ := Hd (show r = true by rw [HT.out]; exact HMU.out rfl)
     clear HMU HNX HT
     go_wp2
     go_ret
     exact ⟨ret_bool HZ.out.symm, hP5⟩
  ·obtain rfl : i = f.2.length := by omega
   have hI : ¬ (f.2.length : Int) < (f.2.length : Int) := by omega
   have HZ := Hd (show r = false by rw [HT.out]; have := HN.out; rwa [List.take_length] at this)
   clear HT HN
   go_wp2
   go_ret
   exact ⟨ret_bool HZ.out.symm, hpi⟩
end
theorem leadsS_b {z : Bool} {lo hi : Nat} (w : World) (v v2 : Value) (f : Fam) (h : Rd z lo hi w [v, v2] f) (hf : famB f = true) (k g : Int) (hk : 1 ≤ k ∧ k ≤ 8) (hg : 0 ≤ g ∧ g ≤ 2) (a b : Nat) (ha : a < f.1.length) (hb : b < f.1.length) (r : Bool) (hr : r = ledB f (k, g) a b) :
  Calls Tryz.prog 119 #[.agg #[v, v2], .agg #[.int .i64 k, .int .i64 g], .int .i64 a, .int .i64 b] w (PostB w r) := by
 obtain ⟨ao, an, cap, rfl, hn, -⟩ := h.fam.1.shape
 subst hn
 obtain ⟨bo, bn, dap, rfl, hn2, -⟩ := h.fam.2.shape
 subst hn2
 have h40 := (famB_facts hf).1
 have h60 := (famB_facts hf).2.1
 have h8 : k = 1 ∨ k = 2 ∨ k = 3 ∨ k = 4 ∨ k = 5 ∨ k = 6 ∨ k = 7 ∨ k = 8 := by omega
 have hg3 : g = 0 ∨ g = 1 ∨ g = 2 := by omega
 obtain ⟨x, hx⟩ : ∃ x, f.1[a]? = some x := ⟨_, List.getElem?_eq_getElem ha⟩
 obtain ⟨y, hy⟩ : ∃ y, f.1[b]? = some y := ⟨_, List.getElem?_eq_getElem hb⟩
 rw [← ledT_eq hf hk hx hy] at hr
 rcases h8 with e | e | e | e | e | e | e | e
 ·exact leadsS1_b w ao bo cap dap f h k g a b ha hb h40 h60 r e hg3 hx hy hr
 ·exact leadsS2_b w ao bo cap dap f h k g a b ha hb h40 h60 r e hg3 hx hy hr
 ·exact leadsS3_b w ao bo cap dap f h k g a b ha hb h40 h60 r e hg3 hx hy hr
 ·exact leadsS4_b w ao bo cap dap f h k g a b ha hb h40 h60 r e hg3 hx hy hr
 ·exact leadsS5_b w ao bo cap dap f h k g a b ha hb h40 h60 r e hg3 hx hy hr
 ·exact leadsS6_b w ao bo cap dap f h k g a b ha hb h40 h60 r e hg3 hx hy hr
 ·exact leadsS7_b w ao bo cap dap f h k g a b ha hb h40 h60 r e hg3 hx hy hr
 ·exact leadsS8_b w ao bo cap dap f h k g a b ha hb h40 h60 r e hg3 hx hy hr
end Go.Proofs.YtcbhdmmohdnjbaaGreat
