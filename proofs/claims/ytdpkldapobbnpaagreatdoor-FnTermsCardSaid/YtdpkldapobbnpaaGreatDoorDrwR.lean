/- Contracts: the reference's draws of rules. Written by drwr_gen.py. -/
import Derived.Test.YtdpkldapobbnpaaGreatDoorSmpS
import Derived.Test.YtdpkldapobbnpaaGreatDoorDrw
namespace Go.Proofs.YtdpkldapobbnpaaGreatDoor
set_option linter.unusedVariables false
set_option linter.unusedSimpArgs false
open Go.RowKit
def someL : List Bs := [[97, 58, 32, 70, 66, 32, 45, 62, 32, 70], [98, 58, 32, 77, 90, 32, 45, 62, 32, 77], [99, 58, 32, 109, 58, 66, 83, 32, 45, 62, 32, 83], [100, 58, 32, 119, 58, 90, 83, 32, 45, 62, 32, 83], [101, 58, 32, 70, 83, 32, 45, 62, 32, 66], [102, 58, 32, 77, 66, 83, 32, 45, 62, 32, 77, 66], [103, 58, 32, 109, 58, 70, 83, 32, 45, 62, 32, 46], [104, 58, 32, 94, 70, 70, 32, 45, 62, 32, 70], [105, 58, 32, 77, 77, 36, 32, 45, 62, 32, 77], [106, 58, 32, 101, 66, 32, 45, 62, 32, 66], [107, 58, 32, 121, 66, 32, 45, 62, 32, 101, 66], [108, 58, 32, 119, 58, 94, 90, 121, 66, 32, 45, 62, 32, 66], [109, 58, 32, 90, 66, 32, 45, 62, 32, 66], [110, 58, 32, 66, 66, 32, 45, 62, 32, 66], [111, 58, 32, 109, 58, 87, 72, 32, 45, 62, 32, 46], [112, 58, 32, 70, 90, 83, 32, 45, 62, 32, 83], [113, 58, 32, 83, 70, 32, 45, 62, 32, 90, 72], [114, 58, 32, 87, 66, 32, 45, 62, 32, 66], [115, 58, 32, 72, 87, 32, 45, 62, 32, 46], [116, 58, 32, 119, 58, 72, 87, 36, 32, 45, 62, 32, 46], [117, 58, 32, 70, 87, 32, 45, 62, 32, 77], [118, 58, 32, 77, 72, 32, 45, 62, 32, 70], [120, 58, 32, 68, 32, 45, 62, 32, 83]]
def zL : Bs := [122, 58, 32, 70, 66, 32, 45, 62, 32, 70]
def poolL : List Rul := [(⟨#[97]⟩, 0, 0, [(1, 0), (3, 0)], [(1, 0)]), (⟨#[98]⟩, 0, 0, [(2, 0), (4, 0)], [(2, 0)]), (⟨#[99]⟩, 1, 0, [(3, 0), (5, 0)], [(5, 0)]), (⟨#[100]⟩, 2, 0, [(4, 0), (5, 0)], [(5, 0)]), (⟨#[101]⟩, 0, 0, [(1, 0), (5, 0)], [(3, 0)]), (⟨#[102]⟩, 0, 0, [(2, 0), (3, 0), (5, 0)], [(2, 0), (3, 0)]), (⟨#[103]⟩, 1, 0, [(1, 0), (5, 0)], []), (⟨#[104]⟩, 0, 1, [(1, 0), (1, 0)], [(1, 0)]), (⟨#[105]⟩, 0, 2, [(2, 0), (2, 0)], [(2, 0)]), (⟨#[106]⟩, 0, 0, [(3, 1)], [(3, 0)]), (⟨#[107]⟩, 0, 0, [(3, 2)], [(3, 1)]), (⟨#[108]⟩, 2, 1, [(4, 0), (3, 2)], [(3, 0)]), (⟨#[109]⟩, 0, 0, [(4, 0), (3, 0)], [(3, 0)]), (⟨#[110]⟩, 0, 0, [(3, 0), (3, 0)], [(3, 0)]), (⟨#[111]⟩, 1, 0, [(8, 0), (7, 0)], []), (⟨#[112]⟩, 0, 0, [(1, 0), (4, 0), (5, 0)], [(5, 0)]), (⟨#[113]⟩, 0, 0, [(5, 0), (1, 0)], [(4, 0), (7, 0)]), (⟨#[114]⟩, 0, 0, [(8, 0), (3, 0)], [(3, 0)]), (⟨#[115]⟩, 0, 0, [(7, 0), (8, 0)], []), (⟨#[116]⟩, 2, 2, [(7, 0), (8, 0)], []), (⟨#[117]⟩, 0, 0, [(1, 0), (8, 0)], [(2, 0)]), (⟨#[118]⟩, 0, 0, [(2, 0), (7, 0)], [(1, 0)]), (⟨#[120]⟩, 0, 0, [(6, 0)], [(5, 0)]), (⟨#[122]⟩, 0, 0, [(1, 0), (3, 0)], [(1, 0)]), (⟨#[102, 115]⟩, 0, 0, [(1, 0), (5, 0)], [(3, 0)]), (⟨#[102, 100]⟩, 0, 0, [(1, 0), (6, 0)], [(4, 0)]), (⟨#[109, 115]⟩, 0, 0, [(2, 0), (5, 0)], [(3, 0)]), (⟨#[109, 100]⟩, 0, 0, [(2, 0), (6, 0)], [(4, 0)]), (⟨#[102, 98]⟩, 0, 0, [(1, 0), (3, 0)], [(1, 0)]), (⟨#[109, 122]⟩, 0, 0, [(2, 0), (4, 0)], [(2, 0)]), (⟨#[98, 115]⟩, 1, 0, [(3, 0), (5, 0)], [(5, 0)]), (⟨#[98, 100]⟩, 1, 0, [(3, 0), (6, 0)], [(6, 0)]), (⟨#[122, 115]⟩, 2, 0, [(4, 0), (5, 0)], [(5, 0)]), (⟨#[122, 100]⟩, 2, 0, [(4, 0), (6, 0)], [(6, 0)]), (⟨#[102, 122]⟩, 0, 0, [(1, 0), (4, 0)], [(2, 0)]), (⟨#[109, 98]⟩, 0, 0, [(2, 0), (3, 0)], [(1, 0)]), (⟨#[98, 115]⟩, 0, 0, [(3, 0), (5, 0)], [(5, 0)]), (⟨#[98, 100]⟩, 0, 0, [(3, 0), (6, 0)], [(6, 0)]), (⟨#[122, 115]⟩, 0, 0, [(4, 0), (5, 0)], [(5, 0)]), (⟨#[122, 100]⟩, 0, 0, [(4, 0), (6, 0)], [(6, 0)]), (⟨#[109, 98, 115]⟩, 0, 0, [(2, 0), (3, 0), (5, 0)], [(2, 0), (3, 0)]), (⟨#[109, 98, 100]⟩, 0, 0, [(2, 0), (3, 0), (6, 0)], [(2, 0)])]
def goodB (r : Rul) : Bool := isRule r && (decide (ruleI (ruleTxt r).data.toList = some r) && decide (r ∈ poolL))
theorem some_good : ∀ l ∈ someL, (ruleSG l).1 = ⟨#[]⟩ ∨ goodB (ruleSG l) = true := by decide +kernel
theorem z_good : goodB (ruleSG zL) = true := by decide +kernel
theorem smp_good (l : Bs) : ∀ r ∈ smpX l, goodB r = true := by
 have h1 : ∀ r ∈ (gen8L ++ halfL).map ruleSG, goodB r = true := by decide +kernel
 have h2 : ∀ r ∈ (mer6L ++ halfL).map ruleSG, goodB r = true := by decide +kernel
 have h3 : ∀ r ∈ ((mer6L ++ halfL) ++ two2L).map ruleSG, goodB r = true := by decide +kernel
 unfold smpX smpT
 split
 ·exact h1
 ·split
  ·exact h2
  ·split
   ·exact h3
   ·intro r hr; cases hr
theorem OffF.setNew {fp : List Nat} {a w : World} (h : OffF fp a w) {q : Addr} (hq : a.heap.size ≤ q.block) (u : Value) : OffF fp a (w.setCell q u) :=
 ⟨h.os, h.tape, h.output, by simpa using h.size, fun b hb hn => (Below.heap_setCell w q u b (by omega)).trans (h.block b hb hn)⟩
def PostDR (p : Nat) (w : World) (e : Ending) (w' : World) : Prop := ∃ u0 u1 u2 u3 u4 r, e = .returned (.agg #[u0, u1, u2, u3, u4]) ∧ Ow w.heap.size w'.heap.size w' [u0, u1, u2, u3, u4] r ∧ Hid (goodB r = true) ∧ CurOk p w' ∧ OffF [p] w w'
theorem rul_form {lo hi : Nat} {w : World} {v0 v1 v2 v3 v4 : Value} {r : Rul} (h : Ow lo hi w [v0, v1, v2, v3, v4] r) : ∃ nm sx pl fr tw fao fn fcap tao tn tcap, r = (nm, sx, pl, fr, tw) ∧ v0 = .string nm ∧ v1 = .int .i64 sx ∧ v2 = .int .i64 pl ∧ v3 = .slice fao fn fcap ∧ v4 = .slice tao tn tcap := by
 obtain ⟨nm, sx, pl, fr, tw⟩ := r
 obtain ⟨vfr, vtw, e1, -, -, -, hfr, htw⟩ := Rd.dRul h.rd
 simp only [List.cons.injEq, and_true] at e1
 obtain ⟨rfl, rfl, rfl, rfl, rfl⟩ := e1
 obtain ⟨fao, fn, fcap, rfl, -⟩ := hfr.shape
 obtain ⟨tao, tn, tcap, rfl, -⟩ := htw.shape
 exact ⟨_, _, _, _, _, _, _, _, _, _, _, rfl, rfl, rfl, rfl, rfl, rfl⟩
set_option maxRecDepth 20000 in
set_option maxHeartbeats 8000000 in
theorem l4Some_any (w : World) (p : Nat) (h : CurOk p w) :
  Calls Tryz.prog 112 #[.pointer (some ⟨p, 0, none⟩)] w (PostDR p w) := by
 have hpl := h.lt
 have hs64 := lt64_lits (ls := someL) (by decide)
 have hsz := sz_lits (ls := someL) (by decide)
 obtain ⟨W0, hW0⟩ : ∃ W : World, W = w.alloc (.cells #[.string ⟨#[]⟩, .int .i64 0, .int .i64 0, .slice none 0 0, .slice none 0 0] 50) := ⟨_, rfl⟩
 have HL := Lib.hid (show Rd true (w.heap.size + 1) (w.heap.size + 1 + 1) (W0.alloc (.cells ((someL.map txt).map Value.string).toArray 9)) [.slice (some ⟨w.heap.size + 1, 0, none⟩) 23 23] (someL.map txt) by
  have h := (Ow.strs_lit0 W0 9 (someL.map txt) hsz.1 hsz.2).rd
  rw [hW0, World.size_alloc] at h
  rw [hW0]
  exact h)
 have HC0 := Lib.hid (show CurOk p (W0.alloc (.cells ((someL.map txt).map Value.string).toArray 9)) by rw [hW0]; exact h.grow bwT)
 have HW0 := Lib.hid hW0
 have HS := Lib.hid hs64.2
 clear h hs64 hsz hW0
 go_enter Tryz.func112, Tryz.ntmps112
 go_wp2_with (go_at_call 76; rw [← HW0.out]; refine (l01Pick_any _ p HC0.out _ (someL.map txt) HL.out (by decide) (by decide) (.inl (by omega)) (by rw [HW0.out]; simp)).mono ?_)
 rintro e1 w1 ⟨s, rfl, hs, hC1, hO1⟩
 obtain ⟨ls, hls, hsl0⟩ := List.mem_map.1 hs
 have hF1 : OffF [p] w w1 := by
  have h0 := HW0.out
  subst h0
  exact (((OffF.refl [p] w).alloc _).alloc _).trans hO1
 have sz0 : W0.heap.size = w.heap.size + 1 := by rw [HW0.out]; simp
 have s1 := hO1.size
 simp only [World.size_alloc, sz0] at s1
 have r0 : w1.cell? ⟨w.heap.size, 0, none⟩ = some (.string ⟨#[]⟩) := offq hO1 (show w.heap.size ≠ p by omega) (by simp [sz0]; omega) (by rw [HW0.out]; simp [go_sem])
 have r1 : w1.cell? ⟨w.heap.size, 1, none⟩ = some (.int .i64 0) := offq hO1 (show w.heap.size ≠ p by omega) (by simp [sz0]; omega) (by rw [HW0.out]; simp [go_sem])
 have r2 : w1.cell? ⟨w.heap.size, 2, none⟩ = some (.int .i64 0) := offq hO1 (show w.heap.size ≠ p by omega) (by simp [sz0]; omega) (by rw [HW0.out]; simp [go_sem])
 have r3 : w1.cell? ⟨w.heap.size, 3, none⟩ = some (.slice none 0 0) := offq hO1 (show w.heap.size ≠ p by omega) (by simp [sz0]; omega) (by rw [HW0.out]; simp [go_sem])
 have r4 : w1.cell? ⟨w.heap.size, 4, none⟩ = some (.slice none 0 0) := offq hO1 (show w.heap.size ≠ p by omega) (by simp [sz0]; omega) (by rw [HW0.out]; simp [go_sem])
 have rf : ∀ o, w1.frozen? ⟨w.heap.size, o, none⟩ = false := offfr hO1 (show w.heap.size ≠ p by omega) (by simp [sz0]; omega) (by rw [HW0.out]; intro o; simp [go_sem])
 have hgd := some_good ls hls
 have hsl : s.size ≤ 64 := HS.out _ hs
 obtain ⟨O, hO⟩ : ∃ O, O = ruleS s.data.toList := ⟨_, rfl⟩
 obtain ⟨r, hr⟩ : ∃ r, r = O.getD rul0 := ⟨_, rfl⟩
 have HGD := Lib.hid (show r.1 = ⟨#[]⟩ ∨ goodB r = true by rw [hr, hO, ← hsl0, list_txt]; exact hgd)
 have HO := Lib.hid hO
 have HR := Lib.hid hr
 clear hs hls hgd hO hr hO1 HL HC0 HS HW0 sz0 hsl0 W0
 go_wp2_with fail
 refine (parseRuleS_any _ s (by omega) O HO.out).mono ?_
 rintro e2 w2 ⟨v0, v1, v2, v3, v4, rfl, hor, hb2⟩
 rw [← HR.out] at hor
 have s2 := hb2.size
 have hF2 : OffF [p] w w2 := OffF.below hF1 hb2
 have hC2 : CurOk p w2 := hC1.grow hb2
 have lr1 : w.heap.size < w1.heap.size := by omega
 replace r0 := oldc hb2 lr1 r0
 replace r1 := oldc hb2 lr1 r1
 replace r2 := oldc hb2 lr1 r2
 replace r3 := oldc hb2 lr1 r3
 replace r4 := oldc hb2 lr1 r4
 replace rf : ∀ o, w2.frozen? ⟨w.heap.size, o, none⟩ = false := fun o => (hb2.frozen (p := ⟨w.heap.size, o, none⟩) lr1).trans (rf o)
 obtain ⟨nm, sx, pl, fr, tw, fao, fn, fcap, tao, tn, tcap, hrr, rfl, rfl, rfl, rfl, rfl⟩ := rul_form hor
 subst hrr
 have HOR := Lib.hid hor
 have lr2 : w.heap.size < w2.heap.size := by omega
 have hne : ¬ w.heap.size = w2.heap.size := by omega
 have hne2 : ¬ w2.heap.size = w.heap.size := by omega
 have HF2 := Lib.hid hF2
 have HC2 := Lib.hid hC2
 clear hor hb2 hF1 hC1 hF2 hC2 HO HR
 by_cases hn : nm = ⟨#[]⟩
 ·subst hn
  obtain ⟨O2, hO2⟩ : ∃ O, O = ruleS (txt zL).data.toList := ⟨_, rfl⟩
  obtain ⟨r2, hr2⟩ : ∃ r, r = O2.getD rul0 := ⟨_, rfl⟩
  have HG2 := Lib.hid (show goodB r2 = true by rw [hr2, hO2, list_txt]; exact z_good)
  have HO2 := Lib.hid hO2
  have HR2 := Lib.hid hr2
  clear HGD HOR hO2 hr2
  go_wp2_with fail
  refine (parseRuleS_any _ (txt zL) (by rw [size_txt]; decide) O2 HO2.out).mono ?_
  rintro e3 w3 ⟨v0, v1, v2, v3, v4, rfl, hor, hb3⟩
  rw [← HR2.out] at hor
  have s3 := hb3.size
  simp only [World.size_alloc] at s3
  obtain ⟨nm3, sx3, pl3, fr3, tw3, fao3, fn3, fcap3, tao3, tn3, tcap3, hrr, rfl, rfl, rfl, rfl, rfl⟩ := rul_form hor
  subst hrr
  replace r0 : w3.cell? ⟨w.heap.size, 0, none⟩ = some (.string ⟨#[]⟩) := oldc hb3 ltT (by simp [go_sem, *])
  replace r1 : w3.cell? ⟨w.heap.size, 1, none⟩ = some (.int .i64 0) := oldc hb3 ltT (by simp [go_sem, *])
  replace r2 : w3.cell? ⟨w.heap.size, 2, none⟩ = some (.int .i64 0) := oldc hb3 ltT (by simp [go_sem, *])
  replace r3 : w3.cell? ⟨w.heap.size, 3, none⟩ = some (.slice none 0 0) := oldc hb3 ltT (by simp [go_sem, *])
  replace r4 : w3.cell? ⟨w.heap.size, 4, none⟩ = some (.slice none 0 0) := oldc hb3 ltT (by simp [go_sem, *])
  replace rf : ∀ o, w3.frozen? ⟨w.heap.size, o, none⟩ = false := fun o => (hb3.frozen (p := ⟨w.heap.size, o, none⟩) ltT).trans (by simp [go_sem, *])
  have x0 : w3.cell? ⟨w2.heap.size, 0, none⟩ = some (.string ⟨#[]⟩) := oldc hb3 (by simp) (by simp [go_sem])
  have x1 : w3.cell? ⟨w2.heap.size, 1, none⟩ = some (.int .i64 sx) := oldc hb3 (by simp) (by simp [go_sem])
  have x2 : w3.cell? ⟨w2.heap.size, 2, none⟩ = some (.int .i64 pl) := oldc hb3 (by simp) (by simp [go_sem])
  have x3 : w3.cell? ⟨w2.heap.size, 3, none⟩ = some (.slice fao fn fcap) := oldc hb3 (by simp) (by simp [go_sem])
  have x4 : w3.cell? ⟨w2.heap.size, 4, none⟩ = some (.slice tao tn tcap) := oldc hb3 (by simp) (by simp [go_sem])
  have xf : ∀ o, w3.frozen? ⟨w2.heap.size, o, none⟩ = false := fun o => (hb3.frozen (p := ⟨w2.heap.size, o, none⟩) (by simp)).trans (by simp [go_sem])
  have hF3 : OffF [p] w w3 := OffF.below (HF2.out.alloc _) hb3
  have hC3 : CurOk p w3 := CurOk.grow (CurOk.grow HC2.out (show Below w2.heap.size w2 _ from bwT)) hb3
  have HOR3 := Lib.hid hor
  have lr3 : w.heap.size < w3.heap.size := by omega
  clear hb3 hor HF2 HC2 HO2 HR2
  go_wp2
  exact bodyPost_ret (v := .agg #[.string nm3, .int .i64 sx3, .int .i64 pl3, .slice fao3 fn3 fcap3, .slice tao3 tn3 tcap3]) (by simp [results, go_sem, *]) rfl ⟨_, _, _, _, _, _, rfl, (HOR3.out.keep zmT).mono (by simp; omega) (by simp), HG2, hC3.below bwT, (by repeat' (first | (with_reducible assumption) | (with_reducible exact HF2.out) | (with_reducible refine OffF.setNew ?_ (by first | omega | (simp; omega) | simp) _) | (with_reducible refine OffF.alloc ?_ _)))⟩
 ·have h2 := ne_text hn
  have HG2 := Lib.hid (show goodB (nm, sx, pl, fr, tw) = true by rcases HGD.out with h | h; exact absurd h hn; exact h)
  clear HGD hn
  go_wp2
  exact bodyPost_ret (v := .agg #[.string nm, .int .i64 sx, .int .i64 pl, .slice fao fn fcap, .slice tao tn tcap]) (by simp [results, go_sem, *]) rfl ⟨_, _, _, _, _, _, rfl, (HOR.out.keep zmT).mono (by omega) (by simp), HG2, HC2.out.below bwT, (by repeat' (first | (with_reducible assumption) | (with_reducible exact HF2.out) | (with_reducible refine OffF.setNew ?_ (by first | omega | (simp; omega) | simp) _) | (with_reducible refine OffF.alloc ?_ _)))⟩
end Go.Proofs.YtdpkldapobbnpaaGreatDoor
