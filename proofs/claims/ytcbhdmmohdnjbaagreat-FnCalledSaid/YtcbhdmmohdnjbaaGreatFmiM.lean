/- Texts laid one behind the other (merge.py): Fnd, ParI, DepI, UniI, Set, FamI, Fnd2. -/
import Derived.Test.YtcbhdmmohdnjbaaGreatFamM
import Derived.Deep.RegionHeldLaw
import Derived.Test.YtcbhdmmohdnjbaaGreatBase
import Derived.Maps.Own
import Derived.Maps.OwnOps
import Derived.Maps.Views
import Derived.Carry
namespace Go.Proofs.YtcbhdmmohdnjbaaGreat
set_option linter.unusedVariables false
set_option linter.unusedSimpArgs false
open Go.RowKit
set_option maxHeartbeats 100000000
section
def upQ (sex : Int) (x : Per) : Int := if sex = 1 then x.2.2.1 else x.2.2.2.1
def fnd (ps : List Per) (sex : Int) : Nat → Nat → Nat
 | 0, p => p
 | k + 1, p => match ps[p]? with | some x => if 0 ≤ upQ sex x then fnd ps sex k (upQ sex x).toNat else p | none => p
def fo (ps : List Per) (sex : Int) (p : Nat) : Nat := fnd ps sex p p
def sexB (sex : Int) : Bool := decide (sex = 1 ∨ sex = 2)
section
variable (w : World) (sex : Int)
end
end
section
set_option maxRecDepth 20000 in
theorem parI_b {z : Bool} {lo hi : Nat} (w : World) (v : Value) (ps : List Per) (h : Rd z lo hi w [v] ps) (k : Nat) (hP : PplTo ps k) {nm : ByteArray} {sx fa mo born di : Int} (hk : ps[k]? = some (nm, sx, fa, mo, born, di)) (q : Int) (sex late : Int) (hl0 : 0 ≤ late) (hl1 : late ≤ 1)
  (r : Bool) (hr : r = upOk ps k born q sex late) :
  Calls Tryz.prog 139 #[v, .int .i64 k, .int .i64 q, .int .i64 sex, .int .i64 late] w (PostB w r) := by
 obtain ⟨ao, n, cap, rfl, rfl, hnc, hcm, hnone⟩ := h.shape
 unfold maxLen at *
 have hkl : k < ps.length := (List.getElem?_eq_some_iff.1 hk).1
 have HR := Hd hr
 clear hr
 by_cases h1 : q = -1
 ·obtain rfl : r = true := by rw [HR.out, upOk]; simp [h1]
  subst h1
  clear h hP
  go_enter Tryz.func139, Tryz.ntmps139
  go_wp2
  go_ret
  exact ⟨rfl, bwT⟩
 have h1' : (q == -1) = false := by simpa using h1
 by_cases h2 : 0 ≤ q ∧ q < k
 ·obtain ⟨m, rfl⟩ := Int.eq_ofNat_of_zero_le h2.1
  have hm : m < k := by omega
  obtain ⟨b, off, nm0, sx0, fa0, mo0, bo0, di0, rfl, hx, p0, p1, p2, p3, p4, p5, g0, g1, g2, g3, g4, g5, -, -, hbl, -⟩ := h.per_at (show m < ps.length by omega)
  obtain ⟨_, _, nm1, sx1, fa1, mo1, bo1, di1, ee, hy, -, -, -, -, c4, -, -, -, -, -, -, -, -, -, -, -⟩ := h.per_at hkl
  simp only [Option.some.injEq, Addr.mk.injEq, and_true] at ee
  obtain ⟨rfl, rfl⟩ := ee
  obtain ⟨rfl, rfl, rfl, rfl, rfl, rfl⟩ : nm = nm1 ∧ sx = sx1 ∧ fa = fa1 ∧ mo = mo1 ∧ born = bo1 ∧ di = di1 := by
   have := hk.symm.trans hy.out
   simpa using this
  obtain ⟨-, f2, f3, -⟩ := hP.at hm hx.out
  have HB := Hd (show r = (decide (sx0 = sex) && (decide (bo0 < born) && (decide (di0 = -1) || decide (born ≤ di0 + late)))) by
   rw [HR.out, upOk, upC, Int.toNat_natCast, hx.out]
   have e1 : ¬ ((m : Nat) : Int) = -1 := by omega
   have e2 : (0 : Int) ≤ ((m : Nat) : Int) ∧ ((m : Nat) : Int) < (k : Int) := by omega
   simp only [e1, e2, decide_false, decide_true, and_self, Bool.false_or, Bool.true_and]
   rw [Bool.decide_or])
  have hI1 : ¬ ((m : Nat) : Int) < 0 := by omega
  have hI2 : ¬ ((k : Nat) : Int) ≤ ((m : Nat) : Int) := by omega
  have hI3 : ((m : Nat) : Int) < (ps.length : Int) := by omega
  have hI4 : ((k : Nat) : Int) < (ps.length : Int) := by omega
  have hwr : IntKind.i64.wrap (di0 + late) = di0 + late := IntWalk.i64_in _ omT
  have nb1 : ¬ b = w.heap.size := by omega
  have nb2 : ¬ w.heap.size = b := by omega
  clear h hP hx hy hk HR h2 f2 f3
  by_cases q1 : sx0 = sex
  ·have q1' : (sx0 == sex) = true := by simpa using q1
   by_cases q2 : bo0 < born
   ·by_cases q3 : di0 = -1
    ·have q3' : (di0 == -1) = true := by simpa using q3
     obtain rfl : r = true := by rw [HB.out]; simp [*]
     clear HB
     go_enter Tryz.func139, Tryz.ntmps139
     go_wp2_with fail
     go_quiet (fail)
     go_wp2
     go_ret
     exact ⟨rfl, bwT⟩
    ·have q3' : (di0 == -1) = false := by simpa using q3
     by_cases q4 : born ≤ di0 + late
     ·obtain rfl : r = true := by rw [HB.out]; simp [*]
      clear HB
      go_enter Tryz.func139, Tryz.ntmps139
      go_wp2_with fail
      go_quiet (fail)
      go_wp2
      go_ret
      exact ⟨rfl, bwT⟩
     ·have q4' : decide (born ≤ di0 + late) = false := by simpa using q4
      obtain rfl : r = false := by rw [HB.out]; simp [q1, q2, q3, q4]
      clear HB
      go_enter Tryz.func139, Tryz.ntmps139
      go_wp2_with fail
      go_quiet (fail)
      go_wp2
      go_ret
      exact ⟨rfl, bwT⟩
   ·have q2' : decide (bo0 < born) = false := by simpa using q2
    obtain rfl : r = false := by rw [HB.out]; simp [q1, q2]
    clear HB
    go_enter Tryz.func139, Tryz.ntmps139
    go_wp2_with fail
    go_quiet (fail)
    go_wp2
    go_ret
    exact ⟨rfl, bwT⟩
  ·have q1' : (sx0 == sex) = false := by simpa using q1
   obtain rfl : r = false := by rw [HB.out]; simp [q1]
   clear HB
   go_enter Tryz.func139, Tryz.ntmps139
   go_wp2_with fail
   go_quiet (fail)
   go_wp2
   go_ret
   exact ⟨rfl, bwT⟩
 ·obtain rfl : r = false := by rw [HR.out, upOk]; simp [h1]; omega
  clear h hP HR
  go_enter Tryz.func139, Tryz.ntmps139
  go_wp2
  all_goals first
   | (exfalso; omega)
   | (go_ret; exact ⟨rfl, bwT⟩)
end
section
set_option maxRecDepth 20000 in
theorem depI_any {z : Bool} {lo hi : Nat} (w : World) (v : Value) (ps : List Per) (h : Rd z lo hi w [v] ps) (hP : PplTo ps ps.length) (hl : ps.length ≤ 40) :
  Calls Tryz.prog 140 #[v] w (PostOw w (deps ps)) := by
 obtain ⟨ao, n, cap, rfl, rfl, hnc, hcm, hnone⟩ := h.shape
 unfold maxLen at *
 go_enter Tryz.func140, Tryz.ntmps140
 go_wp2_with (at_make; refine wpList_mk (α := Int) rfl rfl slInt (y0 := 0) (fun _ => ⟨rfl, by unfold I64; omega, rfl⟩) rfl rfl rfl rfl omT mxT ?_; intro w1 how hb1 hlt)
 go_loopw [4, 5, 7, 13] (fun _ _ _ s13 wr => ∃ k : Nat, k ≤ ps.length ∧ s13 = .int .i64 k ∧ Ow w.heap.size (w.heap.size + 1) wr [.slice (some ⟨w.heap.size, 0, none⟩) ps.length ps.length] (deps (ps.take k) ++ List.replicate (ps.length - k) 0) ∧ w.heap.size < wr.heap.size ∧ Below w.heap.size w wr) (fun _ _ _ s13 _ => ps.length - (intOf s13).toNat)
 case atStart => exact ⟨0, Nat.zero_le _, rfl, by simpa [deps] using how, hlt, hb1⟩
 case round =>
  rename_i wr
  obtain ⟨k, hk, rfl, how', hlw, hb⟩ := hrel
  have sW := hb.size
  clear how hb1 hlt
  by_cases hlt : k < ps.length
  ·have hI : (k : Int) < (ps.length : Int) := by omega
   obtain ⟨b, off, nm, sx, fa, mo, bo, di, rfl, hx, p0, p1, p2, p3, p4, p5, g0, g1, g2, g3, g4, g5, -, -, hbl, -⟩ := (h.below hb).per_at hlt
   obtain ⟨-, -, -, ffa, fmo, -⟩ := hP.at hlt hx.out
   have hbd := deps_bd ps k hk
   have hdl : (deps (ps.take k)).length = k := by rw [deps_len]; simp; omega
   have HD := Hd (show deps (ps.take (k + 1)) = deps (ps.take k) ++ [depOf (deps (ps.take k)) fa mo] by rw [take_snoc hx.out, deps_snoc])
   obtain ⟨D, hD⟩ : ∃ D, D = deps (ps.take k) := ⟨_, rfl⟩
   rw [← hD] at how' hbd hdl HD
   clear hD hx
   have hd1 := dep1_bd hbd fa
   have hd2 := dep1_bd hbd mo
   have hBn := Hd hbd
   obtain ⟨N, hN⟩ : ∃ N, N = ps.length := ⟨_, rfl⟩
   obtain ⟨wo, hwo⟩ : ∃ W : World, W = wr := ⟨_, rfl⟩
   subst hwo
   go_wp2
   go_loopw [7, 24] (fun _ s24 wq => ∃ (j : Nat) (x : Int), j ≤ 2 ∧ s24 = .int .i64 j ∧ Hid ((j = 0 → x = 0) ∧ (j = 1 → x = dep1 D fa) ∧ (j = 2 → x = depOf D fa mo)) ∧ 0 ≤ x ∧ x ≤ 100 ∧ Ow w.heap.size (w.heap.size + 1) wq [.slice (some ⟨w.heap.size, 0, none⟩) ps.length ps.length] ((D ++ List.replicate (ps.length - k) 0).set k x) ∧ wq.cell? ⟨wo.heap.size + 1, 0, none⟩ = some (.int .i64 fa) ∧ wq.cell? ⟨wo.heap.size + 1, 1, none⟩ = some (.int .i64 mo) ∧ wo.heap.size + 1 < wq.heap.size ∧ Below w.heap.size w wq) (fun _ s24 _ => 2 - (intOf s24).toNat)
   case atStart =>
    refine ⟨0, 0, by omega, rfl, Hd ⟨fun _ => rfl, fun h => absurd h omT, fun h => absurd h omT⟩, by omega, by omega, ?_, by simp [go_sem], by simp [go_sem], by simp, bwT⟩
    have e : (D ++ List.replicate (ps.length - k) 0).set k 0 = D ++ List.replicate (ps.length - k) 0 := by
     rw [List.set_append_right _ _ omT, hdl, Nat.sub_self]
     have : ps.length - k = (ps.length - k - 1) + 1 := by omega
     rw [this, List.replicate_succ]; rfl
    rw [e]
    exact how'.keep zmT
   case round =>
    obtain ⟨j, x, hj2, rfl, hj, hx0, hx1, how, hc0, hc1, hsz, hb2⟩ := hrel
    by_cases hjl : j < 2
    ·have hjI : (j : Int) < 2 := by omega
     by_cases j0 : j = 0
     ·subst j0
      rcases ffa with rfl | ffa
      ·have HN := Hd (show (((0 + 1) = 0 → x = 0) ∧ ((0 + 1) = 1 → x = dep1 D (-1)) ∧ ((0 + 1) = 2 → x = depOf D (-1) mo)) by have := hj.out; exact ⟨fun h => absurd h omT, fun _ => by rw [this.1 rfl]; rfl, fun h => absurd h omT⟩)
       clear hj
       go_wp2
       go_roundw
       case rel => exact ⟨0 + 1, x, by omega, by go_num, HN, hx0, hx1, how, hc0, hc1, hsz, hb2⟩
       case measure => simp [intOf]
      obtain ⟨m, rfl⟩ := Int.eq_ofNat_of_zero_le ffa.1
      have hmk : m < k := by omega
      obtain ⟨y, hy, cy, iy1, iy2, fy, -⟩ := how.int_at0 (i := m) omT
      obtain ⟨x', hx', cx, ix1, ix2, fx, -⟩ := how.int_at0 (i := k) omT
      have hxe : x' = x := by
       have := hx'.out
       rw [List.getElem?_set_self soT] at this
       exact (Option.some.inj this).symm
      subst hxe
      have hyD : D[m]? = some y := by
       have := hy.out
       rw [List.getElem?_set_ne omT, List.getElem?_append_left omT] at this
       exact this
      have hyb := hBn.out y (List.mem_of_getElem? hyD)
      have ed : dep1 D ((m : Nat) : Int) = y + 1 := by
       rw [dep1, if_pos omT, Int.toNat_natCast, List.getD_eq_getElem?_getD, hyD]; rfl
      have hw1 : wrap64 (y + 1) = y + 1 := IntWalk.wrap64_in _ omT
      have hw2 : IntKind.i64.wrap (y + 1) = y + 1 := IntWalk.i64_in _ omT
      have n1 : ¬ m = k := by omega
      have n2 : ¬ k = m := by omega
      have mI : ((m : Nat) : Int) < (ps.length : Int) := by omega
      have m0 : (0 : Int) ≤ ((m : Nat) : Int) := by omega
      have hset := how.int_set0 (i := k) omT (y := max x' (y + 1)) ⟨by omega, by omega⟩
      rw [List.set_set] at hset
      have HS := Hd hset
      have HN := Hd (show (((0 + 1) = 0 → (max x' (y + 1)) = 0) ∧ ((0 + 1) = 1 → (max x' (y + 1)) = dep1 D ((m : Nat) : Int)) ∧ ((0 + 1) = 2 → (max x' (y + 1)) = depOf D ((m : Nat) : Int) mo)) by have := hj.out; exact ⟨fun h => absurd h omT, fun _ => by rw [ed]; have := this.1 rfl; omega, fun h => absurd h omT⟩)
      clear hset how hj hy hx' hyD ed hBn
      by_cases c0 : x' < y + 1
      ·have hmax : max x' (y + 1) = y + 1 := by omega
       go_upto_region 9 with fail
       refine wp_region_held_drew (S := (fun w' => w'.cell? ⟨w.heap.size, m, none⟩ = some (.int .i64 y))) krT ?_ (fun hHeld => ?_)
       ·(try dsimp only); go_keep
       refine wpAnyH_take (i := 0) (oi := _) (v := ?_) rfl krT krT krT (fun _ _ _ h => h) (Or.inl ⟨by rfl, ?_⟩) (by assumption) ?_
       rotate_left
       ·intro w hSw; (try dsimp only at hSw); go_simp <;> with_reducible rfl
       try simp only [cD]
       refine wpAnyH_take (i := 1) (oi := _) (v := ?_) rfl krT krT krT (fun _ _ _ h => h) (Or.inl ⟨by rfl, ?_⟩) (by assumption) ?_
       rotate_left
       ·intro w hSw; (try dsimp only at hSw); go_simp <;> with_reducible rfl
       try simp only [cD]
       refine wpAnyH_take (i := 2) (oi := _) (v := ?_) rfl krT krT krT (fun _ _ _ h => h) (Or.inl ⟨by rfl, ?_⟩) (by assumption) ?_
       rotate_left
       ·intro w hSw; (try dsimp only at hSw); go_simp <;> with_reducible rfl
       try simp only [cD]
       refine wpAnyH_take (i := 3) (oi := _) (v := ?_) rfl krT krT krT (fun _ _ _ h => h) (Or.inl ⟨by rfl, ?_⟩) (by assumption) ?_
       rotate_left
       ·intro w hSw; (try dsimp only at hSw); go_simp <;> with_reducible rfl
       try simp only [cD]
       refine wpAnyH_take (i := 4) (oi := _) (v := ?_) rfl krT krT krT (fun _ _ _ h => h) (Or.inl ⟨by rfl, ?_⟩) (by assumption) ?_
       rotate_left
       ·intro w hSw; (try dsimp only at hSw); go_simp <;> with_reducible rfl
       try simp only [cD]
       refine wpAnyH_take (i := 6) (oi := _) (v := ?_) rfl krT krT krT (fun _ _ _ h => h) (Or.inl ⟨by rfl, ?_⟩) (by assumption) ?_
       rotate_left
       ·intro w hSw; (try dsimp only at hSw); go_simp <;> with_reducible rfl
       try simp only [cD]
       refine wpAnyH_take (i := 7) (oi := _) (v := ?_) rfl krT krT krT (fun _ _ _ h => h) (Or.inl ⟨by rfl, ?_⟩) (by assumption) ?_
       rotate_left
       ·intro w hSw; (try dsimp only at hSw); go_simp <;> with_reducible rfl
       try simp only [cD]
       refine wpAnyH_take (i := 8) (oi := _) (v := ?_) rfl krT krT krT (fun _ _ _ h => h) (Or.inl ⟨by rfl, ?_⟩) (by assumption) ?_
       rotate_left
       ·intro w hSw; (try dsimp only at hSw); go_simp <;> with_reducible rfl
       try simp only [cD]
       refine wpAnyH_take (i := 9) (oi := _) (v := ?_) rfl krT krT krT (fun _ _ _ h => h) (Or.inl ⟨by rfl, ?_⟩) (by assumption) ?_
       rotate_left
       ·intro w hSw; (try dsimp only at hSw); go_simp <;> with_reducible rfl
       try simp only [cD]
       refine wpAnyH_take (i := 10) (oi := _) (v := ?_) rfl krT krT krT (fun _ _ _ h => h) (Or.inl ⟨by rfl, ?_⟩) (by assumption) ?_
       rotate_left
       ·intro w hSw; (try dsimp only at hSw); go_simp <;> with_reducible rfl
       try simp only [cD]
       refine rdy [5] ?_
       refine AllReadyH.cons (o := _) rfl (fun K hK => ?_) ?_
       ·go_simp
        refine hK.out _ _ ?_ (fun hHeld => ?_)
        ·(try dsimp only); (first | (go_keep; done) | (simp [go_sem, *]; done))
        clear hK K
        try simp only [cD]
        refine rdy [11] ?_
        refine AllReadyH.cons (o := _) rfl (fun K hK => ?_) ?_
        ·go_simp
         refine hK.out _ _ ?_ (fun hHeld => ?_)
         ·(try dsimp only); (first | (go_keep; done) | (simp [go_sem, *]; done))
         clear hK K
         try simp only [cD]
         refine wpAnyH_take (i := 12) (oi := _) (v := ?_) rfl krT krT krT (fun _ _ _ h => h) (Or.inl ⟨by rfl, ?_⟩) (by assumption) ?_
         rotate_left
         ·intro w hSw; (try dsimp only at hSw); go_simp <;> with_reducible rfl
         try simp only [cD]
         refine rdy [13] ?_
         refine AllReadyH.cons (o := _) rfl (fun K hK => ?_) ?_
         ·go_simp
          refine hK.out _ _ ?_ (fun hHeld => ?_)
          ·(try dsimp only); (first | (go_keep; done) | (simp [go_sem, *]; done))
          clear hK K
          try simp only [cD]
          refine wdT ?_
          have HN2 := Hd (by have := HN.out; rw [hmax] at this; exact this)
          have HO2 := Hd (by have := HS.out; rw [hmax] at this; exact this)
          go_wp2
          go_roundw
          case rel => exact ⟨0 + 1, y + 1, by omega, by go_num, HN2, by omega, by omega, HO2.out.keep zmT, by simp [go_sem, *], by simp [go_sem, *], by simp; omega, bwT⟩
          case measure => simp [intOf]
         exact AllReadyH.nil
        exact AllReadyH.nil
       exact AllReadyH.nil
      have hmax : max x' (y + 1) = x' := by omega
      go_upto_region 9 with fail
      refine wp_region_held_drew (S := (fun w' => w'.cell? ⟨w.heap.size, m, none⟩ = some (.int .i64 y))) krT ?_ (fun hHeld => ?_)
      ·(try dsimp only); go_keep
      refine wpAnyH_take (i := 0) (oi := _) (v := ?_) rfl krT krT krT (fun _ _ _ h => h) (Or.inl ⟨by rfl, ?_⟩) (by assumption) ?_
      rotate_left
      ·intro w hSw; (try dsimp only at hSw); go_simp <;> with_reducible rfl
      try simp only [cD]
      refine wpAnyH_take (i := 1) (oi := _) (v := ?_) rfl krT krT krT (fun _ _ _ h => h) (Or.inl ⟨by rfl, ?_⟩) (by assumption) ?_
      rotate_left
      ·intro w hSw; (try dsimp only at hSw); go_simp <;> with_reducible rfl
      try simp only [cD]
      refine wpAnyH_take (i := 2) (oi := _) (v := ?_) rfl krT krT krT (fun _ _ _ h => h) (Or.inl ⟨by rfl, ?_⟩) (by assumption) ?_
      rotate_left
      ·intro w hSw; (try dsimp only at hSw); go_simp <;> with_reducible rfl
      try simp only [cD]
      refine wpAnyH_take (i := 3) (oi := _) (v := ?_) rfl krT krT krT (fun _ _ _ h => h) (Or.inl ⟨by rfl, ?_⟩) (by assumption) ?_
      rotate_left
      ·intro w hSw; (try dsimp only at hSw); go_simp <;> with_reducible rfl
      try simp only [cD]
      refine wpAnyH_take (i := 4) (oi := _) (v := ?_) rfl krT krT krT (fun _ _ _ h => h) (Or.inl ⟨by rfl, ?_⟩) (by assumption) ?_
      rotate_left
      ·intro w hSw; (try dsimp only at hSw); go_simp <;> with_reducible rfl
      try simp only [cD]
      refine wpAnyH_take (i := 6) (oi := _) (v := ?_) rfl krT krT krT (fun _ _ _ h => h) (Or.inl ⟨by rfl, ?_⟩) (by assumption) ?_
      rotate_left
      ·intro w hSw; (try dsimp only at hSw); go_simp <;> with_reducible rfl
      try simp only [cD]
      refine wpAnyH_take (i := 7) (oi := _) (v := ?_) rfl krT krT krT (fun _ _ _ h => h) (Or.inl ⟨by rfl, ?_⟩) (by assumption) ?_
      rotate_left
      ·intro w hSw; (try dsimp only at hSw); go_simp <;> with_reducible rfl
      try simp only [cD]
      refine wpAnyH_take (i := 8) (oi := _) (v := ?_) rfl krT krT krT (fun _ _ _ h => h) (Or.inl ⟨by rfl, ?_⟩) (by assumption) ?_
      rotate_left
      ·intro w hSw; (try dsimp only at hSw); go_simp <;> with_reducible rfl
      try simp only [cD]
      refine wpAnyH_take (i := 9) (oi := _) (v := ?_) rfl krT krT krT (fun _ _ _ h => h) (Or.inl ⟨by rfl, ?_⟩) (by assumption) ?_
      rotate_left
      ·intro w hSw; (try dsimp only at hSw); go_simp <;> with_reducible rfl
      try simp only [cD]
      refine wpAnyH_take (i := 10) (oi := _) (v := ?_) rfl krT krT krT (fun _ _ _ h => h) (Or.inl ⟨by rfl, ?_⟩) (by assumption) ?_
      rotate_left
      ·intro w hSw; (try dsimp only at hSw); go_simp <;> with_reducible rfl
      try simp only [cD]
      refine rdy [5] ?_
      refine AllReadyH.cons (o := _) rfl (fun K hK => ?_) ?_
      ·go_simp
       refine hK.out _ _ ?_ (fun hHeld => ?_)
       ·(try dsimp only); (first | (go_keep; done) | (simp [go_sem, *]; done))
       clear hK K
       try simp only [cD]
       refine rdy [11] ?_
       refine AllReadyH.cons (o := _) rfl (fun K hK => ?_) ?_
       ·go_simp
        refine hK.out _ _ ?_ (fun hHeld => ?_)
        ·(try dsimp only); (first | (go_keep; done) | (simp [go_sem, *]; done))
        clear hK K
        try simp only [cD]
        refine wpAnyH_take (i := 12) (oi := _) (v := ?_) rfl krT krT krT (fun _ _ _ h => h) (Or.inl ⟨by rfl, ?_⟩) (by assumption) ?_
        rotate_left
        ·intro w hSw; (try dsimp only at hSw); go_simp <;> with_reducible rfl
        try simp only [cD]
        refine rdy [13] ?_
        refine AllReadyH.cons (o := _) rfl (fun K hK => ?_) ?_
        ·go_simp
         refine hK.out _ _ ?_ (fun hHeld => ?_)
         ·(try dsimp only); (first | (go_keep; done) | (simp [go_sem, *]; done))
         clear hK K
         try simp only [cD]
         refine wdT ?_
         have HN2 := Hd (by have := HN.out; rw [hmax] at this; exact this)
         have HO2 := Hd (by have := HS.out; rw [hmax] at this; exact this)
         go_wp2
         go_roundw
         case rel => exact ⟨0 + 1, x', by omega, by go_num, HN2, by omega, by omega, HO2.out.keep zmT, by simp [go_sem, *], by simp [go_sem, *], by simp; omega, bwT⟩
         case measure => simp [intOf]
        exact AllReadyH.nil
       exact AllReadyH.nil
      exact AllReadyH.nil
     ·obtain rfl : j = 1 := by omega
      rcases fmo with rfl | fmo
      ·have HN := Hd (show (((1 + 1) = 0 → x = 0) ∧ ((1 + 1) = 1 → x = dep1 D fa) ∧ ((1 + 1) = 2 → x = depOf D fa (-1))) by have := hj.out; exact ⟨fun h => absurd h omT, fun h => absurd h omT, fun _ => by rw [this.2.1 rfl, depOf]; have h1 : dep1 D (-1) = 0 := rfl; rw [h1]; omega⟩)
       clear hj
       go_wp2
       go_roundw
       case rel => exact ⟨1 + 1, x, by omega, by go_num, HN, hx0, hx1, how, hc0, hc1, hsz, hb2⟩
       case measure => simp [intOf]
      obtain ⟨m, rfl⟩ := Int.eq_ofNat_of_zero_le fmo.1
      have hmk : m < k := by omega
      obtain ⟨y, hy, cy, iy1, iy2, fy, -⟩ := how.int_at0 (i := m) omT
      obtain ⟨x', hx', cx, ix1, ix2, fx, -⟩ := how.int_at0 (i := k) omT
      have hxe : x' = x := by
       have := hx'.out
       rw [List.getElem?_set_self soT] at this
       exact (Option.some.inj this).symm
      subst hxe
      have hyD : D[m]? = some y := by
       have := hy.out
       rw [List.getElem?_set_ne omT, List.getElem?_append_left omT] at this
       exact this
      have hyb := hBn.out y (List.mem_of_getElem? hyD)
      have ed : dep1 D ((m : Nat) : Int) = y + 1 := by
       rw [dep1, if_pos omT, Int.toNat_natCast, List.getD_eq_getElem?_getD, hyD]; rfl
      have hw1 : wrap64 (y + 1) = y + 1 := IntWalk.wrap64_in _ omT
      have hw2 : IntKind.i64.wrap (y + 1) = y + 1 := IntWalk.i64_in _ omT
      have n1 : ¬ m = k := by omega
      have n2 : ¬ k = m := by omega
      have mI : ((m : Nat) : Int) < (ps.length : Int) := by omega
      have m0 : (0 : Int) ≤ ((m : Nat) : Int) := by omega
      have hset := how.int_set0 (i := k) omT (y := max x' (y + 1)) ⟨by omega, by omega⟩
      rw [List.set_set] at hset
      have HS := Hd hset
      have HN := Hd (show (((1 + 1) = 0 → (max x' (y + 1)) = 0) ∧ ((1 + 1) = 1 → (max x' (y + 1)) = dep1 D fa) ∧ ((1 + 1) = 2 → (max x' (y + 1)) = depOf D fa ((m : Nat) : Int))) by have := hj.out; exact ⟨fun h => absurd h omT, fun h => absurd h omT, fun _ => by rw [depOf, ed, this.2.1 rfl]⟩)
      clear hset how hj hy hx' hyD ed hBn
      by_cases c0 : x' < y + 1
      ·have hmax : max x' (y + 1) = y + 1 := by omega
       go_upto_region 9 with fail
       refine wp_region_held_drew (S := (fun w' => w'.cell? ⟨w.heap.size, m, none⟩ = some (.int .i64 y))) krT ?_ (fun hHeld => ?_)
       ·(try dsimp only); go_keep
       refine wpAnyH_take (i := 0) (oi := _) (v := ?_) rfl krT krT krT (fun _ _ _ h => h) (Or.inl ⟨by rfl, ?_⟩) (by assumption) ?_
       rotate_left
       ·intro w hSw; (try dsimp only at hSw); go_simp <;> with_reducible rfl
       try simp only [cD]
       refine wpAnyH_take (i := 1) (oi := _) (v := ?_) rfl krT krT krT (fun _ _ _ h => h) (Or.inl ⟨by rfl, ?_⟩) (by assumption) ?_
       rotate_left
       ·intro w hSw; (try dsimp only at hSw); go_simp <;> with_reducible rfl
       try simp only [cD]
       refine wpAnyH_take (i := 2) (oi := _) (v := ?_) rfl krT krT krT (fun _ _ _ h => h) (Or.inl ⟨by rfl, ?_⟩) (by assumption) ?_
       rotate_left
       ·intro w hSw; (try dsimp only at hSw); go_simp <;> with_reducible rfl
       try simp only [cD]
       refine wpAnyH_take (i := 3) (oi := _) (v := ?_) rfl krT krT krT (fun _ _ _ h => h) (Or.inl ⟨by rfl, ?_⟩) (by assumption) ?_
       rotate_left
       ·intro w hSw; (try dsimp only at hSw); go_simp <;> with_reducible rfl
       try simp only [cD]
       refine wpAnyH_take (i := 4) (oi := _) (v := ?_) rfl krT krT krT (fun _ _ _ h => h) (Or.inl ⟨by rfl, ?_⟩) (by assumption) ?_
       rotate_left
       ·intro w hSw; (try dsimp only at hSw); go_simp <;> with_reducible rfl
       try simp only [cD]
       refine wpAnyH_take (i := 6) (oi := _) (v := ?_) rfl krT krT krT (fun _ _ _ h => h) (Or.inl ⟨by rfl, ?_⟩) (by assumption) ?_
       rotate_left
       ·intro w hSw; (try dsimp only at hSw); go_simp <;> with_reducible rfl
       try simp only [cD]
       refine wpAnyH_take (i := 7) (oi := _) (v := ?_) rfl krT krT krT (fun _ _ _ h => h) (Or.inl ⟨by rfl, ?_⟩) (by assumption) ?_
       rotate_left
       ·intro w hSw; (try dsimp only at hSw); go_simp <;> with_reducible rfl
       try simp only [cD]
       refine wpAnyH_take (i := 8) (oi := _) (v := ?_) rfl krT krT krT (fun _ _ _ h => h) (Or.inl ⟨by rfl, ?_⟩) (by assumption) ?_
       rotate_left
       ·intro w hSw; (try dsimp only at hSw); go_simp <;> with_reducible rfl
       try simp only [cD]
       refine wpAnyH_take (i := 9) (oi := _) (v := ?_) rfl krT krT krT (fun _ _ _ h => h) (Or.inl ⟨by rfl, ?_⟩) (by assumption) ?_
       rotate_left
       ·intro w hSw; (try dsimp only at hSw); go_simp <;> with_reducible rfl
       try simp only [cD]
       refine wpAnyH_take (i := 10) (oi := _) (v := ?_) rfl krT krT krT (fun _ _ _ h => h) (Or.inl ⟨by rfl, ?_⟩) (by assumption) ?_
       rotate_left
       ·intro w hSw; (try dsimp only at hSw); go_simp <;> with_reducible rfl
       try simp only [cD]
       refine rdy [5] ?_
       refine AllReadyH.cons (o := _) rfl (fun K hK => ?_) ?_
       ·go_simp
        refine hK.out _ _ ?_ (fun hHeld => ?_)
        ·(try dsimp only); (first | (go_keep; done) | (simp [go_sem, *]; done))
        clear hK K
        try simp only [cD]
        refine rdy [11] ?_
        refine AllReadyH.cons (o := _) rfl (fun K hK => ?_) ?_
        ·go_simp
         refine hK.out _ _ ?_ (fun hHeld => ?_)
         ·(try dsimp only); (first | (go_keep; done) | (simp [go_sem, *]; done))
         clear hK K
         try simp only [cD]
         refine wpAnyH_take (i := 12) (oi := _) (v := ?_) rfl krT krT krT (fun _ _ _ h => h) (Or.inl ⟨by rfl, ?_⟩) (by assumption) ?_
         rotate_left
         ·intro w hSw; (try dsimp only at hSw); go_simp <;> with_reducible rfl
         try simp only [cD]
         refine rdy [13] ?_
         refine AllReadyH.cons (o := _) rfl (fun K hK => ?_) ?_
         ·go_simp
          refine hK.out _ _ ?_ (fun hHeld => ?_)
          ·(try dsimp only); (first | (go_keep; done) | (simp [go_sem, *]; done))
          clear hK K
          try simp only [cD]
          refine wdT ?_
          have HN2 := Hd (by have := HN.out; rw [hmax] at this; exact this)
          have HO2 := Hd (by have := HS.out; rw [hmax] at this; exact this)
          go_wp2
          go_roundw
          case rel => exact ⟨1 + 1, y + 1, by omega, by go_num, HN2, by omega, by omega, HO2.out.keep zmT, by simp [go_sem, *], by simp [go_sem, *], by simp; omega, bwT⟩
          case measure => simp [intOf]
         exact AllReadyH.nil
        exact AllReadyH.nil
       exact AllReadyH.nil
      have hmax : max x' (y + 1) = x' := by omega
      go_upto_region 9 with fail
      refine wp_region_held_drew (S := (fun w' => w'.cell? ⟨w.heap.size, m, none⟩ = some (.int .i64 y))) krT ?_ (fun hHeld => ?_)
      ·(try dsimp only); go_keep
      refine wpAnyH_take (i := 0) (oi := _) (v := ?_) rfl krT krT krT (fun _ _ _ h => h) (Or.inl ⟨by rfl, ?_⟩) (by assumption) ?_
      rotate_left
      ·intro w hSw; (try dsimp only at hSw); go_simp <;> with_reducible rfl
      try simp only [cD]
      refine wpAnyH_take (i := 1) (oi := _) (v := ?_) rfl krT krT krT (fun _ _ _ h => h) (Or.inl ⟨by rfl, ?_⟩) (by assumption) ?_
      rotate_left
      ·intro w hSw; (try dsimp only at hSw); go_simp <;> with_reducible rfl
      try simp only [cD]
      refine wpAnyH_take (i := 2) (oi := _) (v := ?_) rfl krT krT krT (fun _ _ _ h => h) (Or.inl ⟨by rfl, ?_⟩) (by assumption) ?_
      rotate_left
      ·intro w hSw; (try dsimp only at hSw); go_simp <;> with_reducible rfl
      try simp only [cD]
      refine wpAnyH_take (i := 3) (oi := _) (v := ?_) rfl krT krT krT (fun _ _ _ h => h) (Or.inl ⟨by rfl, ?_⟩) (by assumption) ?_
      rotate_left
      ·intro w hSw; (try dsimp only at hSw); go_simp <;> with_reducible rfl
      try simp only [cD]
      refine wpAnyH_take (i := 4) (oi := _) (v := ?_) rfl krT krT krT (fun _ _ _ h => h) (Or.inl ⟨by rfl, ?_⟩) (by assumption) ?_
      rotate_left
      ·intro w hSw; (try dsimp only at hSw); go_simp <;> with_reducible rfl
      try simp only [cD]
      refine wpAnyH_take (i := 6) (oi := _) (v := ?_) rfl krT krT krT (fun _ _ _ h => h) (Or.inl ⟨by rfl, ?_⟩) (by assumption) ?_
      rotate_left
      ·intro w hSw; (try dsimp only at hSw); go_simp <;> with_reducible rfl
      try simp only [cD]
      refine wpAnyH_take (i := 7) (oi := _) (v := ?_) rfl krT krT krT (fun _ _ _ h => h) (Or.inl ⟨by rfl, ?_⟩) (by assumption) ?_
      rotate_left
      ·intro w hSw; (try dsimp only at hSw); go_simp <;> with_reducible rfl
      try simp only [cD]
      refine wpAnyH_take (i := 8) (oi := _) (v := ?_) rfl krT krT krT (fun _ _ _ h => h) (Or.inl ⟨by rfl, ?_⟩) (by assumption) ?_
      rotate_left
      ·intro w hSw; (try dsimp only at hSw); go_simp <;> with_reducible rfl
      try simp only [cD]
      refine wpAnyH_take (i := 9) (oi := _) (v := ?_) rfl krT krT krT (fun _ _ _ h => h) (Or.inl ⟨by rfl, ?_⟩) (by assumption) ?_
      rotate_left
      ·intro w hSw; (try dsimp only at hSw); go_simp <;> with_reducible rfl
      try simp only [cD]
      refine wpAnyH_take (i := 10) (oi := _) (v := ?_) rfl krT krT krT (fun _ _ _ h => h) (Or.inl ⟨by rfl, ?_⟩) (by assumption) ?_
      rotate_left
      ·intro w hSw; (try dsimp only at hSw); go_simp <;> with_reducible rfl
      try simp only [cD]
      refine rdy [5] ?_
      refine AllReadyH.cons (o := _) rfl (fun K hK => ?_) ?_
      ·go_simp
       refine hK.out _ _ ?_ (fun hHeld => ?_)
       ·(try dsimp only); (first | (go_keep; done) | (simp [go_sem, *]; done))
       clear hK K
       try simp only [cD]
       refine rdy [11] ?_
       refine AllReadyH.cons (o := _) rfl (fun K hK => ?_) ?_
       ·go_simp
        refine hK.out _ _ ?_ (fun hHeld => ?_)
        ·(try dsimp only); (first | (go_keep; done) | (simp [go_sem, *]; done))
        clear hK K
        try simp only [cD]
        refine wpAnyH_take (i := 12) (oi := _) (v := ?_) rfl krT krT krT (fun _ _ _ h => h) (Or.inl ⟨by rfl, ?_⟩) (by assumption) ?_
        rotate_left
        ·intro w hSw; (try dsimp only at hSw); go_simp <;> with_reducible rfl
        try simp only [cD]
        refine rdy [13] ?_
        refine AllReadyH.cons (o := _) rfl (fun K hK => ?_) ?_
        ·go_simp
         refine hK.out _ _ ?_ (fun hHeld => ?_)
         ·(try dsimp only); (first | (go_keep; done) | (simp [go_sem, *]; done))
         clear hK K
         try simp only [cD]
         refine wdT ?_
         have HN2 := Hd (by have := HN.out; rw [hmax] at this; exact this)
         have HO2 := Hd (by have := HS.out; rw [hmax] at this; exact this)
         go_wp2
         go_roundw
         case rel => exact ⟨1 + 1, x', by omega, by go_num, HN2, by omega, by omega, HO2.out.keep zmT, by simp [go_sem, *], by simp [go_sem, *], by simp; omega, bwT⟩
         case measure => simp [intOf]
        exact AllReadyH.nil
       exact AllReadyH.nil
      exact AllReadyH.nil
    ·obtain rfl : j = 2 := by omega
     have hxx := hj.out.2.2 rfl
     have e : (D ++ List.replicate (ps.length - k) 0).set k x = deps (ps.take (k + 1)) ++ List.replicate (ps.length - (k + 1)) 0 := by
      rw [List.set_append_right _ _ omT, hdl, Nat.sub_self, HD.out, hxx]
      have : ps.length - k = (ps.length - (k + 1)) + 1 := by omega
      rw [this, List.replicate_succ, List.append_assoc]; rfl
     rw [e] at how
     have HO := Hd how
     clear how hj hxx e HD
     go_wp2
     go_roundw
     case rel => exact ⟨k + 1, by omega, by go_num, HO.out, by omega, hb2⟩
     case measure => simp [intOf]; omega
  ·have HO := Hd how'.top
   have hkn : k = ps.length := by omega
   clear how' h hP
   go_wp2
   go_ret
   refine ⟨_, rfl, ?_, hb⟩
   have := HO.out
   rw [hkn, List.take_length, Nat.sub_self] at this
   simpa using this
end
section
theorem uniOk_at2 {f : Fam} {k : Nat} {u : Uni} (h : f.2[k]? = some u) : uniOk f k = uniC f k u := by unfold uniOk; rw [h]
set_option maxRecDepth 20000 in
theorem uniI_b {z z' : Bool} {lo hi lo' hi' : Nat} (w : World) (v v2 : Value) (f : Fam) (h : Rd z lo hi w [v] f.1) (h' : Rd z' lo' hi' w [v2] f.2) (hl : f.1.length ≤ 40) (hP : PplTo f.1 f.1.length) (k : Nat) (hk : k < f.2.length) (hl2 : f.2.length ≤ 60) (r : Bool) (hr : r = uniOk f k) :
  Calls Tryz.prog 141 #[.agg #[v, v2], .int .i64 k] w (PostB w r) := by
 obtain ⟨ps, us⟩ := f
 dsimp only at h h' hl hP hk hl2
 obtain ⟨ao, n, cap, rfl, rfl, hnc, hcm, hnone⟩ := h.shape
 obtain ⟨bo, n2, dap, rfl, rfl, hnc', hcm', hnone'⟩ := h'.shape
 unfold maxLen at *
 obtain ⟨b, off, m, wo, fr, tl, rfl, hu, p0, p1, p2, p3, g0, g1, g2, g3, -, -, hbl, -⟩ := h'.uni_at hk
 rw [uniOk_at2 hu.out, uniC] at hr
 have HR := Hd hr
 clear hr hu
 have hkI : (k : Int) < (us.length : Int) := by omega
 by_cases hin : (0 ≤ m ∧ m < (ps.length : Int)) ∧ (0 ≤ wo ∧ wo < (ps.length : Int))
 rotate_left
 ·have HX := Hd (show false = r by rw [HR.out, show decide ((0 ≤ m ∧ m < (ps.length : Int)) ∧ (0 ≤ wo ∧ wo < (ps.length : Int))) = false by simpa using hin]; rfl)
  clear h h' HR hP
  go_enter Tryz.func141, Tryz.ntmps141
  go_wp2
  all_goals first
   | (exfalso; omega)
   | (go_ret; exact ⟨ret_bool HX.out, bwT⟩)
 obtain ⟨mi, rfl⟩ := Int.eq_ofNat_of_zero_le hin.1.1
 obtain ⟨wi, rfl⟩ := Int.eq_ofNat_of_zero_le hin.2.1
 have hmi : mi < ps.length := by omega
 have hwi : wi < ps.length := by omega
 obtain ⟨pb, poff, na, sa, fa, ma, ba, da, rfl, hxa, a0, a1, a2, a3, a4, a5, ga0, ga1, ga2, ga3, ga4, ga5, -, -, hpb, -⟩ := h.per_at hmi
 obtain ⟨_, _, nb, sb, fb, mb, bb, db, ee, hxb, b0, b1, b2, b3, b4, b5, gb0, gb1, gb2, gb3, gb4, gb5, -, -, -, -⟩ := h.per_at hwi
 simp only [Option.some.injEq, Addr.mk.injEq, and_true] at ee
 obtain ⟨rfl, rfl⟩ := ee
 obtain ⟨-, fba, fda, -⟩ := hP.at hmi hxa.out
 obtain ⟨-, fbb, fdb, -⟩ := hP.at hwi hxb.out
 obtain ⟨dup, hlet_dup⟩ : ∃ r, r = decide (((mi : Int), (wi : Int)) ∈ (us.take k).map fun v => (v.1, v.2.1)) := ⟨_, rfl⟩
 have HD := Hd hlet_dup
 clear hlet_dup
 have HB := Hd (show r = (decide (sa = 1 ∧ sb = 2) && (decide (fr ≤ 9999 ∧ ba ≤ fr ∧ bb ≤ fr) && (decide (tl = -1 ∨ (fr ≤ tl ∧ tl ≤ 9999)) && (liveOk da fr tl && liveOk db fr tl))) && !dup) by
  rw [HR.out, Int.toNat_natCast, Int.toNat_natCast, hxa.out, hxb.out, HD.out]
  rw [show decide ((0 ≤ (mi : Int) ∧ (mi : Int) < (ps.length : Int)) ∧ (0 ≤ (wi : Int) ∧ (wi : Int) < (ps.length : Int))) = true by simp; omega]
  rfl)
 have HFail := Hd (show ¬ ((sa = 1 ∧ sb = 2) ∧ (fr ≤ 9999 ∧ ba ≤ fr ∧ bb ≤ fr) ∧ (tl = -1 ∨ (fr ≤ tl ∧ tl ≤ 9999)) ∧ (da = -1 ∨ (fr ≤ da ∧ (tl = -1 ∨ tl ≤ da))) ∧ (db = -1 ∨ (fr ≤ db ∧ (tl = -1 ∨ tl ≤ db)))) → false = r by
  intro e
  rw [HB.out]
  cases hh : (decide (sa = 1 ∧ sb = 2) && (decide (fr ≤ 9999 ∧ ba ≤ fr ∧ bb ≤ fr) && (decide (tl = -1 ∨ (fr ≤ tl ∧ tl ≤ 9999)) && (liveOk da fr tl && liveOk db fr tl))))
  ·rfl
  ·simp only [liveOk, Bool.and_eq_true, decide_eq_true_eq] at hh
   exact absurd ⟨hh.1, hh.2.1, hh.2.2.1, hh.2.2.2.1, hh.2.2.2.2⟩ e)
 have HOk := Hd (show ((sa = 1 ∧ sb = 2) ∧ (fr ≤ 9999 ∧ ba ≤ fr ∧ bb ≤ fr) ∧ (tl = -1 ∨ (fr ≤ tl ∧ tl ≤ 9999)) ∧ (da = -1 ∨ (fr ≤ da ∧ (tl = -1 ∨ tl ≤ da))) ∧ (db = -1 ∨ (fr ≤ db ∧ (tl = -1 ∨ tl ≤ db)))) → r = !dup by
  intro e
  rw [HB.out]
  simp [liveOk, e])
 have hmI : ((mi : Nat) : Int) < (ps.length : Int) := by omega
 have hwI : ((wi : Nat) : Int) < (ps.length : Int) := by omega
 have hm0 : (0 : Int) ≤ ((mi : Nat) : Int) := by omega
 have hw0 : (0 : Int) ≤ ((wi : Nat) : Int) := by omega
 clear HB HR hxa hxb hin hP h
 have v1 : ¬ w.heap.size = w.heap.size + 1 + 1 := by omega
 have v2 : ¬ w.heap.size + 1 + 1 = w.heap.size := by omega
 have v3 : ¬ w.heap.size + 1 = w.heap.size + 1 + 1 := by omega
 have v4 : ¬ w.heap.size + 1 + 1 = w.heap.size + 1 := by omega
 have v5 : ¬ pb = w.heap.size := by omega
 have v6 : ¬ w.heap.size = pb := by omega
 have v7 : ¬ pb = w.heap.size + 1 := by omega
 have v8 : ¬ w.heap.size + 1 = pb := by omega
 have v9 : ¬ pb = w.heap.size + 1 + 1 := by omega
 have v10 : ¬ w.heap.size + 1 + 1 = pb := by omega
 have v11 : ¬ pb = w.heap.size + 1 + 1 + 1 := by omega
 have v12 : ¬ w.heap.size + 1 + 1 + 1 = pb := by omega
 have u1 : w.heap.size < w.heap.size + 1 + 1 := by omega
 have u2 : w.heap.size < w.heap.size + 1 + 1 + 1 := by omega
 have u3 : w.heap.size + 1 < w.heap.size + 1 + 1 + 1 := by omega
 have u4 : pb < w.heap.size + 1 := by omega
 have u5 : pb < w.heap.size + 1 + 1 := by omega
 have u6 : pb < w.heap.size + 1 + 1 + 1 := by omega
 go_enter Tryz.func141, Tryz.ntmps141
 go_upto_region 4 with fail
 go_cut [6, 7] (fun s6 s7 wx => ∃ (ga gb : Nat), s6 = .pointer (some ⟨ga, 0, none⟩) ∧ s7 = .pointer (some ⟨gb, 0, none⟩) ∧ wx.cell? ⟨ga, 0, none⟩ = some (.string na) ∧ wx.cell? ⟨ga, 1, none⟩ = some (.int .i64 sa) ∧ wx.cell? ⟨ga, 2, none⟩ = some (.int .i64 fa) ∧ wx.cell? ⟨ga, 3, none⟩ = some (.int .i64 ma) ∧ wx.cell? ⟨ga, 4, none⟩ = some (.int .i64 ba) ∧ wx.cell? ⟨ga, 5, none⟩ = some (.int .i64 da) ∧ wx.cell? ⟨gb, 0, none⟩ = some (.string nb) ∧ wx.cell? ⟨gb, 1, none⟩ = some (.int .i64 sb) ∧ wx.cell? ⟨gb, 2, none⟩ = some (.int .i64 fb) ∧ wx.cell? ⟨gb, 3, none⟩ = some (.int .i64 mb) ∧ wx.cell? ⟨gb, 4, none⟩ = some (.int .i64 bb) ∧ wx.cell? ⟨gb, 5, none⟩ = some (.int .i64 db) ∧ ga < wx.heap.size ∧ gb < wx.heap.size ∧ wx.cell? ⟨w.heap.size, 0, none⟩ = some (.slice (some ⟨pb, poff, none⟩) ps.length cap) ∧ wx.cell? ⟨w.heap.size, 1, none⟩ = some (.slice (some ⟨b, off, none⟩) us.length dap) ∧ wx.cell? ⟨w.heap.size + 1, 0, none⟩ = some (.int .i64 (mi : Nat)) ∧ wx.cell? ⟨w.heap.size + 1, 1, none⟩ = some (.int .i64 (wi : Nat)) ∧ wx.cell? ⟨w.heap.size + 1, 2, none⟩ = some (.int .i64 fr) ∧ wx.cell? ⟨w.heap.size + 1, 3, none⟩ = some (.int .i64 tl) ∧ w.heap.size + 1 < wx.heap.size ∧ Below w.heap.size w wx)
 case first =>
  go_region_held3 (fun w' => w'.cell? ⟨w.heap.size, 0, none⟩ = some (.slice (some ⟨pb, poff, none⟩) ps.length cap) ∧ w'.cell? ⟨w.heap.size + 1, 0, none⟩ = some (.int .i64 (mi : Nat)) ∧ w'.cell? ⟨w.heap.size + 1, 1, none⟩ = some (.int .i64 (wi : Nat)) ∧ w'.cell? ⟨pb, poff + mi * 6, none⟩ = some (.string na) ∧ w'.cell? ⟨pb, poff + mi * 6 + 1, none⟩ = some (.int .i64 sa) ∧ w'.cell? ⟨pb, poff + mi * 6 + 2, none⟩ = some (.int .i64 fa) ∧ w'.cell? ⟨pb, poff + mi * 6 + 3, none⟩ = some (.int .i64 ma) ∧ w'.cell? ⟨pb, poff + mi * 6 + 4, none⟩ = some (.int .i64 ba) ∧ w'.cell? ⟨pb, poff + mi * 6 + 5, none⟩ = some (.int .i64 da) ∧ w'.cell? ⟨pb, poff + wi * 6, none⟩ = some (.string nb) ∧ w'.cell? ⟨pb, poff + wi * 6 + 1, none⟩ = some (.int .i64 sb) ∧ w'.cell? ⟨pb, poff + wi * 6 + 2, none⟩ = some (.int .i64 fb) ∧ w'.cell? ⟨pb, poff + wi * 6 + 3, none⟩ = some (.int .i64 mb) ∧ w'.cell? ⟨pb, poff + wi * 6 + 4, none⟩ = some (.int .i64 bb) ∧ w'.cell? ⟨pb, poff + wi * 6 + 5, none⟩ = some (.int .i64 db)) ((first | (go_keep; done) | (simp [go_sem, *]; done))) (fail)
  all_goals
   go_wp2_with fail
   go_meet
  all_goals exact ⟨_, _, rfl, rfl, by simp [go_sem, *], by simp [go_sem, *], by simp [go_sem, *], by simp [go_sem, *], by simp [go_sem, *], by simp [go_sem, *], by simp [go_sem, *], by simp [go_sem, *], by simp [go_sem, *], by simp [go_sem, *], by simp [go_sem, *], by simp [go_sem, *], (by first | omega | (simp; omega) | simp), (by first | omega | (simp; omega) | simp), by simp [go_sem, *], by simp [go_sem, *], by simp [go_sem, *], by simp [go_sem, *], by simp [go_sem, *], by simp [go_sem, *], (by first | omega | (simp; omega) | simp), bwT⟩
 case rest =>
  obtain ⟨ga, gb, rfl, rfl, x0, x1, x2, x3, x4, x5, y0, y1, y2, y3, y4, y5, l_ga, l_gb, q_f0, q_f1, q_u0, q_u1, q_u2, q_u3, l_u, hBX⟩ := hcut
  clear v1 v2 v3 v4 v5 v6 v7 v8 v9 v10 v11 v12 u1 u2 u3 u4 u5 u6 a0 a1 a2 a3 a4 a5 b0 b1 b2 b3 b4 b5
  obtain ⟨WX, hWX⟩ : ∃ W : World, W = wc := ⟨_, rfl⟩
  subst hWX
  have l_f : w.heap.size < WX.heap.size := by omega
  have sX := hBX.size
  by_cases s1 : sa = 1
  rotate_left
  ·have s1' : (sa != 1) = true := by simpa using s1
   have HX := Hd (HFail.out (fun e => s1 e.1.1))
   clear HFail HOk HD
   go_wp2
   all_goals first
    | (exfalso; omega)
    | (go_ret; exact ⟨ret_bool HX.out, bwT⟩)
  have s1' : (sa != 1) = false := by simpa using s1
  by_cases s2 : sb = 2
  rotate_left
  ·have s2' : (sb != 2) = true := by simpa using s2
   have HX := Hd (HFail.out (fun e => s2 e.1.2))
   clear HFail HOk HD
   go_wp2
   all_goals first
    | (exfalso; omega)
    | (go_ret; exact ⟨ret_bool HX.out, bwT⟩)
  have s2' : (sb != 2) = false := by simpa using s2
  by_cases s3 : fr ≤ 9999
  rotate_left
  ·have s3' : 9999 < fr := by omega
   have HX := Hd (HFail.out (fun e => s3 e.2.1.1))
   clear HFail HOk HD
   go_wp2
   all_goals first
    | (exfalso; omega)
    | (go_ret; exact ⟨ret_bool HX.out, bwT⟩)
  have s3' : ¬ 9999 < fr := by omega
  by_cases s3a : ba ≤ fr
  rotate_left
  ·have s3a' : fr < ba := by omega
   have HX := Hd (HFail.out (fun e => s3a e.2.1.2.1))
   clear HFail HOk HD
   go_wp2
   all_goals first
    | (exfalso; omega)
    | (go_ret; exact ⟨ret_bool HX.out, bwT⟩)
  have s3a' : ¬ fr < ba := by omega
  by_cases s3b : bb ≤ fr
  rotate_left
  ·have s3b' : fr < bb := by omega
   have HX := Hd (HFail.out (fun e => s3b e.2.1.2.2))
   clear HFail HOk HD
   go_wp2
   all_goals first
    | (exfalso; omega)
    | (go_ret; exact ⟨ret_bool HX.out, bwT⟩)
  have s3b' : ¬ fr < bb := by omega
  by_cases s5 : tl = -1 ∨ (fr ≤ tl ∧ tl ≤ 9999)
  rotate_left
  ·have s5' : (tl != -1) = true := by (have : ¬ tl = -1 := fun e => s5 (.inl e)); simpa using this
   have HX := Hd (HFail.out (fun e => s5 e.2.2.1))
   clear HFail HOk HD
   go_wp2
   all_goals first
    | (exfalso; omega)
    | (go_ret; exact ⟨ret_bool HX.out, bwT⟩)
  have s5' := s5
  subst s1 s2
  by_cases s4 : tl = -1
  all_goals have s4' : (tl != -1) = !decide (tl = -1) := rfl
  all_goals simp only [s4, decide_true, decide_false, Bool.not_true, Bool.not_false] at s4'
  all_goals
   go_wp2
   all_goals (try (exfalso; omega))
   go_loopw [9, 101] (fun _ s101 wr => ∃ j : Nat, j ≤ 2 ∧ s101 = .int .i64 j ∧ Hid ((1 ≤ j → da = -1 ∨ (fr ≤ da ∧ (tl = -1 ∨ tl ≤ da))) ∧ (2 ≤ j → db = -1 ∨ (fr ≤ db ∧ (tl = -1 ∨ tl ≤ db)))) ∧ Below (WX.heap.size + 1) (WX.alloc (.cells #[.string na, .int .i64 1, .int .i64 fa, .int .i64 ma, .int .i64 ba, .int .i64 da, .string nb, .int .i64 2, .int .i64 fb, .int .i64 mb, .int .i64 bb, .int .i64 db] 100)) wr) (fun _ s101 _ => 2 - (intOf s101).toNat)
   case atStart => exact ⟨0, by omega, rfl, Hd ⟨fun h => absurd h omT, fun h => absurd h omT⟩, Below.refl _ _⟩
   case round =>
    rename_i wr
    obtain ⟨j, hj2, rfl, hj, hb⟩ := hrel
    have sW := hb.size
    simp only [World.size_alloc] at sW
    have hbX : Below WX.heap.size WX wr := Below.trans ((Below.refl _ _).alloc (Nat.le_refl _) _) (hb.mono omT)
    have hbw : Below w.heap.size w wr := Below.trans hBX (hbX.mono hBX.size)
    have q_f0 := oldc hbX l_f q_f0
    have q_f1 := oldc hbX l_f q_f1
    have q_u0 := oldc hbX l_u q_u0
    have q_u1 := oldc hbX l_u q_u1
    have q_u2 := oldc hbX l_u q_u2
    have q_u3 := oldc hbX l_u q_u3
    have l_f := ltL l_f hbX.size
    have l_u := ltL l_u hbX.size
    have hw0 : WX.heap.size < wr.heap.size := by omega
    have z0 : wr.cell? ⟨WX.heap.size, 0, none⟩ = some (.string na) := oldc hb omT sgT
    have z1 : wr.cell? ⟨WX.heap.size, 1, none⟩ = some (.int .i64 1) := oldc hb omT sgT
    have z2 : wr.cell? ⟨WX.heap.size, 2, none⟩ = some (.int .i64 fa) := oldc hb omT sgT
    have z3 : wr.cell? ⟨WX.heap.size, 3, none⟩ = some (.int .i64 ma) := oldc hb omT sgT
    have z4 : wr.cell? ⟨WX.heap.size, 4, none⟩ = some (.int .i64 ba) := oldc hb omT sgT
    have z5 : wr.cell? ⟨WX.heap.size, 5, none⟩ = some (.int .i64 da) := oldc hb omT sgT
    have z6 : wr.cell? ⟨WX.heap.size, 6, none⟩ = some (.string nb) := oldc hb omT sgT
    have z7 : wr.cell? ⟨WX.heap.size, 7, none⟩ = some (.int .i64 2) := oldc hb omT sgT
    have z8 : wr.cell? ⟨WX.heap.size, 8, none⟩ = some (.int .i64 fb) := oldc hb omT sgT
    have z9 : wr.cell? ⟨WX.heap.size, 9, none⟩ = some (.int .i64 mb) := oldc hb omT sgT
    have z10 : wr.cell? ⟨WX.heap.size, 10, none⟩ = some (.int .i64 bb) := oldc hb omT sgT
    have z11 : wr.cell? ⟨WX.heap.size, 11, none⟩ = some (.int .i64 db) := oldc hb omT sgT
    by_cases hlt : j < 2
    ·have hI : (j : Int) < 2 := by omega
     clear h'
     by_cases j0 : j = 0
     ·obtain rfl : j = 0 := by omega
      have HN := Hd (show (da = -1 ∨ (fr ≤ da ∧ (tl = -1 ∨ tl ≤ da))) → ((1 ≤ (0 + 1) → da = -1 ∨ (fr ≤ da ∧ (tl = -1 ∨ tl ≤ da))) ∧ (2 ≤ (0 + 1) → db = -1 ∨ (fr ≤ db ∧ (tl = -1 ∨ tl ≤ db)))) by intro e; exact ⟨fun _ => e, fun h => absurd h omT⟩)
      have HZ := Hd (show ¬ (da = -1 ∨ (fr ≤ da ∧ (tl = -1 ∨ tl ≤ da))) → false = r by intro e; exact HFail.out (fun e2 => e e2.2.2.2.1))
      clear HFail HOk hj HD
      by_cases d1 : da = -1
      all_goals have d1' : (da != -1) = !decide (da = -1) := rfl
      all_goals simp only [d1, decide_true, decide_false, Bool.not_true, Bool.not_false] at d1'
      all_goals go_wp2
      all_goals first
       | (exfalso; omega)
       | (go_roundw
          case rel => exact ⟨0 + 1, by omega, by go_num, Hd (HN.out omT), bwT⟩
          case measure => simp [intOf])
       | (go_ret; exact ⟨ret_bool (HZ.out omT), bwT⟩)
     ·obtain rfl : j = 1 := by omega
      have HN := Hd (show (db = -1 ∨ (fr ≤ db ∧ (tl = -1 ∨ tl ≤ db))) → ((1 ≤ (1 + 1) → da = -1 ∨ (fr ≤ da ∧ (tl = -1 ∨ tl ≤ da))) ∧ (2 ≤ (1 + 1) → db = -1 ∨ (fr ≤ db ∧ (tl = -1 ∨ tl ≤ db)))) by intro e; exact ⟨fun _ => hj.out.1 omT, fun _ => e⟩)
      have HZ := Hd (show ¬ (db = -1 ∨ (fr ≤ db ∧ (tl = -1 ∨ tl ≤ db))) → false = r by intro e; exact HFail.out (fun e2 => e e2.2.2.2.2))
      clear HFail HOk hj HD
      by_cases d1 : db = -1
      all_goals have d1' : (db != -1) = !decide (db = -1) := rfl
      all_goals simp only [d1, decide_true, decide_false, Bool.not_true, Bool.not_false] at d1'
      all_goals go_wp2
      all_goals first
       | (exfalso; omega)
       | (go_roundw
          case rel => exact ⟨1 + 1, by omega, by go_num, Hd (HN.out omT), bwT⟩
          case measure => simp [intOf])
       | (go_ret; exact ⟨ret_bool (HZ.out omT), bwT⟩)
    ·obtain rfl : j = 2 := by omega
     have HR2 := Hd (HOk.out ⟨⟨by trivial, by trivial⟩, ⟨s3, s3a, s3b⟩, s5, hj.out.1 omT, hj.out.2 omT⟩)
     clear HOk HFail z0 z1 z2 z3 z4 z5 z6 z7 z8 z9 z10 z11
     have hkl : (k : Int) ≤ (us.length : Int) := by omega
     have hkc : (k : Int) ≤ (dap : Int) := by omega
     obtain ⟨WZ, hWZ⟩ : ∃ W : World, W = wr := ⟨_, rfl⟩
     subst hWZ
     go_wp2
     go_loopw [11, 133] (fun _ s10 wr => ∃ i : Nat, i ≤ k ∧ s10 = .int .i64 i ∧ Hid (dup = decide (((mi : Int), (wi : Int)) ∈ ((us.take k).drop i).map fun v => (v.1, v.2.1))) ∧ Below WZ.heap.size WZ wr) (fun _ s10 _ => k - (intOf s10).toNat)
     case atStart => exact ⟨0, Nat.zero_le _, rfl, Hd (by simpa using HD.out), Below.refl _ _⟩
     case round =>
      clear HD
      obtain ⟨i, hi, rfl, hd, hb3⟩ := hrel
      have hbz : Below w.heap.size w wr := Below.trans hbw (hb3.mono hbw.size)
      have q_f1 := oldc hb3 l_f q_f1
      have q_u0 := oldc hb3 l_u q_u0
      have q_u1 := oldc hb3 l_u q_u1
      have s3z := hb3.size
      have s4z := hbz.size
      have l_f := ltL l_f hb3.size
      have l_u := ltL l_u hb3.size
      by_cases hik : i < k
      ·obtain ⟨_, _, um, uw, uf, ut, ee, hux, c0, c1, c2, c3, -, -, -, -, -, -, hub, -⟩ := (h'.below hbz).uni_at (show i < us.length by omega)
       simp only [Option.some.injEq, Addr.mk.injEq, and_true] at ee
       obtain ⟨rfl, rfl⟩ := ee
       have hkI : (i : Int) < (k : Int) := by omega
       have huI : (i : Int) < (us.length : Int) := by omega
       have hux2 : (us.take k)[i]? = some (um, uw, uf, ut) := by rw [List.getElem?_take, if_pos hik]; exact hux.out
       have HS := Hd (drop_cons hux2)
       clear hux hux2 h'
       by_cases m1 : um = (mi : Int)
       ·have m1' : (um == (mi : Int)) = true := by simpa using m1
        by_cases m2 : uw = (wi : Int)
        ·have m2' : (uw == (wi : Int)) = true := by simpa using m2
         have HX := Hd (show false = r by rw [HR2.out, hd.out, HS.out]; simp [m1, m2])
         clear hd HS HR2
         go_wp2
         go_ret
         exact ⟨ret_bool HX.out, bwT⟩
        ·have m2' : (uw == (wi : Int)) = false := by simpa using m2
         have HN := Hd (show dup = decide (((mi : Int), (wi : Int)) ∈ ((us.take k).drop (i + 1)).map fun v => (v.1, v.2.1)) by
          rw [hd.out, HS.out]
          have : ¬ (wi : Int) = uw := fun e => m2 e.symm
          simp [this])
         clear hd HS
         go_wp2
         go_roundw
         case rel => exact ⟨i + 1, by omega, by go_num, HN, bwT⟩
         case measure => simp [intOf]; omega
       ·have m1' : (um == (mi : Int)) = false := by simpa using m1
        have HN := Hd (show dup = decide (((mi : Int), (wi : Int)) ∈ ((us.take k).drop (i + 1)).map fun v => (v.1, v.2.1)) by
         rw [hd.out, HS.out]
         have : ¬ (mi : Int) = um := fun e => m1 e.symm
         simp [this])
        clear hd HS
        go_wp2
        go_roundw
        case rel => exact ⟨i + 1, by omega, by go_num, HN, bwT⟩
        case measure => simp [intOf]; omega
      ·have HX := Hd (show true = r by rw [HR2.out, hd.out, List.drop_eq_nil_of_le soT]; rfl)
       clear hd HR2 h'
       go_wp2
       go_ret
       exact ⟨ret_bool HX.out, bwT⟩
end
section
open Go.RowKit Go.Maps Go.WideMaps Go.ChangeMaps Go.WideElems
def setD : List ByteArray → DataW Unit
 | [] => .map []
 | s :: r => (setD r).put (.string s.data.toList) (.lit (.bool true))
theorem setD_map : ∀ l : List ByteArray, IsMap (setD l)
 | [] => isMap_empty
 | s :: r => (setD_map r).put _ _
theorem setD_at (s : ByteArray) : ∀ l : List ByteArray, (setD l).atKey (.string s.data.toList) (.lit (.bool false)) = .lit (.bool (decide (s ∈ l)))
 | [] => rfl
 | t :: r => by
   rw [setD]
   by_cases e : s = t
   ·subst e
    rw [atKey_put_same (setD_map r) (by trivial)]; simp
   ·rw [atKey_put_other (fun h => e (by
     simp only [Lit.string.injEq] at h
     exact ByteArray.ext (Array.toList_inj.1 h))), setD_at s r]
    simp [e]
def SetOk (P : Program) (sT bT : TypeId) (w : World) (b : Nat) (l : List ByteArray) : Prop := w.ownsMap P sT (plainElem (H := Unit) P bT) b l.length (setD l)
section
variable {P : Program} {sT bT : TypeId} {w w' : World} {b : Nat} {l : List ByteArray}
theorem SetOk.made (w : World) : SetOk P sT bT (w.alloc (.map #[] 0)) w.heap.size [] := World.ownsMap_made _ _ _ _
theorem SetOk.lt (h : SetOk P sT bT w b l) : b < w.heap.size := World.ownsMap.lt h
theorem SetOk.keep (h : SetOk P sT bT w b l) (k : w'.heap[b]? = w.heap[b]?) : SetOk P sT bT w' b l := by
 obtain ⟨es, clock, hb, F, hs, hD⟩ := h
 exact ⟨es, clock, k.trans hb, F, hs, hD⟩
theorem SetOk.below (h : SetOk P sT bT w b l) (hb : Below w.heap.size w w') : SetOk P sT bT w' b l := h.keep (hb.block b h.lt)
theorem SetOk.alloc (h : SetOk P sT bT w b l) (o : Obj) : SetOk P sT bT (w.alloc o) b l := h.below ((Below.refl _ _).alloc (Nat.le_refl _) o)
theorem wpList_update_set {ops : Array Oper} {rest : List Oper} {o : Oper} {a : Act} {Q : Exit → Act → World → Prop}
  (hg : o.guard = none) {m x v : Operand} {t : TypeId} (hop : o.op = Op.mapUpdate t m x v) (ht : P.underlying t = some (.map sT bT)) (hs : P.underlying sT = some .string) (hbT : P.underlying bT = some .bool)
  (hm : a.eval m = .map (some b)) (hown : SetOk P sT bT w b l) (hn : l.length < maxLen) {s : ByteArray} (hl : s.size ≤ maxLen) (hx : a.eval x = .string s) (hv : a.eval v = .bool true)
  (hK : ∀ w', SetOk P sT bT w' b (s :: l) → w.grownBy w' (some b) → wpList P ops Q rest (a.put o.dst undef) w') : wpList P ops Q (o :: rest) a w :=
 wpList_mapUpdate_own w hg m x v t hop sT bT (string_keyed hs) ht _ b l.length _ hm hown hn _ _ _ hx hv (keyOf_string_mk hs hl) _ [] (plainElem_bool hbT true) hK
end
end
section
open Go.RowKit Go.Maps Go.WideMaps Go.ChangeMaps Go.WideElems
theorem SetOk.look {P : Program} {sT bT : TypeId} {w : World} {b : Nat} {l : List ByteArray} (hown : SetOk P sT bT w b l) {t : TypeId} (ht : P.underlying t = some (.map sT bT)) (hs : P.underlying sT = some .string) (hbT : P.underlying bT = some .bool) (hz : (zeroValue bT).run P w = .ok (.bool false) w) {s : ByteArray} (hl : s.size ≤ maxLen) :
  (Instr.lookup t (.map (some b)) (.string s) false).run P w = .ok (.bool (decide (s ∈ l))) w := by
 obtain ⟨v, ps, hrun, hv⟩ := World.ownsMap.lookup hown (string_keyed hs) ht hz (plainElem_bool hbT false) (keyOf_string_mk hs hl)
 rw [setD_at] at hv
 have hv' : v = .bool (decide (s ∈ l)) := by
  unfold plainElem at hv
  rw [hbT] at hv
  cases v <;> simp at hv
  rename_i y
  rw [hv.1]
 rw [hrun, hv']
theorem grownc {w w' : World} {row : Option Nat} {b o : Nat} {v : Value} (hg : w.grownBy w' row) (hb : b < w.heap.size) (hne : some b ≠ row) (hv : w.cell? ⟨b, o, none⟩ = some v) : w'.cell? ⟨b, o, none⟩ = some v :=
 (World.cell?_of_block (w := w) (a := ⟨b, o, none⟩) (hg.block b hb hne)).trans hv
set_option maxRecDepth 20000 in
theorem isFamI_b {z : Bool} {lo hi : Nat} (w : World) (v v2 : Value) (f : Fam) (h : Rd z lo hi w [v, v2] f) (r : Bool) (hr : r = famB f) :
  Calls Tryz.prog 104 #[.agg #[v, v2]] w (PostB w r) := by
 obtain ⟨ha, hb⟩ := h.fam
 obtain ⟨ao, n, cap, rfl, hn, hnc, hcm, hnone⟩ := ha.shape
 obtain ⟨bo, n2, dap, rfl, hn2, hnc', hcm', hnone'⟩ := hb.shape
 subst hn hn2
 unfold maxLen at *
 have HR := Hd hr
 clear hr h
 by_cases h1 : f.1.length ≤ 40
 rotate_left
 ·have HX := Hd (show false = r by rw [HR.out]; unfold famB; simp [h1])
  have h1' : (40 : Int) < (f.1.length : Int) := by omega
  clear ha hb
  go_enter Tryz.func104, Tryz.ntmps104
  go_wp2
  go_ret
  exact ⟨ret_bool HX.out, bwT⟩
 have h1' : ¬ (40 : Int) < (f.1.length : Int) := by omega
 by_cases h2 : f.2.length ≤ 60
 rotate_left
 ·have HX := Hd (show false = r by rw [HR.out]; unfold famB; simp [h2])
  have h2' : (60 : Int) < (f.2.length : Int) := by omega
  clear ha hb
  go_enter Tryz.func104, Tryz.ntmps104
  go_wp2
  go_ret
  exact ⟨ret_bool HX.out, bwT⟩
 have h2' : ¬ (60 : Int) < (f.2.length : Int) := by omega
 have hmm := @run_makeMap Tryz.prog
 go_enter Tryz.func104, Tryz.ntmps104
 go_wp2
 go_loopw [4, 5, 23] (fun _ _ s23 wr => ∃ k : Nat, k ≤ f.1.length ∧ s23 = .int .i64 k ∧ Hid (PplTo f.1 k) ∧ SetOk Tryz.prog 9 4 wr (w.heap.size + 1) ((f.1.take k).map (·.1)).reverse ∧ Below (w.heap.size + 1) (w.alloc (.cells #[.slice ao f.1.length cap, .slice bo f.2.length dap] 37)) wr) (fun _ _ s23 _ => f.1.length - (intOf s23).toNat)
 case atStart => exact ⟨0, Nat.zero_le _, rfl, Hd (fun i hi => absurd hi omT), (by have := SetOk.made (P := Tryz.prog) (sT := 9) (bT := 4) (w.alloc (.cells #[.slice ao f.1.length cap, .slice bo f.2.length dap] 37)); simpa using this), bwT⟩
 case round =>
  rename_i wr
  obtain ⟨k, hk, rfl, hP, hset, hbb⟩ := hrel
  have sW := hbb.size
  simp only [World.size_alloc] at sW
  have hbw : Below w.heap.size w wr := Below.trans ((Below.refl _ _).alloc (Nat.le_refl _) _) (hbb.mono omT)
  have q_f0 : wr.cell? ⟨w.heap.size, 0, none⟩ = some (.slice ao f.1.length cap) := oldc hbb omT sgT
  have q_f1 : wr.cell? ⟨w.heap.size, 1, none⟩ = some (.slice bo f.2.length dap) := oldc hbb omT sgT
  have hml := hset.lt
  by_cases hlt : k < f.1.length
  ·have hI : (k : Int) < (f.1.length : Int) := by omega
   obtain ⟨pb, poff, nm, sx, fa, mo, bn, di, rfl, hx, p0, p1, p2, p3, p4, p5, g0, g1, g2, g3, g4, g5, -, -, hbl, -⟩ := (ha.below hbw).per_at hlt
   have hR := ha
   obtain ⟨r1, hlet_r1⟩ : ∃ r, r = nameOk nm := ⟨_, rfl⟩
   have H1 := Hd hlet_r1
   clear hlet_r1
   obtain ⟨dup, hlet_dup⟩ : ∃ r, r = decide (nm ∈ ((f.1.take k).map (·.1)).reverse) := ⟨_, rfl⟩
   have H5 := Hd hlet_dup
   clear hlet_dup
   obtain ⟨r6, hlet_r6⟩ : ∃ r, r = upOk f.1 k bn fa 1 1 := ⟨_, rfl⟩
   have H6 := Hd hlet_r6
   clear hlet_r6
   obtain ⟨r7, hlet_r7⟩ : ∃ r, r = upOk f.1 k bn mo 2 0 := ⟨_, rfl⟩
   have H7 := Hd hlet_r7
   clear hlet_r7
   have HQ := Hd (show perOk f.1 k = (r1 && (decide (sx = 1 ∨ sx = 2) && (decide (0 ≤ bn ∧ bn ≤ 9999) && (decide (di = -1 ∨ (bn ≤ di ∧ di ≤ 9999)) && (!dup && (r6 && r7)))))) by
    rw [perOk_at hx.out, perC, H1.out, H5.out, H6.out, H7.out]; simp)
   have HFalse := Hd (show perOk f.1 k = false → false = r by intro e; rw [HR.out, famB_ppl hlt e])
   have HL := Hd (show ((f.1.take (k + 1)).map (·.1)).reverse = nm :: ((f.1.take k).map (·.1)).reverse by rw [take_snoc hx.out]; simp)
   have hxo := Hd hx.out
   have hll : (((f.1.take k).map (·.1)).reverse).length ≤ 40 := by simp; omega
   obtain ⟨L, hLe⟩ : ∃ L, L = ((f.1.take k).map (·.1)).reverse := ⟨_, rfl⟩
   rw [← hLe] at hset H5 HL hll
   clear hx hLe HR
   obtain ⟨wo, hwo⟩ : ∃ W : World, W = wr := ⟨_, rfl⟩
   subst hwo
   go_wp2_with fail
   refine (isNameI_b _ nm g0 r1 H1.out).mono ?_
   rintro e w1 ⟨rfl, hb1⟩
   have s1 := hb1.size
   simp only [World.size_alloc, World.size_setCell] at s1
   have hset1 : SetOk Tryz.prog 9 4 w1 (w.heap.size + 1) L := hset.below (Below.after bwT hb1 (by first | omega | (simp; omega) | simp))
   have hB1 : Below (w.heap.size + 1) (w.alloc (.cells #[.slice (some ⟨pb, poff, none⟩) f.1.length cap, .slice bo f.2.length dap] 37)) w1 := Below.after (Below.trans hbb (by have h9 : Below (w.heap.size + 1) wo wo := Below.refl _ _; exact bwT)) hb1 (by first | omega | (simp; omega) | simp)
   have hB1w : Below w.heap.size w w1 := Below.trans ((Below.refl _ _).alloc (Nat.le_refl _) _) (hB1.mono omT)
   have q_f0 : w1.cell? ⟨w.heap.size, 0, none⟩ = some (.slice (some ⟨pb, poff, none⟩) f.1.length cap) := oldc hB1 omT sgT
   have q_f1 : w1.cell? ⟨w.heap.size, 1, none⟩ = some (.slice bo f.2.length dap) := oldc hB1 omT sgT
   have q_p0 : w1.cell? ⟨wo.heap.size, 0, none⟩ = some (.string nm) := oldc hb1 ltT sgT
   have q_p1 : w1.cell? ⟨wo.heap.size, 1, none⟩ = some (.int .i64 sx) := oldc hb1 ltT sgT
   have q_p2 : w1.cell? ⟨wo.heap.size, 2, none⟩ = some (.int .i64 fa) := oldc hb1 ltT sgT
   have q_p3 : w1.cell? ⟨wo.heap.size, 3, none⟩ = some (.int .i64 mo) := oldc hb1 ltT sgT
   have q_p4 : w1.cell? ⟨wo.heap.size, 4, none⟩ = some (.int .i64 bn) := oldc hb1 ltT sgT
   have q_p5 : w1.cell? ⟨wo.heap.size, 5, none⟩ = some (.int .i64 di) := oldc hb1 ltT sgT
   have l_p : wo.heap.size < w1.heap.size := by omega
   have l_f : w.heap.size < w1.heap.size := by omega
   have hpm : ¬ wo.heap.size = w.heap.size + 1 := by omega
   clear hb1 p0 p1 p2 p3 p4 p5 hset
   cases r1
   ·have HX := Hd (HFalse.out (by rw [HQ.out]; rfl))
    go_wp2
    go_ret
    exact ⟨ret_bool HX.out, hB1w⟩
   have hrun := hset1.look Tryz.underlying182 Tryz.underlying9 Tryz.underlying4 krT g0
   rw [← H5.out] at hrun
   cases dup
   rotate_left
   ·have HX := Hd (HFalse.out (by rw [HQ.out]; simp))
    go_wp2
    go_ret
    exact ⟨ret_bool HX.out, hB1w⟩
   have b1 : (sx != 1) = !decide (sx = 1) := rfl
   have b2 : (sx != 2) = !decide (sx = 2) := rfl
   have b3 : (di != -1) = !decide (di = -1) := rfl
   by_cases hC : (sx = 1 ∨ sx = 2) ∧ (0 ≤ bn ∧ bn ≤ 9999) ∧ (di = -1 ∨ (bn ≤ di ∧ di ≤ 9999))
   rotate_left
   ·have HX := Hd (HFalse.out (by
     rw [HQ.out]
     cases hh : (decide (sx = 1 ∨ sx = 2) && (decide (0 ≤ bn ∧ bn ≤ 9999) && decide (di = -1 ∨ (bn ≤ di ∧ di ≤ 9999))))
     ·revert hh
      cases decide (sx = 1 ∨ sx = 2) <;> cases decide (0 ≤ bn ∧ bn ≤ 9999) <;> cases decide (di = -1 ∨ (bn ≤ di ∧ di ≤ 9999)) <;> intro hh <;> first | rfl | cases hh
     ·simp only [Bool.and_eq_true, decide_eq_true_eq] at hh
      exact absurd hh hC))
    clear HQ HFalse hP hR ha hb
    by_cases e1 : sx = 1
    all_goals by_cases e2 : sx = 2
    all_goals by_cases e3 : di = -1
    all_goals simp only [e1, e2, e3, decide_true, decide_false, Bool.not_true, Bool.not_false] at b1 b2 b3
    all_goals try (exfalso; omega)
    all_goals go_wp2
    all_goals first
     | (exfalso; omega)
     | (go_ret; exact ⟨ret_bool HX.out, hB1w⟩)
   have HQ2 := Hd (show perOk f.1 k = (r6 && r7) by rw [HQ.out]; simp [hC.1, hC.2.1, hC.2.2])
   clear HQ
   by_cases e1 : sx = 1
   all_goals by_cases e3 : di = -1
   all_goals have e2 : sx = 1 ∨ sx = 2 := hC.1
   all_goals simp only [e1, e3, decide_true, decide_false, Bool.not_true, Bool.not_false] at b1 b3
   all_goals
    have b2' : sx = 1 ∨ (sx != 2) = false := by
     rcases hC.1 with e | e
     ·exact .inl e
     ·exact .inr (by rw [b2]; simp [e])
    go_wp2_with (at_mapUpdate; refine wpList_update_set rfl rfl Tryz.underlying182 Tryz.underlying9 Tryz.underlying4 rfl hset1 mxT g0 rfl rfl ?_)
    all_goals try (exfalso; omega)
    intro w2 hset2 hgr
    rw [← HL.out] at hset2
    have s2 := hgr.size
    have q_f0 := grownc hgr l_f (by first | (simp; done) | (simp; omega)) q_f0
    have q_f1 := grownc hgr l_f (by first | (simp; done) | (simp; omega)) q_f1
    have q_p2 := grownc hgr l_p (by first | (simp; done) | (simp; omega)) q_p2
    have q_p3 := grownc hgr l_p (by first | (simp; done) | (simp; omega)) q_p3
    have hB2 : Below (w.heap.size + 1) (w.alloc (.cells #[.slice (some ⟨pb, poff, none⟩) f.1.length cap, .slice bo f.2.length dap] 37)) w2 := Below.grown hB1 hgr omT (fun j hj => by simp at hj; omega)
    have hB2w : Below w.heap.size w w2 := Below.trans ((Below.refl _ _).alloc (Nat.le_refl _) _) (hB2.mono omT)
    have l_f := ltL l_f s2
    have l_p := ltL l_p s2
    clear hrun hset1 hgr hB1 hB1w
    go_wp2_with fail
    refine (parI_b _ _ f.1 (hR.below bwT) k hP.out hxo.out fa 1 1 omT omT r6 H6.out).mono ?_
    rintro e w3 ⟨rfl, hb3⟩
    have s3 := hb3.size
    have hset3 := hset2.below hb3
    have hB3 : Below (w.heap.size + 1) (w.alloc (.cells #[.slice (some ⟨pb, poff, none⟩) f.1.length cap, .slice bo f.2.length dap] 37)) w3 := Below.trans hB2 (hb3.mono omT)
    have hB3w : Below w.heap.size w w3 := Below.trans ((Below.refl _ _).alloc (Nat.le_refl _) _) (hB3.mono omT)
    have q_f0 := oldc hb3 l_f q_f0
    have q_p3 := oldc hb3 l_p q_p3
    clear hset2 hB2 hB2w hb3
    cases r6
    ·have HX := Hd (HFalse.out (by rw [HQ2.out]; rfl))
     go_wp2
     go_ret
     exact ⟨ret_bool HX.out, hB3w⟩
    go_wp2_with fail
    refine (parI_b _ _ f.1 (hR.below bwT) k hP.out hxo.out mo 2 0 omT omT r7 H7.out).mono ?_
    rintro e w4 ⟨rfl, hb4⟩
    have hset4 := hset3.below hb4
    have hB4 : Below (w.heap.size + 1) (w.alloc (.cells #[.slice (some ⟨pb, poff, none⟩) f.1.length cap, .slice bo f.2.length dap] 37)) w4 := Below.trans hB3 (hb4.mono omT)
    have hB4w : Below w.heap.size w w4 := Below.trans ((Below.refl _ _).alloc (Nat.le_refl _) _) (hB4.mono omT)
    clear hset3 hB3 hB3w hb4
    cases r7
    ·have HX := Hd (HFalse.out (by rw [HQ2.out]; rfl))
     go_wp2
     go_ret
     exact ⟨ret_bool HX.out, hB4w⟩
    ·have HN := Hd (hP.out.snoc (by rw [HQ2.out]; rfl))
     clear hP HQ2 HFalse
     go_wp2
     go_roundw
     case rel => exact ⟨k + 1, by omega, by go_num, HN, hset4, hB4⟩
     case measure => simp [intOf]; omega
  ·obtain rfl : k = f.1.length := by omega
   obtain ⟨W0, hW0⟩ : ∃ W : World, W = wr := ⟨_, rfl⟩
   subst hW0
   have l_f : w.heap.size < W0.heap.size := by omega
   go_wp2_with fail
   refine (depI_any _ _ f.1 (ha.below bwT) hP.out h1).mono ?_
   rintro e w2 ⟨u, rfl, hod, hb2⟩
   have s2 := hb2.size
   have q_f0 := oldc hb2 l_f q_f0
   have q_f1 := oldc hb2 l_f q_f1
   have l_f := ltL l_f s2
   have hB2 : Below w.heap.size w w2 := Below.after hbw hb2 hbw.size
   have hdl := deps_len f.1
   obtain ⟨D, hD⟩ : ∃ D, D = deps f.1 := ⟨_, rfl⟩
   rw [← hD] at hod hdl
   have HDp := Hd (show depOk f.1 = (D.drop 0).all fun d => decide (d ≤ 10) by rw [hD]; rfl)
   clear hD hbb hb2 hset
   obtain ⟨dao, dn, dcap, rfl, rfl, -, hdcm, -⟩ := hod.rd.shape
   unfold maxLen at hdcm
   have hdI : (D.length : Int) = (f.1.length : Int) := by omega
   go_wp2
   go_loopw [7, 99] (fun _ s31 wr => ∃ k : Nat, k ≤ D.length ∧ s31 = .int .i64 k ∧ Hid (depOk f.1 = (D.drop k).all fun d => decide (d ≤ 10)) ∧ Below w2.heap.size w2 wr) (fun _ s31 _ => D.length - (intOf s31).toNat)
   case atStart => exact ⟨0, Nat.zero_le _, rfl, HDp, Below.refl _ _⟩
   case round =>
    clear HDp
    obtain ⟨k, hkd, rfl, hd, hb3⟩ := hrel
    have hB3 : Below w.heap.size w wr := Below.trans hB2 (hb3.mono hB2.size)
    by_cases hltd : k < D.length
    ·obtain ⟨db, doff, d, rfl, hx, hc, hd1, hd2, _⟩ := (hod.rd.below hb3).int_at hltd
     have hI2 : (k : Int) < (D.length : Int) := by omega
     have HS := Hd (deps_step hx.out)
     clear hx
     by_cases h10 : d ≤ 10
     ·have h10' : ¬ 10 < d := by omega
      have HN := Hd (show depOk f.1 = (D.drop (k + 1)).all fun d => decide (d ≤ 10) by rw [hd.out, HS.out]; simp [h10])
      clear hd HS
      go_wp2
      go_roundw
      case rel => exact ⟨k + 1, by omega, by go_num, HN, hb3⟩
      case measure => simp [intOf]; omega
     ·have h10' : 10 < d := by omega
      have HX := Hd (show false = r by rw [HR.out, famB_dep (by rw [hd.out, HS.out]; simp [h10])])
      clear hd HS
      go_wp2
      go_ret
      exact ⟨ret_bool HX.out, hB3⟩
    ·have HD := Hd (show depOk f.1 = true by rw [hd.out, List.drop_eq_nil_of_le omT]; rfl)
     have hI2 : ¬ (k : Int) < (D.length : Int) := by omega
     have q_f0 := oldc hb3 l_f q_f0
     have q_f1 := oldc hb3 l_f q_f1
     have l_f := ltL l_f hb3.size
     obtain ⟨W3, hW3⟩ : ∃ W : World, W = wr := ⟨_, rfl⟩
     subst hW3
     clear hd hod
     go_wp2
     go_loopw [8, 109] (fun _ s41 wr => ∃ k : Nat, k ≤ f.2.length ∧ s41 = .int .i64 k ∧ Hid (∀ i, i < k → uniOk f i = true) ∧ Below W3.heap.size W3 wr) (fun _ s41 _ => f.2.length - (intOf s41).toNat)
     case atStart => exact ⟨0, Nat.zero_le _, rfl, Hd (fun i hi => absurd hi omT), Below.refl _ _⟩
     case round =>
      obtain ⟨k, hku, rfl, hU, hb4⟩ := hrel
      have hB4 : Below w.heap.size w wr := Below.trans hB3 (hb4.mono hB3.size)
      have q_f0 := oldc hb4 l_f q_f0
      have q_f1 := oldc hb4 l_f q_f1
      by_cases hltu : k < f.2.length
      ·have hI3 : (k : Int) < (f.2.length : Int) := by omega
       obtain ⟨r5, hlet_r5⟩ : ∃ r, r = uniOk f k := ⟨_, rfl⟩
       have H5 := Hd hlet_r5
       clear hlet_r5
       go_wp2_with fail
       refine (uniI_b _ _ _ f (ha.below bwT) (hb.below bwT) h1 hP.out k hltu h2 r5 H5.out).mono ?_
       rintro e w5 ⟨rfl, hb5⟩
       have hb45 : Below W3.heap.size W3 w5 := Below.after hb4 hb5 hb4.size
       have hB5 : Below w.heap.size w w5 := Below.after hB4 hb5 hB4.size
       cases r5
       ·have HX := Hd (show false = r by rw [HR.out, famB_uni hltu H5.out.symm])
        go_wp2
        go_ret
        exact ⟨ret_bool HX.out, hB5⟩
       ·have HN := Hd (show ∀ i, i < k + 1 → uniOk f i = true by
         intro i hi
         by_cases e : i = k
         ·subst e; exact H5.out.symm
         ·exact hU.out i omT)
        clear hU
        go_wp2
        go_roundw
        case rel => exact ⟨k + 1, by omega, by go_num, HN, hb45⟩
        case measure => simp [intOf]; omega
      ·have HX := Hd (show true = r by rw [HR.out, famB_true h1 h2 hP.out HD.out (fun i hi => hU.out i omT)])
       have hI3 : ¬ (k : Int) < (f.2.length : Int) := by omega
       clear hU
       go_wp2
       go_ret
       exact ⟨ret_bool HX.out, hB4⟩
end
section
def inB (f : Fam) (p : Int) : Bool := decide (0 ≤ p ∧ p < f.1.length)
def hasB (f : Fam) (xs : List Int) : Bool := famB f && xs.all (inB f)
def foV (f : Fam) (p sex : Int) : Bool := famB f && inB f p && sexB sex
def foX (f : Fam) (p sex : Int) : Int := if foV f p sex = true then (fo f.1 sex p.toNat : Nat) else 0
def PostIB (w : World) (x : Int) (b : Bool) (e : Ending) (w' : World) : Prop := e = .returned (.tuple #[.int .i64 x, .bool b]) ∧ Below w.heap.size w w'
theorem Rd.lit1 (w : World) (E : TypeId) (p : Int) (hp : I64 p) : Rd true w.heap.size (w.heap.size + 1) (w.alloc (.cells #[.int .i64 p] E)) [.slice (some ⟨w.heap.size, 0, none⟩) 1 1] ([p] : List Int) := by
 refine ⟨[w.heap.size], ⟨_, rfl, some ⟨w.heap.size, 0, none⟩, 1, 1, rfl, rfl, Nat.le_refl _, by simp [maxLen], (fun h => by cases h), .inr ⟨w.heap.size, 0, [[.int .i64 p]], [[]], rfl, by simp, rfl, ⟨⟨rfl, hp, rfl⟩, trivial⟩, ?_, ?_⟩⟩, ?_⟩
 ·intro j c hj
  match j, hj with
  | 0, hj => simp at hj; subst hj; simp [go_sem]
 ·intro _ o; simp [go_sem]
 ·intro b hb; simp at hb; omega
section
variable {z z' : Bool} {lo hi lo' hi' : Nat} (w : World) (v v2 v3 : Value) (f : Fam)
theorem has_b (h : Rd z lo hi w [v, v2] f) (xs : List Int) (h' : Rd z' lo' hi' w [v3] xs) (r : Bool) (hr : r = hasB f xs) :
  Calls Tryz.prog 64 #[.agg #[v, v2], v3] w (PostB w r) := by
 obtain ⟨ha, -⟩ := h.fam
 obtain ⟨ao, n, cap, rfl, hn, hnc, hcm, hnone⟩ := ha.shape
 obtain ⟨go, n3, gap, rfl, rfl, hnc3, hcm3, hnone3⟩ := h'.shape
 subst hn
 unfold maxLen at *
 obtain ⟨r1, hlet_r1⟩ : ∃ r, r = famB f := ⟨_, rfl⟩
 have H1 := Hd hlet_r1
 clear hlet_r1
 obtain ⟨r2, hlet_r2⟩ : ∃ r, r = xs.all (inB f) := ⟨_, rfl⟩
 have H2 := Hd hlet_r2
 clear hlet_r2
 have HR := Hd (show r = (r1 && r2) by rw [hr, hasB, H1.out, H2.out])
 clear hr ha
 go_enter Tryz.func64, Tryz.ntmps64
 go_wp2_with fail
 refine (isFamI_b _ _ _ f (h.below bwT) r1 H1.out).mono ?_
 rintro e1 w1 ⟨rfl, hbw1⟩
 have hpw1 : Below w.heap.size w w1 := Below.after bwT hbw1 szT
 have sw1 := hpw1.size
 have hBw1 : Below w.heap.size w w1 := hpw1
 have l_f : w.heap.size < w1.heap.size := by have := hbw1.size; simp at this; omega
 have q_f0 : w1.cell? ⟨w.heap.size, 0, none⟩ = some (.slice ao f.1.length cap) := oldc hbw1 ltT sgT
 have q_f1 : w1.cell? ⟨w.heap.size, 1, none⟩ = some (v2) := oldc hbw1 ltT sgT
 clear hbw1 hpw1
 cases r1
 ·go_wp2
  go_ret
  exact ⟨ret_bool (by rw [HR.out]; rfl), bwT⟩
 obtain ⟨W0, hW0⟩ : ∃ W : World, W = w1 := ⟨_, rfl⟩
 subst hW0
 have hB0 : Below w.heap.size w W0 := hBw1
 go_wp2
 go_loopw [6, 12] (fun _ s12 wr => ∃ k : Nat, k ≤ xs.length ∧ s12 = .int .i64 k ∧ Hid (r2 = (xs.drop k).all (inB f)) ∧ Below W0.heap.size W0 wr) (fun _ s12 _ => xs.length - (intOf s12).toNat)
 case atStart => exact ⟨0, Nat.zero_le _, rfl, H2, Below.refl _ _⟩
 case round =>
  rename_i wr
  clear H2 H1 h
  obtain ⟨k, hk, rfl, hd, hb2⟩ := hrel
  have hbw : Below w.heap.size w wr := Below.trans hB0 (hb2.mono hB0.size)
  have q_f0 := oldc hb2 l_f q_f0
  by_cases hlt : k < xs.length
  ·obtain ⟨b, off, x, rfl, hx, hc, hx1, hx2, _⟩ := (h'.below hbw).int_at hlt
   have hI : (k : Int) < (xs.length : Int) := by omega
   have HS := Hd (show (xs.drop k).all (inB f) = (inB f x && (xs.drop (k + 1)).all (inB f)) by rw [drop_cons hx.out, List.all_cons])
   clear hx h'
   by_cases e : 0 ≤ x ∧ x < f.1.length
   ·have e1 : ¬ x < 0 := by omega
    have e2 : ¬ (f.1.length : Int) ≤ x := by omega
    have HN := Hd (show r2 = (xs.drop (k + 1)).all (inB f) by rw [hd.out, HS.out, inB, show decide (0 ≤ x ∧ x < (f.1.length : Int)) = true by simpa using e]; rfl)
    clear hd HS
    go_wp2
    go_roundw
    case rel => exact ⟨k + 1, by omega, by go_num, HN, hb2⟩
    case measure => simp [intOf]; omega
   ·have HX := Hd (show false = r by rw [HR.out, hd.out, HS.out, inB, show decide (0 ≤ x ∧ x < (f.1.length : Int)) = false by simpa using e]; rfl)
    clear hd HS
    go_wp2
    all_goals first
     | (exfalso; omega)
     | (go_ret; exact ⟨ret_bool HX.out, hbw⟩)
  ·have HX := Hd (show true = r by rw [HR.out, hd.out, List.drop_eq_nil_of_le omT]; rfl)
   have hI : ¬ (k : Int) < (xs.length : Int) := by omega
   clear hd h'
   go_wp2
   go_ret
   exact ⟨ret_bool HX.out, hbw⟩
theorem l1Has_b (h : Rd z lo hi w [v, v2] f) (p : Int) (r : Bool) (hr : r = (famB f && inB f p)) :
  Calls Tryz.prog 60 #[.agg #[v, v2], .int .i64 p] w (PostB w r) := by
 obtain ⟨ha, -⟩ := h.fam
 obtain ⟨ao, n, cap, rfl, hn, hnc, hcm, hnone⟩ := ha.shape
 subst hn
 unfold maxLen at *
 obtain ⟨r1, hlet_r1⟩ : ∃ r, r = famB f := ⟨_, rfl⟩
 have H1 := Hd hlet_r1
 clear hlet_r1
 have HR := Hd (show r = (r1 && inB f p) by rw [hr, H1.out])
 clear hr ha
 by_cases e : 0 ≤ p ∧ p < f.1.length
 ·have HB := Hd (show r1 = r by rw [HR.out, inB, show decide (0 ≤ p ∧ p < (f.1.length : Int)) = true by simpa using e]; simp)
  have e1 : 0 ≤ p := e.1
  have e2 : p < (f.1.length : Int) := e.2
  go_enter Tryz.func60, Tryz.ntmps60
  go_wp2_with fail
  refine (isFamS_b _ _ _ f (h.below bwT) r1 H1.out).mono ?_
  rintro e2 w2 ⟨rfl, hbw2⟩
  have hpw2 : Below w.heap.size w w2 := Below.after bwT hbw2 szT
  have sw2 := hpw2.size
  have hBw2 : Below w.heap.size w w2 := hpw2
  have l_f : w.heap.size < w2.heap.size := by have := hbw2.size; simp at this; omega
  have q_f0 : w2.cell? ⟨w.heap.size, 0, none⟩ = some (.slice ao f.1.length cap) := oldc hbw2 ltT sgT
  have q_f1 : w2.cell? ⟨w.heap.size, 1, none⟩ = some (v2) := oldc hbw2 ltT sgT
  clear hbw2 hpw2
  go_wp2
  go_ret
  exact ⟨ret_bool HB.out, bwT⟩
 ·have HX := Hd (show false = r by rw [HR.out, inB, show decide (0 ≤ p ∧ p < (f.1.length : Int)) = false by simpa using e]; simp)
  clear H1 h
  by_cases e1 : 0 ≤ p
  ·have e2 : ¬ p < (f.1.length : Int) := by omega
   go_enter Tryz.func60, Tryz.ntmps60
   go_wp2
   go_ret
   exact ⟨ret_bool HX.out, bwT⟩
  ·go_enter Tryz.func60, Tryz.ntmps60
   go_wp2
   go_ret
   exact ⟨ret_bool HX.out, bwT⟩
end
end
end Go.Proofs.YtcbhdmmohdnjbaaGreat
