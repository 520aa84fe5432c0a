/- The program's walker: what newWalker lays, and what next and leads answer. -/
import Derived.Test.YtcbhdmmohdnjbaaGreatLedM
import Derived.Test.YtcbhdmmohdnjbaaGreatGrpM
namespace Go.Proofs.YtcbhdmmohdnjbaaGreat
set_option linter.unusedVariables false
set_option linter.unusedSimpArgs false
open Go.RowKit
set_option maxHeartbeats 100000000
def WkTo (w : World) (B : Nat) (f : Fam) (K : Nat) : Prop := ∀ j : Nat, 1 ≤ j → j < K → ∃ ra rc, w.cell? ⟨B, j * 2, none⟩ = some (.int .i64 f.1.length) ∧ w.cell? ⟨B, j * 2 + 1, none⟩ = some (.slice ra f.1.length rc) ∧ RdS (fun b => b ≠ B) w [.slice ra f.1.length rc] (relTo (ledB f ((j : Int), 0)) f.1.length f.1.length)
def Wk (w : World) (B : Nat) (f : Fam) : Prop := WkTo w B f 9
theorem WkTo.lt {w : World} {B : Nat} {f : Fam} {K : Nat} (h : WkTo w B f K) (hK : 2 ≤ K) : B < w.heap.size := by
 obtain ⟨ra, rc, h0, -, -⟩ := h 1 omT omT
 exact World.block_lt_of_cell? w ⟨B, 1 * 2, none⟩ h0
theorem WkTo.below {w w' : World} {B : Nat} {f : Fam} {K : Nat} (h : WkTo w B f K) (hb : Below w.heap.size w w') : WkTo w' B f K := fun j h1 h2 => by
 obtain ⟨ra, rc, a, b, c⟩ := h j h1 h2
 have lB := World.block_lt_of_cell? w ⟨B, j * 2, none⟩ a
 exact ⟨ra, rc, oldc hb lB a, oldc hb lB b, c.below hb⟩
theorem Wk.below {w w' : World} {B : Nat} {f : Fam} (h : Wk w B f) (hb : Below w.heap.size w w') : Wk w' B f := WkTo.below h hb
theorem Wk.lt {w : World} {B : Nat} {f : Fam} (h : Wk w B f) : B < w.heap.size := WkTo.lt h omT
theorem cell_two {w : World} {B o p : Nat} {c u v : Value} (h : w.cell? ⟨B, p, none⟩ = some c) : ((w.setCell ⟨B, o, none⟩ u).setCell ⟨B, o + 1, none⟩ v).cell? ⟨B, p, none⟩ = some (if o + 1 = p then v else if o = p then u else c) := by
 have h1 := cell_setCell w B o p u c h
 exact cell_setCell _ B (o + 1) p v _ h1
theorem WkTo.put {w : World} {B : Nat} {f : Fam} {K : Nat} (hK : 1 ≤ K) (h : WkTo w B f K) {ra : Option Addr} {rc : Nat} (hB : ∀ o, o < 18 → ∃ c, w.cell? ⟨B, o, none⟩ = some c) (h9 : K < 9) (hr : RdS (fun b => b ≠ B) w [.slice ra f.1.length rc] (relTo (ledB f ((K : Int), 0)) f.1.length f.1.length)) :
  WkTo ((w.setCell ⟨B, K * 2, none⟩ (.int .i64 f.1.length)).setCell ⟨B, K * 2 + 1, none⟩ (.slice ra f.1.length rc)) B f (K + 1) := fun j h1 h2 => by
 have keep : ∀ b, b < w.heap.size → b ≠ B → ((w.setCell ⟨B, K * 2, none⟩ (.int .i64 f.1.length)).setCell ⟨B, K * 2 + 1, none⟩ (.slice ra f.1.length rc)).heap[b]? = w.heap[b]? := fun b _ hb => by
  rw [Below.heap_setCell _ _ _ _ (by show b ≠ B; exact hb), Below.heap_setCell _ _ _ _ (by show b ≠ B; exact hb)]
 by_cases e : j = K
 ·subst e
  obtain ⟨c0, e0⟩ := hB (j * 2) omT
  obtain ⟨c1, e1⟩ := hB (j * 2 + 1) omT
  refine ⟨ra, rc, ?_, ?_, hr.keep keep⟩
  ·rw [cell_two e0, if_neg omT, if_pos rfl]
  ·rw [cell_two e1, if_pos rfl]
 ·obtain ⟨qa, qc, a, b, c⟩ := h j h1 omT
  refine ⟨qa, qc, ?_, ?_, c.keep keep⟩
  ·rw [cell_two a, if_neg omT, if_neg omT]
  ·rw [cell_two b, if_neg omT, if_neg omT]
theorem cells_ex (w : World) (cs : Array Value) (t : TypeId) {o : Nat} (h : o < cs.size) : ∃ c, (w.alloc (.cells cs t)).cell? ⟨w.heap.size, o, none⟩ = some c := ⟨cs[o], by simp [go_sem, h]⟩
def PostWk (w : World) (f : Fam) (e : Ending) (w' : World) : Prop := ∃ B, e = .returned (.pointer (some ⟨B, 0, none⟩)) ∧ Wk w' B f ∧ Below w.heap.size w w'
set_option maxRecDepth 20000 in
theorem newWalker_any {z : Bool} {lo hi : Nat} (w : World) (v v2 : Value) (f : Fam) (h : Rd z lo hi w [v, v2] f) (hf : famB f = true) :
  Calls Tryz.prog 65 #[.agg #[v, v2]] w (PostWk w f) := by
 obtain ⟨ao, an, cap, rfl, hn, -⟩ := h.fam.1.shape
 subst hn
 obtain ⟨bo, bn, dap, rfl, hn2, -⟩ := h.fam.2.shape
 subst hn2
 have HH := Hd h
 have HF := Hd hf
 clear h hf
 go_enter Tryz.func65, Tryz.ntmps65
 have h40 := (famB_facts HF.out).1
 obtain ⟨Z, hZ⟩ : ∃ Z : Array Value, Z = #[.int .i64 0, .slice none 0 0, .int .i64 0, .slice none 0 0, .int .i64 0, .slice none 0 0, .int .i64 0, .slice none 0 0, .int .i64 0, .slice none 0 0, .int .i64 0, .slice none 0 0, .int .i64 0, .slice none 0 0, .int .i64 0, .slice none 0 0, .int .i64 0, .slice none 0 0] := ⟨_, rfl⟩
 have hZs : Z.size = 18 := by rw [hZ]; rfl
 obtain ⟨W2, hW2⟩ : ∃ W : World, W = (w.alloc (.cells #[.slice ao f.1.length cap, .slice bo f.2.length dap] 37)).alloc (.cells Z 143) := ⟨_, rfl⟩
 have f0 : W2.cell? ⟨w.heap.size, 0, none⟩ = some (.slice ao f.1.length cap) := by rw [hW2]; simp [go_sem]
 have f1 : W2.cell? ⟨w.heap.size, 1, none⟩ = some (.slice bo f.2.length dap) := by rw [hW2]; simp [go_sem]
 have bc : ∀ o, o < 18 → ∃ c, W2.cell? ⟨w.heap.size + 1, o, none⟩ = some c := fun o ho => by
  rw [hW2]
  have := cells_ex (w.alloc (.cells #[.slice ao f.1.length cap, .slice bo f.2.length dap] 37)) Z 143 (o := o) omT
  simpa using this
 have bf : ∀ o, W2.frozen? ⟨w.heap.size + 1, o, none⟩ = false := fun o => by rw [hW2]; simp [go_sem]
 have hB2 : Below w.heap.size w W2 := by rw [hW2]; exact bwT
 have l2 : w.heap.size + 1 < W2.heap.size := by rw [hW2]; simp
 go_upto_region 2 with fail
 rw [← hZ, ← hW2]
 clear hZ hZs hW2
 go_wp2
 go_loopw [4] (fun s4 wl => ∃ kn : Nat, 1 ≤ kn ∧ kn ≤ 9 ∧ s4 = .int .i64 kn ∧ wl.cell? ⟨w.heap.size, 0, none⟩ = some (.slice ao f.1.length cap) ∧ wl.cell? ⟨w.heap.size, 1, none⟩ = some (.slice bo f.2.length dap) ∧ (∀ o, o < 18 → ∃ c, wl.cell? ⟨w.heap.size + 1, o, none⟩ = some c) ∧ (∀ o, wl.frozen? ⟨w.heap.size + 1, o, none⟩ = false) ∧ Hid (WkTo wl (w.heap.size + 1) f kn) ∧ Below w.heap.size w wl ∧ w.heap.size + 1 < wl.heap.size) (fun s4 _ => 9 - (intOf s4).toNat)
 case atStart => exact ⟨1, Nat.le_refl _, by omega, rfl, f0, f1, bc, bf, Hd (fun j h1 h2 => by omega), hB2, l2⟩
 case round =>
  clear f0 f1 bc bf hB2 l2
  obtain ⟨wo, hwo⟩ : ∃ y : World, y = wr := ⟨_, rfl⟩
  subst hwo
  obtain ⟨kn, hK1, hK9, rfl, f0, f1, bc, bf, HW, hbo, lo1⟩ := hrel
  by_cases hK8 : kn ≤ 8
  ·have hKI : (kn : Int) ≤ 8 := by omega
   have hK0 : (0 : Int) ≤ (kn : Int) := by omega
   have hKL : (kn : Int) < 9 := by omega
   have lo0 : w.heap.size < wo.heap.size := by omega
   go_upto_region 5 with fail
   refine wp_region_held_drew (S := (fun w' => w'.cell? ⟨w.heap.size, 0, none⟩ = some (.slice ao f.1.length cap) ∧ w'.cell? ⟨w.heap.size, 1, none⟩ = some (.slice bo f.2.length dap))) krT ?_ (fun hHeld => ?_)
   ·exact kpT
   refine tkA 0 ?_
   try simp only [cD]
   refine tkA 1 ?_
   try simp only [cD]
   refine tkA 2 ?_
   try simp only [cD]
   refine tkA 3 ?_
   try simp only [cD]
   refine tkA 4 ?_
   try simp only [cD]
   refine tkA 6 ?_
   try simp only [cD]
   refine tkA 7 ?_
   try simp only [cD]
   refine rd1 5 fun K hK => ?_
   go_simp
   refine (stepRel_any _ _ _ f ((HH.out.below hbo).below ?b1) HF.out (kn : Int) 0 omT omT).mono ?_
   case b1 => exact bwT
   rintro e8 w8 ⟨u8, rfl, ho8, hb8⟩
   obtain ⟨xa, xn, xc, rfl, hxn, -⟩ := ho8.rd.shape
   rw [relTo_len] at hxn
   subst hxn
   have hp8 : Below wo.heap.size wo w8 := Below.trans (show Below wo.heap.size wo _ from bwT) (hb8.mono szT)
   have hS8 := aI (oldc hp8 lo0 f0) (oldc hp8 lo0 f1)
   obtain ⟨z0, z1⟩ := id hS8
   have s8 := hp8.size
   have bc8 : ∀ o, o < 18 → ∃ c, w8.cell? ⟨w.heap.size + 1, o, none⟩ = some c := fun o ho => by
    obtain ⟨c, hc⟩ := bc o ho
    exact ⟨c, oldc hp8 lo1 hc⟩
   have bf8 : ∀ o, w8.frozen? ⟨w.heap.size + 1, o, none⟩ = false := fun o => (hp8.frozen (p := ⟨w.heap.size + 1, o, none⟩) lo1).trans (bf o)
   obtain ⟨d0, hd0⟩ := bc8 (kn * 2) omT
   obtain ⟨d1, hd1⟩ := bc8 (kn * 2 + 1) omT
   have HW8 := Hd (HW.out.below hp8)
   have HR8 := Hd (show RdS (fun b => b ≠ w.heap.size + 1) w8 [.slice xa f.1.length xc] (relTo (ledB f ((kn : Int), 0)) f.1.length f.1.length) by
    obtain ⟨fp, a1, a2⟩ := ho8.rd
    refine ⟨fp, Rep.weak a1, fun b hb => ?_⟩
    have h1 := a2 b hb
    have h2 : wo.heap.size ≤ b := Nat.le_trans (by first | exact Nat.le_refl _ | (simp; done) | (simp; omega)) h1.1
    exact ⟨h1.2, by omega⟩)
   have hB8 : Below w.heap.size w w8 := hbo.trans (hp8.mono omT)
   clear hb8 ho8 hp8
   refine hK.out _ _ kpT fun hHeld => ?_
   clear hK K
   try simp only [cD]
   refine tkA 8 ?_
   try simp only [cD]
   refine rd1 9 fun K hK => ?_
   go_simp
   refine hK.out _ _ kpT fun hHeld => ?_
   clear hK K
   try simp only [cD]
   refine wdT ?_
   obtain ⟨W9, hW9⟩ : ∃ W : World, W = (w8.setCell ⟨w.heap.size + 1, kn * 2, none⟩ (.int .i64 f.1.length)).setCell ⟨w.heap.size + 1, kn * 2 + 1, none⟩ (.slice xa f.1.length xc) := ⟨_, rfl⟩
   have HW9 := Hd (show WkTo W9 (w.heap.size + 1) f (kn + 1) by rw [hW9]; exact HW8.out.put hK1 bc8 omT HR8.out)
   have hb89 : Below (w.heap.size + 1) w8 W9 := by rw [hW9]; exact bwT
   have e0 := oldc hb89 (Nat.lt_succ_self _) z0
   have e1 := oldc hb89 (Nat.lt_succ_self _) z1
   have bc9 : ∀ o, o < 18 → ∃ c, W9.cell? ⟨w.heap.size + 1, o, none⟩ = some c := fun o ho => by
    obtain ⟨c, hc⟩ := bc8 o ho
    rw [hW9]; exact ⟨_, cell_two hc⟩
   have bf9 : ∀ o, W9.frozen? ⟨w.heap.size + 1, o, none⟩ = false := fun o => by
    rw [hW9]; exact frozen_setCell _ _ _ _ _ (frozen_setCell _ _ _ _ _ (bf8 o))
   have hB9 : Below w.heap.size w W9 := hB8.trans (hb89.mono omT)
   have l9 : w.heap.size + 1 < W9.heap.size := by rw [hW9]; simp; omega
   rw [← hW9]
   clear hW9 hb89 HW8 HR8 hd0 hd1 bc8 bf8 hB8 z0 z1 hS8 bc bf f0 f1 HW hbo hHeld
   go_wp2
   go_roundw
   case rel => exact ⟨kn + 1, by omega, by omega, by go_num, e0, e1, bc9, bf9, HW9, hB9, l9⟩
   case measure => simp [intOf]; omega
  ·obtain rfl : kn = 9 := by omega
   go_wp2
   go_ret
   exact ⟨_, rfl, HW.out, hbo⟩
set_option maxRecDepth 20000 in
theorem next_any {z : Bool} {lo hi : Nat} (w : World) (B : Nat) (f : Fam) (hW : Wk w B f) (h40 : f.1.length ≤ 40) (u : Value) (o : List Bool) (h : Rd z lo hi w [u] o) (hl : o.length = f.1.length) (k : Nat) (hk : 1 ≤ k ∧ k ≤ 8) :
  Calls Tryz.prog 83 #[.pointer (some ⟨B, 0, none⟩), u, .int .i64 k] w (PostOw w (stepSet (ledB f ((k : Int), 0)) f.1.length o)) := by
 obtain ⟨ra, rc, c0, c1, hrl⟩ := hW k hk.1 omT
 obtain ⟨oa, on, oc, rfl, hon, -⟩ := h.shape
 rw [hl] at hon
 subst hon
 obtain ⟨R, hR⟩ : ∃ R, R = ledB f ((k : Int), 0) := ⟨_, rfl⟩
 rw [← hR] at hrl ⊢
 obtain ⟨n, hn⟩ : ∃ n, n = f.1.length := ⟨_, rfl⟩
 rw [← hn] at hrl hl h c1 h40 ⊢
 have HH := Hd h
 have HRL := Hd hrl.rd
 have HL := Hd hl
 have lB := World.block_lt_of_cell? w ⟨B, k * 2 + 1, none⟩ c1
 have hkI : (k : Int) < 9 := by omega
 clear h hrl hl hR hn c0 hW
 go_enter Tryz.func83, Tryz.ntmps83
 go_wp2_with (at_make; refine wpList_mk (α := Bool) rfl rfl slBool (y0 := false) (fun _ => ⟨rfl, rfl⟩) rfl rfl rfl rfl omT mxT ?_; intro wA how hbA hlt1)
 have HOA := Hd (show Ow w.heap.size (w.heap.size + 1) wA [.slice (some ⟨w.heap.size, 0, none⟩) n n] (stepTo R n o 0) by rw [stepTo_zero]; exact how)
 clear how
 go_wp2
 go_loopw [8, 9, 11, 17, 34] (fun _ _ _ s17 _ wl => ∃ p : Nat, p ≤ n ∧ s17 = .int .i64 p ∧ Hid (Ow w.heap.size (w.heap.size + 1) wl [.slice (some ⟨w.heap.size, 0, none⟩) n n] (stepTo R n o p)) ∧ Below w.heap.size w wl ∧ w.heap.size < wl.heap.size) (fun _ _ _ s17 _ _ => n - (intOf s17).toNat)
 case atStart => exact ⟨0, Nat.zero_le _, rfl, HOA, hbA, hlt1⟩
 case round =>
  clear HOA hbA hlt1
  obtain ⟨wo, hwo⟩ : ∃ y : World, y = wr := ⟨_, rfl⟩
  subst hwo
  obtain ⟨p, hp, rfl, HO, hbo, lo'⟩ := hrel
  by_cases hpn : p < n
  ·have hpI : (p : Int) < (n : Int) := by omega
   obtain ⟨bx, ofx, x, hoa, hx, x0, -⟩ := (HH.out.below hbo).bool_at (i := p) hpn
   subst hoa
   have hxg : o.getD p false = x := by rw [List.getD_eq_getElem?_getD, hx.out]; rfl
   cases x
   ·have HO2 := Hd (show Ow w.heap.size (w.heap.size + 1) wo [.slice (some ⟨w.heap.size, 0, none⟩) n n] (stepTo R n o (p + 1)) by rw [stepTo_off hxg]; exact HO.out)
    clear HO hxg hx
    go_wp2
    go_roundw
    case rel => exact ⟨p + 1, by omega, by go_num, HO2, hbo, lo'⟩
    case measure => simp [intOf]; omega
   ·have HON := Hd (stepTo_on (R := R) (n := n) hxg)
    obtain ⟨gb, gof, row, gv, hra, hg, g0, hgr, -, -, gbl⟩ := HRL.out.ints_at (i := p) hpn
    subst hra
    rw [relTo_at hpn] at hg
    have hrow : rowTo R p n = row := Option.some.inj hg.out
    obtain ⟨wa, wn, wc', rfl, hwn, -⟩ := hgr.shape
    subst hwn
    rw [hrow] at HON
    have HMX := Hd (show ∀ y ∈ row, ∃ b : Nat, b < n ∧ y = b from fun y hy => by
     rw [← hrow] at hy
     obtain ⟨b, h1, -, h2⟩ := mem_rowTo.1 hy
     exact ⟨b, h1, h2⟩)
    have hrl40 : row.length ≤ 40 := by rw [← hrow]; exact Nat.le_trans (rowTo_len _ _ _) h40
    have HGR := Hd hgr
    have d1 := oldc hbo lB c1
    have g0 := oldc hbo gbl g0
    obtain ⟨S, hS⟩ : ∃ S, S = stepTo R n o p := ⟨_, rfl⟩
    have hSl : S.length = n := by rw [hS, stepTo_len]
    rw [← hS] at HO HON
    have HSL := Hd hSl
    clear hg hgr hrow hS hxg hx hSl
    go_wp2
    go_loopw [11, 34] (fun _ s34 wl => ∃ j : Nat, j ≤ row.length ∧ s34 = .int .i64 j ∧ Hid (Ow w.heap.size (w.heap.size + 1) wl [.slice (some ⟨w.heap.size, 0, none⟩) n n] (markL S (row.take j))) ∧ Below w.heap.size w wl ∧ w.heap.size < wl.heap.size) (fun _ s34 _ => row.length - (intOf s34).toNat)
    case atStart => exact ⟨0, Nat.zero_le _, rfl, Hd (by rw [List.take_zero, markL_nil]; exact HO.out), hbo, lo'⟩
    case round =>
     clear HO
     obtain ⟨wi, hwi⟩ : ∃ y : World, y = wr := ⟨_, rfl⟩
     subst hwi
     obtain ⟨j, hj, rfl, HI, hbi, li⟩ := hrel
     by_cases hjl : j < row.length
     ·have hjI : (j : Int) < (row.length : Int) := by omega
      obtain ⟨by', ofy, y, hwa, hy, y0, -⟩ := (HGR.out.below hbi).int_at (i := j) hjl
      subst hwa
      obtain ⟨c, hcn, rfl⟩ := HMX.out y (List.mem_of_getElem? hy.out)
      have hcI : (c : Int) < (n : Int) := by omega
      obtain ⟨z, -, z0, zf, -⟩ := HI.out.bool_at0 (i := c) hcn
      have HI2 := Hd (show Ow w.heap.size (w.heap.size + 1) (wi.setCell ⟨w.heap.size, c, none⟩ (.bool true)) [.slice (some ⟨w.heap.size, 0, none⟩) n n] (markL S (row.take (j + 1))) by
       rw [take_snoc hy.out, ← markL_snoc S (row.take j) (by rw [HSL.out]; exact hcn)]
       exact HI.out.bool_set0 hcn true)
      have hb2 : Below w.heap.size w (wi.setCell ⟨w.heap.size, c, none⟩ (.bool true)) := by exact bwT
      have l2 : w.heap.size < (wi.setCell ⟨w.heap.size, c, none⟩ (.bool true)).heap.size := by simp; exact li
      clear HI hy
      go_wp2
      go_roundw
      case rel => exact ⟨j + 1, by omega, by go_num, HI2, hb2, l2⟩
      case measure => simp [intOf]; omega
     ·obtain rfl : j = row.length := by omega
      have hjI : ¬ (row.length : Int) < (row.length : Int) := by omega
      have HO2 := Hd (show Ow w.heap.size (w.heap.size + 1) wi [.slice (some ⟨w.heap.size, 0, none⟩) n n] (stepTo R n o (p + 1)) by
       have h := HI.out
       rw [List.take_length, HON.out] at h
       exact h)
      clear HI
      go_wp2
      go_roundw
      case rel => exact ⟨p + 1, by omega, by go_num, HO2, hbi, li⟩
      case measure => simp [intOf]; omega
  ·obtain rfl : p = n := by omega
   have hpI : ¬ (p : Int) < (p : Int) := by omega
   have HO2 := Hd (show Ow w.heap.size wo.heap.size wo [.slice (some ⟨w.heap.size, 0, none⟩) p p] (stepSet R p o) from HO.out.mono (Nat.le_refl _) omT)
   clear HO
   go_wp2
   go_ret
   exact ⟨_, rfl, HO2.out, hbo⟩
set_option maxRecDepth 20000 in
theorem leads_any {z : Bool} {lo hi : Nat} (w : World) (B : Nat) (f : Fam) (hW : Wk w B f) (h40 : f.1.length ≤ 40) (e : Int) (tv : Value) (l : List Stp) (ht : Rd z lo hi w [.int .i64 e, tv] ((e, l) : Kin)) (hks : ∀ s ∈ l, 1 ≤ s.1 ∧ s.1 ≤ 8) (a b : Nat) (ha : a < f.1.length) (hb : b < f.1.length) (r : Bool) (hr : r = leadsB f l a b) :
  Calls Tryz.prog 67 #[.pointer (some ⟨B, 0, none⟩), .agg #[.int .i64 e, tv], .int .i64 a, .int .i64 b] w (PostB w r) := by
 obtain ⟨ta, tn, tc, rfl, htn, htc, htm, -⟩ := ht.kin.2.2.shape
 subst htn
 unfold maxLen at htm
 have htc' : l.length ≤ tc := htc
 have hle : l.length ≤ 9223372036854775807 := by omega
 obtain ⟨_, _, c2, -, -⟩ := hW 1 omT omT
 have c2 : w.cell? ⟨B, 2, none⟩ = some (.int .i64 f.1.length) := c2
 have lB := hW.lt
 have HW := Hd hW
 have HTS := Hd ht.kin.2.2
 have HKS := Hd hks
 have HR := Hd hr
 have k1 : ¬ B = w.heap.size := by omega
 have k2 : ¬ w.heap.size = B := by omega
 have haI : (a : Int) < (f.1.length : Int) := by omega
 have hbI : (b : Int) < (f.1.length : Int) := by omega
 clear hW ht hks hr htc htc' htm
 go_enter Tryz.func67, Tryz.ntmps67
 go_upto_region 2 with (at_make; refine wpList_mk (α := Bool) rfl rfl slBool (y0 := false) (fun _ => ⟨rfl, rfl⟩) rfl rfl rfl rfl omT mxT ?_; intro wA how hbA hlt1)
 simp only [World.size_alloc] at how hbA hlt1
 have hbW : Below w.heap.size w wA := Below.trans (show Below w.heap.size w (w.alloc (.cells #[.int .i64 e, .slice ta l.length tc] 68)) from bwT) (hbA.mono omT)
 have t0 : wA.cell? ⟨w.heap.size, 1, none⟩ = some (.slice ta l.length tc) := oldc hbA (Nat.lt_succ_self _) sgT
 obtain ⟨x, -, x0, xf, -⟩ := how.bool_at0 (i := a) ha
 obtain ⟨WS, hWS⟩ : ∃ W : World, W = wA.setCell ⟨w.heap.size + 1, a, none⟩ (.bool true) := ⟨_, rfl⟩
 have HS := Hd (show Ow (w.heap.size + 1) (w.heap.size + 1 + 1) WS [.slice (some ⟨w.heap.size + 1, 0, none⟩) f.1.length f.1.length] (single f.1.length a) by rw [hWS]; exact how.bool_set0 ha true)
 have hbS : Below (w.heap.size + 1) wA WS := by rw [hWS]; exact bwT
 have hBS : Below w.heap.size w WS := hbW.trans (hbS.mono omT)
 have t1 := oldc hbS (Nat.lt_succ_self _) t0
 have lS : w.heap.size + 1 < WS.heap.size := by rw [hWS]; simp; exact hlt1
 go_upto_region 3 with fail
 rw [← hWS]
 clear hWS how hbA hbW hbS x0 xf t0 hlt1
 go_wp2
 go_loopw [9, 11, 25] (fun s9 _ s25 wl => ∃ (i : Nat) (u : Value), i ≤ l.length ∧ s25 = .int .i64 i ∧ u = s9 ∧ Hid (Rd true 0 wl.heap.size wl [u] (reachL f (single f.1.length a) (l.take i))) ∧ wl.cell? ⟨w.heap.size, 1, none⟩ = some (.slice ta l.length tc) ∧ Below w.heap.size w wl ∧ w.heap.size < wl.heap.size) (fun _ _ s25 _ => l.length - (intOf s25).toNat)
 case atStart => exact ⟨0, _, Nat.zero_le _, rfl, rfl, Hd (HS.out.rd.top.mono (Nat.zero_le _) (Nat.le_refl _)), t1, hBS, by omega⟩
 case round =>
  clear HS hBS t1 lS
  obtain ⟨wo, hwo⟩ : ∃ y : World, y = wr := ⟨_, rfl⟩
  subst hwo
  obtain ⟨i, u, hi, rfl, hu, HO, t1, hbo, lo'⟩ := hrel
  obtain ⟨ua, un, uc, rfl, hun, -⟩ := HO.out.shape
  subst hu
  have hsl : (single f.1.length a).length = f.1.length := by unfold single; simp
  have hol : (reachL f (single f.1.length a) (l.take i)).length = f.1.length := reachL_len hsl _
  rw [hol] at hun
  subst hun
  by_cases hil : i < l.length
  ·have hiI : (i : Int) < (l.length : Int) := by omega
   obtain ⟨sb, so, k, g, e1, hs, s0, s1, gk, gg, -, -, sbl, -⟩ := (HTS.out.below hbo).stp_at hil
   subst e1
   have hk := HKS.out (k, g) (List.mem_of_getElem? hs.out)
   dsimp only at hk
   have HRT := Hd (reachL_take (f := f) (o := single f.1.length a) hs.out)
   obtain ⟨O, hO⟩ : ∃ O, O = reachL f (single f.1.length a) (l.take i) := ⟨_, rfl⟩
   rw [← hO] at HO HRT hol
   have HOL := Hd hol
   obtain ⟨kn, rfl⟩ := Int.eq_ofNat_of_zero_le (show 0 ≤ k by omega)
   have hkn : 1 ≤ kn ∧ kn ≤ 8 := by omega
   clear hs hO hol
   go_wp2_with fail
   refine (next_any _ B f ((HW.out.below hbo).below bwT) h40 _ O (HO.out.below bwT) HOL.out kn hkn).mono ?_
   rintro e5 w5 ⟨u5, rfl, ho5, hb5⟩
   have hp5 : Below wo.heap.size wo w5 := Below.trans (show Below wo.heap.size wo _ from bwT) (hb5.mono szT)
   have t5 := oldc hp5 lo' t1
   have HO5 := Hd (show Rd true 0 w5.heap.size w5 [u5] (reachL f (single f.1.length a) (l.take (i + 1))) by rw [HRT.out]; exact ho5.rd.mono (Nat.zero_le _) (Nat.le_refl _))
   have hb5w : Below w.heap.size w w5 := hbo.trans (hp5.mono omT)
   have l5 : w.heap.size < w5.heap.size := ltL lo' hp5.size
   clear ho5 hb5 hp5 HO HRT
   go_wp2
   go_roundw
   case rel => exact ⟨i + 1, _, by omega, by go_num, rfl, HO5, t5, hb5w, l5⟩
   case measure => simp [intOf]; omega
  ·obtain rfl : i = l.length := by omega
   have hiI : ¬ (l.length : Int) < (l.length : Int) := by omega
   obtain ⟨bx, ofx, x, hua, hx, x0, -⟩ := HO.out.bool_at (i := b) hb
   subst hua
   have HT := Hd (show r = x by
    rw [HR.out, leadsB, List.getD_eq_getElem?_getD]
    have h := hx.out
    rw [List.take_length] at h
    rw [h]; rfl)
   clear HO hx hol
   go_wp2
   go_ret
   exact ⟨ret_bool HT.out.symm, hbo⟩
end Go.Proofs.YtcbhdmmohdnjbaaGreat
