/- Texts laid one behind the other (merge.py): Rlt, Led, PSet, LedI, Lds. -/
import Derived.Test.YtcbhdmmohdnjbaaGreatBase
import Derived.Test.YtcbhdmmohdnjbaaGreatFamM
import Derived.Maps.OwnSet
import Derived.WideKeyPair
import Derived.DeepKeys4
import Derived.BigFrame
namespace Go.Proofs.YtcbhdmmohdnjbaaGreat
set_option linter.unusedVariables false
set_option linter.unusedSimpArgs false
open Go.RowKit
set_option maxHeartbeats 100000000
section
def rowTo (R : Nat → Nat → Bool) (a k : Nat) : List Int := ((List.range k).filter fun b => R a b).map fun (b : Nat) => (b : Int)
def relTo (R : Nat → Nat → Bool) (n m : Nat) : List (List Int) := (List.range m).map fun a => rowTo R a n
theorem rowTo_in {R : Nat → Nat → Bool} {a k : Nat} (h : R a k = true) : rowTo R a (k + 1) = rowTo R a k ++ [(k : Int)] := by
 unfold rowTo; rw [List.range_succ, List.filter_append, List.map_append]; simp [h]
theorem rowTo_out {R : Nat → Nat → Bool} {a k : Nat} (h : R a k = false) : rowTo R a (k + 1) = rowTo R a k := by
 unfold rowTo; rw [List.range_succ, List.filter_append, List.map_append]; simp [h]
theorem rowTo_len (R : Nat → Nat → Bool) (a k : Nat) : (rowTo R a k).length ≤ k := by
 unfold rowTo; rw [List.length_map]; exact Nat.le_trans (List.length_filter_le _ _) spT
theorem relTo_succ (R : Nat → Nat → Bool) (n m : Nat) : relTo R n (m + 1) = relTo R n m ++ [rowTo R m n] := by
 unfold relTo; rw [List.range_succ, List.map_append]; rfl
theorem relTo_len (R : Nat → Nat → Bool) (n m : Nat) : (relTo R n m).length = m := by unfold relTo; simp
theorem relTo_at {R : Nat → Nat → Bool} {n m a : Nat} (h : a < m) : (relTo R n m)[a]? = some (rowTo R a n) := by
 unfold relTo; rw [List.getElem?_map, List.getElem?_range h]; rfl
theorem mem_rowTo {R : Nat → Nat → Bool} {a k : Nat} {p : Int} : p ∈ rowTo R a k ↔ ∃ b : Nat, b < k ∧ R a b = true ∧ p = b := by
 unfold rowTo
 rw [List.mem_map]
 constructor
 ·rintro ⟨b, hb, rfl⟩
  rw [List.mem_filter, List.mem_range] at hb
  exact ⟨b, hb.1, hb.2, rfl⟩
 ·rintro ⟨b, h1, h2, rfl⟩
  exact ⟨b, List.mem_filter.2 ⟨List.mem_range.2 h1, h2⟩, rfl⟩
def PostRl (w : World) (n : Nat) (L : List (List Int)) (e : Ending) (w' : World) : Prop := ∃ u, e = .returned (.agg #[.int .i64 n, u]) ∧ Ow w.heap.size w'.heap.size w' [u] L ∧ Below w.heap.size w w'
set_option maxRecDepth 20000 in
theorem related_any (w : World) (n : Nat) (hn : n ≤ 40) (g : Nat) (lb : Array Value) (R : Nat → Nat → Bool) (eg : ∀ args w, (callFunc g args).run Tryz.prog w = .ok (.enter g args) w)
  (hcl : ∀ (W : World) (a b : Nat), Below w.heap.size w W → a < n → b < n → Calls Tryz.prog g (#[.int .i64 a, .int .i64 b] ++ lb) W (PostB W (R a b))) :
  Calls Tryz.prog 142 #[.int .i64 n, .func (.func g) #[] lb] w (PostRl w n (relTo R n n)) := by
 have HCL := Hd hcl
 clear hcl
 go_enter Tryz.func142, Tryz.ntmps142
 go_wp2
 go_loopw [6, 7, 8, 12, 16] (fun _ _ _ s12 _ wl => ∃ (m : Nat) (u : Value), m ≤ n ∧ s12 = .int .i64 m ∧ wl.cell? ⟨w.heap.size, 0, none⟩ = some (.int .i64 0) ∧ wl.cell? ⟨w.heap.size, 1, none⟩ = some (.slice none 0 0) ∧ (∀ o, wl.frozen? ⟨w.heap.size, o, none⟩ = false) ∧ wl.cell? ⟨w.heap.size + 1, 0, none⟩ = some (.int .i64 n) ∧ wl.cell? ⟨w.heap.size + 1, 1, none⟩ = some u ∧ (∀ o, wl.frozen? ⟨w.heap.size + 1, o, none⟩ = false) ∧ Hid (GL (α := List Int) true (w.heap.size + 1 + 1) (w.heap.size + 1 + 1) wl.heap.size wl 54 u (relTo R n m)) ∧ Below w.heap.size w wl ∧ w.heap.size + 1 + 1 ≤ wl.heap.size) (fun _ _ _ s12 _ _ => n - (intOf s12).toNat)
 case atStart => exact ⟨0, _, Nat.zero_le _, rfl, by simp [go_sem], by simp [go_sem], (fun o => by simp [go_sem]), by simp [go_sem], by simp [go_sem], (fun o => by simp [go_sem]), Hd (GL.start _ _ _ _ _ _), bwT, by simp⟩
 case round =>
  obtain ⟨wo, hwo⟩ : ∃ wm : World, wm = wr := ⟨_, rfl⟩
  subst hwo
  obtain ⟨m, u, hm, rfl, y0, y1, yf, z0, z1, zf, HG, hbo, so⟩ := hrel
  have ly : w.heap.size < wo.heap.size := by omega
  have lz : w.heap.size + 1 < wo.heap.size := by omega
  by_cases hlt : m < n
  ·have hI : (m : Int) < (n : Int) := by omega
   go_wp2
   go_loopw [7, 8, 16] (fun s7 _ s16 wl => ∃ k : Nat, k ≤ n ∧ s16 = .int .i64 k ∧ Hid (GL (α := Int) true wo.heap.size wo.heap.size wl.heap.size wl 3 s7 (rowTo R m k)) ∧ Below wo.heap.size wo wl) (fun _ _ s16 _ => n - (intOf s16).toNat)
   case atStart => exact ⟨0, Nat.zero_le _, rfl, Hd (GL.start _ _ _ _ _ _), Below.refl _ _⟩
   case round =>
    obtain ⟨wi, hwi⟩ : ∃ wm : World, wm = wr := ⟨_, rfl⟩
    subst hwi
    obtain ⟨k, hk, rfl, HL, hbi⟩ := hrel
    have si := hbi.size
    have hbwi : Below w.heap.size w wi := hbo.trans (hbi.mono omT)
    have hlen := rowTo_len R m k
    by_cases hlk : k < n
    ·have hIk : (k : Int) < (n : Int) := by omega
     have hl := HCL.out wi m k hbwi hlt hlk
     have HW := Hd (show GL (α := Int) true wo.heap.size wo.heap.size wi.heap.size wi 3 _ (rowTo R m k) from HL.out)
     cases hR : R m k with
     | true =>
       rw [hR] at hl
       have HX := Hd (rowTo_in hR)
       clear hR
       go_wp2_with fail
       refine hl.mono ?_
       rintro e w1 ⟨rfl, hb1⟩
       have HL1 := Hd (HL.out.below hb1)
       obtain ⟨P, hP⟩ : ∃ P, P = rowTo R m k := ⟨_, rfl⟩
       rw [← hP] at HX HL1 hlen
       have s1 := hb1.size
       have hbi1 : Below wo.heap.size wo w1 := Below.after hbi hb1 si
       have hkI : I64 (k : Int) := by unfold I64; omega
       clear hl HW hP HL hb1
       go_wp2_with (at_builtin; refine wpList_push rfl rfl slInt (by show (0 : Nat) < 1; omega) (HL1.out.alloc _) rfl (ad := ⟨w1.heap.size, 0, none⟩) rfl (cs := [.int .i64 k]) (y := (k : Int)) (lx := w1.heap.size) (hx' := w1.heap.size) ?c1 (It.flat (z := true) (w0 := w1) (fp := []) ⟨rfl, hkI, rfl⟩) omT (.inl szT) mxT omT ?c2 ?_)
       case c1 =>
        intro j c hj
        match j, hj with
        | 0, hj => simp at hj; subst hj; simp [Addr.add]
       case c2 => simp; omega
       intro v1 w3 hL3 _ hb3
       have HL3 := Hd (show GL (α := Int) true wo.heap.size wo.heap.size w3.heap.size w3 3 v1 (rowTo R m (k + 1)) by rw [HX.out]; exact hL3)
       have hbi3 : Below wo.heap.size wo w3 := Below.trans bwT hb3
       clear HL1 hL3 hb3
       go_wp2
       go_roundw
       case rel => exact ⟨k + 1, by omega, by go_num, HL3, hbi3⟩
       case measure => simp [intOf]; omega
     | false =>
       rw [hR] at hl
       have HX := Hd (rowTo_out hR)
       clear hR HW
       go_wp2_with fail
       refine hl.mono ?_
       rintro e w1 ⟨rfl, hb1⟩
       have HL1 := Hd (HL.out.below hb1)
       have hbi1 : Below wo.heap.size wo w1 := Below.after hbi hb1 si
       have HL3 := Hd (show GL (α := Int) true wo.heap.size wo.heap.size w1.heap.size w1 3 _ (rowTo R m (k + 1)) by rw [HX.out]; exact HL1.out.top)
       clear hl HL HL1 hb1
       go_wp2
       go_roundw
       case rel => exact ⟨k + 1, by omega, by go_num, HL3, hbi1⟩
       case measure => simp [intOf]; omega
    ·have hnk : ¬ (k : Int) < (n : Int) := by omega
     obtain rfl : k = n := by omega
     have HS := Hd (relTo_succ R k m)
     have hll := relTo_len R k m
     obtain ⟨L, hL⟩ : ∃ L, L = rowTo R m k := ⟨_, rfl⟩
     obtain ⟨A, hA⟩ : ∃ A, A = relTo R k m := ⟨_, rfl⟩
     rw [← hL] at HL hlen HS
     rw [← hA] at HG hll HS
     have hA40 : A.length ≤ 40 := by omega
     clear hL hA hll
     obtain ⟨ra, rc, rfl, -, -⟩ := HL.out.len
     have HI4 := Hd (GL.it (l0 := wo.heap.size) HL.out (Nat.le_refl _) (Nat.le_refl _))
     have HGi := Hd (HG.out.below hbi)
     replace y0 := oldc hbi ly y0
     replace y1 := oldc hbi ly y1
     replace z0 := oldc hbi lz z0
     replace z1 := oldc hbi lz z1
     replace yf : ∀ o, wi.frozen? ⟨w.heap.size, o, none⟩ = false := fun o => (hbi.frozen (p := ⟨w.heap.size, o, none⟩) ly).trans (yf o)
     replace zf : ∀ o, wi.frozen? ⟨w.heap.size + 1, o, none⟩ = false := fun o => (hbi.frozen (p := ⟨w.heap.size + 1, o, none⟩) lz).trans (zf o)
     obtain ⟨ua, uc, rfl, -, -⟩ := HGi.out.len
     have n1 : ¬ w.heap.size + 1 = wi.heap.size := by omega
     have n2 : ¬ wi.heap.size = w.heap.size + 1 := by omega
     have n3 : ¬ w.heap.size = wi.heap.size := by omega
     have n4 : ¬ wi.heap.size = w.heap.size := by omega
     clear HG HL
     go_wp2_with (at_builtin; refine wpList_push rfl rfl slInts (by show (0 : Nat) < 1; omega) (HGi.out.alloc _) rfl (ad := ⟨wi.heap.size, 0, none⟩) rfl (cs := [_]) (y := L) (lx := wo.heap.size) (hx' := wi.heap.size) ?d1 (HI4.out.keep znT) omT (.inl (Nat.le_refl _)) mxT omT ?d2 ?_)
     case d2 => first | omega | (simp; omega)
     intro v5 w5 hG5 _ hb5
     obtain ⟨g5, cap5, rfl, -, -⟩ := hG5.form spT
     rw [List.length_append, List.length_singleton] at hG5
     have hp5 : Below (w.heap.size + 1 + 1) wi w5 := Below.trans (show Below (w.heap.size + 1 + 1) wi _ from bwT) hb5
     have s5 := hp5.size
     have y0 := oldc hp5 omT y0
     have y1 := oldc hp5 omT y1
     have z0 := oldc hp5 omT z0
     have z1 := oldc hp5 omT z1
     have yf : ∀ o, w5.frozen? ⟨w.heap.size, o, none⟩ = false := fun o => (hp5.frozen (p := ⟨w.heap.size, o, none⟩) (by show w.heap.size < w.heap.size + 1 + 1; omega)).trans (yf o)
     have zf : ∀ o, w5.frozen? ⟨w.heap.size + 1, o, none⟩ = false := fun o => (hp5.frozen (p := ⟨w.heap.size + 1, o, none⟩) (Nat.lt_succ_self _)).trans (zf o)
     have hB5 : Below w.heap.size w w5 := hbwi.trans (hp5.mono omT)
     have HG5 := Hd hG5
     have HGX := Hd (show GL (α := List Int) true (w.heap.size + 1 + 1) (w.heap.size + 1 + 1) _ (w5.setCell ⟨w.heap.size + 1, 1, none⟩ (.slice (some ⟨g5, 0, none⟩) (A.length + 1) cap5)) 54 (.slice (some ⟨g5, 0, none⟩) (A.length + 1) cap5) (relTo R k (m + 1)) by
      rw [HS.out]; exact (HG5.out.keep zmT zmT).top)
     have l5 : w.heap.size + 1 < w5.heap.size := by omega
     have m1 : ¬ w.heap.size + 1 = w.heap.size := by omega
     have m2 : ¬ w.heap.size = w.heap.size + 1 := by omega
     clear HGi HI4 hG5 hb5 hp5 HG5 HS n1 n2 n3 n4 hbi hbwi HCL
     go_wp2
     go_roundw
     case rel => exact ⟨m + 1, _, by omega, by go_num, by simp [go_sem, *], by simp [go_sem, *], (fun o => by simp [go_sem, *]), by simp [go_sem, *], by simp [go_sem, *], (fun o => by simp [go_sem, *]), HGX, bwT, soT⟩
     case measure => simp [intOf]; omega
  ·obtain rfl : m = n := by omega
   have hI : ¬ (m : Int) < (m : Int) := by omega
   have HO := Hd (HG.out.ow (l0 := w.heap.size + 1 + 1) (Nat.le_refl _) (Nat.le_refl _))
   obtain ⟨A, hA⟩ : ∃ A, A = relTo R m m := ⟨_, rfl⟩
   rw [← hA] at HG HO
   have HA := Hd hA
   obtain ⟨ua, uc, rfl, -, -⟩ := HG.out.len
   clear hA HG HCL
   go_wp2
   refine bodyPost_ret (v := .agg #[.int .i64 m, .slice ua A.length uc]) (by simp [results, go_sem, *]) rfl ?_
   refine ⟨_, rfl, ?_, ?_⟩
   ·have HO2 := HO.out.keep (w' := (wo.setCell ⟨w.heap.size, 0, none⟩ (.int .i64 m)).setCell ⟨w.heap.size, 1, none⟩ (.slice ua A.length uc)) zmT
    rw [← HA.out]
    exact Ow.mono HO2 omT spT
   ·exact bwT
end
section
def fullB (x y : Per) (a b : Int) : Bool := decide (a ≠ b) && (decide (0 ≤ x.2.2.1) && (decide (0 ≤ x.2.2.2.1) && (decide (x.2.2.1 = y.2.2.1) && decide (x.2.2.2.1 = y.2.2.2.1))))
def eldB (x y : Per) (a b : Int) : Bool := decide (x.2.2.2.2.1 < y.2.2.2.2.1 ∨ (x.2.2.2.2.1 = y.2.2.2.2.1 ∧ a < b))
def parB (y : Per) (a : Int) : Bool := decide (y.2.2.1 = a ∨ y.2.2.2.1 = a)
def wedS (us : List Uni) (k : Int) : List (Int × Int) := if k = 7 then us.map fun u => (u.2.1, u.1) else if k = 8 then us.map fun u => (u.1, u.2.1) else []
def ledC (us : List Uni) (k g a b : Int) (x y : Per) : Bool :=
 if k = 1 then decide (x.2.2.1 = b)
 else if k = 2 then decide (x.2.2.2.1 = b)
 else if k = 3 ∨ k = 4 then decide (y.2.1 = stSex k) && (fullB x y a b && ((decide (g ≠ 1) || eldB y x b a) && (decide (g ≠ 2) || eldB x y a b)))
 else if k = 5 ∨ k = 6 then decide (y.2.1 = stSex k) && parB y a
 else decide ((a, b) ∈ wedS us k)
def ledB (f : Fam) (s : Stp) (a b : Nat) : Bool := match f.1[a]?, f.1[b]? with | some x, some y => ledC f.2 s.1 s.2 a b x y | _, _ => false
theorem ledB_at {f : Fam} {k g : Int} {a b : Nat} {x y : Per} (hx : f.1[a]? = some x) (hy : f.1[b]? = some y) : ledB f (k, g) a b = ledC f.2 k g a b x y := by unfold ledB; rw [hx, hy]
theorem wedS_take {us : List Uni} {k : Int} {i : Nat} {u : Uni} (h : us[i]? = some u) : wedS (us.take (i + 1)) k = wedS (us.take i) k ++ (if k = 7 then [(u.2.1, u.1)] else if k = 8 then [(u.1, u.2.1)] else []) := by
 unfold wedS
 rw [take_snoc h]
 by_cases h7 : k = 7
 ·simp [h7]
 ·by_cases h8 : k = 8
  ·simp [h8]
  ·simp [h7, h8]
end
section
open Go.RowKit Go.Maps Go.ChangeMaps Go.WideMaps
theorem prLaid : laidOutB Tryz.prog = true := by kernel_rfl
theorem prRow : (188 : TypeId) < Tryz.prog.types.size := of_decide_eq_true krT
theorem prDeep : Tryz.prog.keyTypeAt 2 188 = true := by kernel_rfl
theorem prKeyed : Keyed Tryz.prog 188 := Keyed.of_law (deep_law_laid prLaid (m := 2) (of_decide_eq_true krT) prRow prDeep (by rw [Tryz.underlying188]))
theorem prSome : ∃ m, Tryz.prog.types.size = m + 1 := Nat.exists_eq_succ_of_ne_zero (Nat.ne_of_gt (Nat.lt_of_le_of_lt (Nat.zero_le _) prRow))
theorem zeroBool (w : World) : (zeroValue 4).run Tryz.prog w = .ok (.bool false) w := by kernel_rfl
theorem plainElem_bool_inv {H : Type} {P : Program} {e : TypeId} (he : P.underlying e = some .bool) {v : Value} {z : DataW H × List MemPlace} (h : plainElem P e v = some z) : ∃ x, v = .bool x ∧ z = (.lit (.bool x), []) := by
 unfold plainElem at h
 rw [he] at h
 cases v <;> simp at h
 exact ⟨_, rfl, h.symm⟩
def prLit (p : Int × Int) : Lit := .string (keyBytes [.int .i64 p.1, .int .i64 p.2])
theorem int_wf {a : Int} (h : I64 a) : (Lit.int .i64 a).wf = true := WalkArith.wf_i64 (by unfold I64 at h; exact h)
theorem prKey {p : Int × Int} (h1 : I64 p.1) (h2 : I64 p.2) : keyOf Tryz.prog 188 (.agg #[.int .i64 p.1, .int .i64 p.2]) = some (prLit p) := by
 obtain ⟨a, b⟩ := p
 have hk : Tryz.prog.keyType 188 = true := by kernel_rfl
 have wa := int_wf h1
 have wb := int_wf h2
 dsimp only at wa wb ⊢
 have hc : Tryz.prog.cellsOf 188 = 2 := by kernel_rfl
 have hi : Tryz.prog.cellsOf 3 = 1 := by kernel_rfl
 obtain ⟨m, hm⟩ := prSome
 unfold keyOf
 simp only [Tryz.underlying188]
 rw [if_pos (by rw [hk]; simp [Value.formed, Tryz.underlying188, hc]), hm]
 unfold Program.keyLits
 simp only [Tryz.underlying188, Value.cells, hc]
 rw [if_pos spT]
 simp [Program.keyLits, Tryz.underlying3, wa, wb, hi, prLit]
theorem pr_inj {p q : Int × Int} (h1 : I64 p.1) (h2 : I64 p.2) (g1 : I64 q.1) (g2 : I64 q.2) (e : prLit p = prLit q) : p = q := by
 have := prKeyed.inj (prKey h1 h2) (by rw [e]; exact prKey g1 g2)
 simp only [Value.agg.injEq, Array.mk.injEq, List.cons.injEq, Value.int.injEq, true_and, and_true] at this
 exact Prod.ext this.1 this.2
def PSet (w : World) (b n : Nat) (S : List (Int × Int)) : Prop :=
 (∀ p ∈ S, I64 p.1 ∧ I64 p.2) ∧ ∃ D : DataW Unit, w.ownsMap Tryz.prog 188 (plainElem Tryz.prog 4) b n D ∧ IsMap D ∧ ∀ p : Int × Int, I64 p.1 → I64 p.2 → D.atKey (prLit p) (.lit (.bool false)) = .lit (.bool (decide (p ∈ S)))
theorem PSet.made (w : World) : PSet (w.alloc (.map #[] 0)) w.heap.size 0 [] :=
 ⟨(fun p h => by cases h), .map [], World.ownsMap_made _ _ _ _, isMap_empty, fun p _ _ => by simp [DataW.atKey]⟩
theorem PSet.keepb {w w' : World} {b n : Nat} {S : List (Int × Int)} (h : PSet w b n S) (k : w'.heap[b]? = w.heap[b]?) : PSet w' b n S := by
 obtain ⟨h0, D, ⟨es, clock, hb, r⟩, h2⟩ := h
 exact ⟨h0, D, ⟨es, clock, k.trans hb, r⟩, h2⟩
theorem PSet.lt {w : World} {b n : Nat} {S : List (Int × Int)} (h : PSet w b n S) : b < w.heap.size := by
 obtain ⟨h0, D, h1, h2⟩ := h
 exact h1.lt
theorem PSet.below {w w' : World} {b n : Nat} {S : List (Int × Int)} (h : PSet w b n S) (k : Below w.heap.size w w') : PSet w' b n S := h.keepb (k.block b h.lt)
theorem PSet.more {w : World} {b n m : Nat} {S : List (Int × Int)} (h : PSet w b n S) (k : n ≤ m) : PSet w b m S := by
 obtain ⟨h0, D, h1, h2⟩ := h
 exact ⟨h0, D, h1.mono k, h2⟩
theorem wpList_pset_look {w : World} {ops : Array Oper} {rest : List Oper} {o : Oper} {a : Act} {Q : Exit → Act → World → Prop} (hg : o.guard = none) {m x : Operand} {t : TypeId} (hop : o.op = Op.lookup t m x false)
  (ht : Tryz.prog.underlying t = some (.map 188 4)) {b n : Nat} {S : List (Int × Int)} (hm : a.eval m = .map (some b)) (h : PSet w b n S) {p : Int × Int} (hx : a.eval x = .agg #[.int .i64 p.1, .int .i64 p.2]) (h1 : I64 p.1) (h2 : I64 p.2) (r : Bool) (hr : r = decide (p ∈ S))
  (hK : wpList Tryz.prog ops Q rest (a.put o.dst (.bool r)) w) : wpList Tryz.prog ops Q (o :: rest) a w := by
 subst hr
 obtain ⟨h0, D, hD, hM, h3⟩ := h
 refine wpList_plain hg fun K' hK' => ?_
 obtain ⟨v, ps, hrun, hv⟩ := hD.lookup prKeyed ht (zeroBool w) (plainElem_bool Tryz.underlying4 false) (prKey h1 h2)
 rw [h3 p h1 h2] at hv
 have hvb : v = .bool (decide (p ∈ S)) := by
  obtain ⟨x, rfl, e⟩ := plainElem_bool_inv Tryz.underlying4 hv
  simp only [Prod.mk.injEq, DataW.lit.injEq, Lit.bool.injEq] at e
  rw [e.1]
 subst hvb
 unfold Oper.wp
 simp [execOp, hop, hm, hx, hrun, Result.andThen]
 exact hK' _ _ (by simpa using hK)
theorem wpList_pset_put {w : World} {ops : Array Oper} {rest : List Oper} {o : Oper} {a : Act} {Q : Exit → Act → World → Prop} (hg : o.guard = none) {m x v : Operand} {t : TypeId} (hop : o.op = Op.mapUpdate t m x v)
  (ht : Tryz.prog.underlying t = some (.map 188 4)) {b n : Nat} {S : List (Int × Int)} (hm : a.eval m = .map (some b)) (h : PSet w b n S) (hn : n < maxLen) {p : Int × Int} (hx : a.eval x = .agg #[.int .i64 p.1, .int .i64 p.2]) (hp1 : I64 p.1) (hp2 : I64 p.2) (hv : a.eval v = .bool true)
  (hK : ∀ w', PSet w' b (n + 1) (S ++ [p]) → w.grownBy w' (some b) → wpList Tryz.prog ops Q rest (a.put o.dst undef) w') : wpList Tryz.prog ops Q (o :: rest) a w := by
 obtain ⟨h0, D, h1, h2, h3⟩ := h
 refine wpList_mapUpdate_own w hg m x v t hop _ _ prKeyed ht _ b n D hm h1 hn _ _ _ hx hv (prKey hp1 hp2) _ [] (plainElem_bool Tryz.underlying4 true) fun w' g1 g2 => hK w' ⟨fun q hq => ?_, _, g1, h2.put _ _, fun q hq1 hq2 => ?_⟩ g2
 ·rcases List.mem_append.1 hq with hq | hq
  ·exact h0 q hq
  ·rw [List.mem_singleton] at hq; rw [hq]; exact ⟨hp1, hp2⟩
 ·by_cases hr : q = p
  ·subst hr
   rw [atKey_put_same h2 (prKeyed.key (prKey hp1 hp2))]
   simp
  ·rw [atKey_put_other (by intro e; exact hr (pr_inj hq1 hq2 hp1 hp2 e)), h3 q hq1 hq2]
   simp [hr]
end
section
section
variable {z : Bool} {lo hi : Nat} (w : World) (v v2 : Value) (ps : List Per) (h : Rd z lo hi w [v] ps) (a b : Nat) {x y : Per} (hx : ps[a]? = some x) (hy : ps[b]? = some y) (r : Bool)
include h hx hy
theorem isElder_b (hr : r = eldB x y a b) : Calls Tryz.prog 145 #[.agg #[v, v2], .int .i64 a, .int .i64 b] w (PostB w r) := by
 obtain ⟨ao, n, cap, rfl, hn, -⟩ := h.shape
 subst hn
 have ha := (List.getElem?_eq_some_iff.1 hx).1
 have hb := (List.getElem?_eq_some_iff.1 hy).1
 obtain ⟨B, O, nm, sx, fa, mo, bo, di, rfl, hX, x0, x1, x2, x3, x4, x5, -, -, -, -, -, -, -, -, hbl, -⟩ := h.per_at ha
 obtain rfl := Option.some.inj (hX.out.symm.trans hx)
 obtain ⟨_, _, nm', sx', fa', mo', bo', di', e, hY, y0, y1, y2, y3, y4, y5, -⟩ := h.per_at hb
 simp only [Option.some.injEq, Addr.mk.injEq, and_true] at e
 obtain ⟨rfl, rfl⟩ := e
 obtain rfl := Option.some.inj (hY.out.symm.trans hy)
 have haI : (a : Int) < (ps.length : Int) := by omega
 have hbI : (b : Int) < (ps.length : Int) := by omega
 have HR := Hd hr
 clear h hx hy hX hY x0 x1 x2 x3 x5 y0 y1 y2 y3 y5 hr
 go_enter Tryz.func145, Tryz.ntmps145
 go_upto_region 1 with fail
 go_region_held3 (fun w' => w'.cell? ⟨w.heap.size, 0, none⟩ = some (.slice (some ⟨B, O, none⟩) ps.length cap) ∧ w'.cell? ⟨B, O + a * 6 + 4, none⟩ = some (.int .i64 bo) ∧ w'.cell? ⟨B, O + b * 6 + 4, none⟩ = some (.int .i64 bo')) (go_keep) (fail)
 by_cases h1 : bo < bo'
 ·have HT := Hd (show r = true by rw [HR.out]; exact decide_eq_true (.inl h1))
  go_wp2
  go_ret
  exact ⟨ret_bool HT.out.symm, bwT⟩
 ·by_cases h2 : bo = bo'
  ·by_cases h3 : a < b
   ·have HT := Hd (show r = true by rw [HR.out]; exact decide_eq_true (.inr ⟨h2, by omega⟩))
    have h3I : (a : Int) < (b : Int) := by omega
    subst h2
    go_wp2
    go_ret
    exact ⟨ret_bool HT.out.symm, bwT⟩
   ·have HT := Hd (show r = false by rw [HR.out]; exact decide_eq_false (fun h => by rcases h with h | h <;> simp at h <;> omega))
    have h3I : ¬ (a : Int) < (b : Int) := by omega
    subst h2
    go_wp2
    go_ret
    exact ⟨ret_bool HT.out.symm, bwT⟩
  ·have HT := Hd (show r = false by rw [HR.out]; exact decide_eq_false (fun h => by rcases h with h | h <;> simp at h <;> omega))
   have h3 : (bo == bo') = false := by simpa using h2
   clear h2
   go_wp2
   go_ret
   exact ⟨ret_bool HT.out.symm, bwT⟩
theorem areFull_b (hr : r = fullB x y a b) : Calls Tryz.prog 144 #[.agg #[v, v2], .int .i64 a, .int .i64 b] w (PostB w r) := by
 obtain ⟨ao, n, cap, rfl, hn, -⟩ := h.shape
 subst hn
 have ha := (List.getElem?_eq_some_iff.1 hx).1
 have hb := (List.getElem?_eq_some_iff.1 hy).1
 obtain ⟨B, O, nm, sx, fa, mo, bo, di, rfl, hX, x0, x1, x2, x3, x4, x5, -, -, -, -, -, -, -, -, hbl, -⟩ := h.per_at ha
 obtain rfl := Option.some.inj (hX.out.symm.trans hx)
 obtain ⟨_, _, nm', sx', fa', mo', bo', di', e, hY, y0, y1, y2, y3, y4, y5, -⟩ := h.per_at hb
 simp only [Option.some.injEq, Addr.mk.injEq, and_true] at e
 obtain ⟨rfl, rfl⟩ := e
 obtain rfl := Option.some.inj (hY.out.symm.trans hy)
 have haI : (a : Int) < (ps.length : Int) := by omega
 have hbI : (b : Int) < (ps.length : Int) := by omega
 have HR := Hd (show r = (decide ((a : Int) ≠ b) && (decide (0 ≤ fa) && (decide (0 ≤ mo) && (decide (fa = fa') && decide (mo = mo'))))) from hr)
 clear h hx hy hX hY hr
 go_enter Tryz.func144, Tryz.ntmps144
 go_upto_region 1 with fail
 go_cut [7, 8] (fun s7 s8 wx => ∃ b7 b8 : Nat, s7 = .pointer (some ⟨b7, 0, none⟩) ∧ s8 = .pointer (some ⟨b8, 0, none⟩) ∧ wx.cell? ⟨b7, 2, none⟩ = some (.int .i64 fa) ∧ wx.cell? ⟨b7, 3, none⟩ = some (.int .i64 mo) ∧ wx.cell? ⟨b8, 2, none⟩ = some (.int .i64 fa') ∧ wx.cell? ⟨b8, 3, none⟩ = some (.int .i64 mo') ∧ Below w.heap.size w wx)
 case first =>
  have k0 : ¬ B = w.heap.size := by omega
  have k1 : ¬ w.heap.size = B := by omega
  have k2 : ¬ B = w.heap.size + 1 := by omega
  have k3 : ¬ w.heap.size + 1 = B := by omega
  have k4 : ¬ B = w.heap.size + 1 + 1 := by omega
  have k5 : ¬ w.heap.size + 1 + 1 = B := by omega
  have k6 : B < w.heap.size + 1 := by omega
  have k7 : B < w.heap.size + 1 + 1 := by omega
  refine wp_region_held_drew (S := (fun w' => w'.cell? ⟨w.heap.size, 0, none⟩ = some (.slice (some ⟨B, O, none⟩) ps.length cap) ∧ w'.cell? ⟨B, O + a * 6, none⟩ = some (.string nm) ∧ w'.cell? ⟨B, O + a * 6 + 1, none⟩ = some (.int .i64 sx) ∧ w'.cell? ⟨B, O + a * 6 + 2, none⟩ = some (.int .i64 fa) ∧ w'.cell? ⟨B, O + a * 6 + 3, none⟩ = some (.int .i64 mo) ∧ w'.cell? ⟨B, O + a * 6 + 4, none⟩ = some (.int .i64 bo) ∧ w'.cell? ⟨B, O + a * 6 + 5, none⟩ = some (.int .i64 di) ∧ w'.cell? ⟨B, O + b * 6, none⟩ = some (.string nm') ∧ w'.cell? ⟨B, O + b * 6 + 1, none⟩ = some (.int .i64 sx') ∧ w'.cell? ⟨B, O + b * 6 + 2, none⟩ = some (.int .i64 fa') ∧ w'.cell? ⟨B, O + b * 6 + 3, none⟩ = some (.int .i64 mo') ∧ w'.cell? ⟨B, O + b * 6 + 4, none⟩ = some (.int .i64 bo') ∧ w'.cell? ⟨B, O + b * 6 + 5, none⟩ = some (.int .i64 di'))) krT ?_ (fun hHeld => ?_)
  ·exact kpT
  refine tkA 0 ?_
  try simp only [cD]
  refine tkA 2 ?_
  try simp only [cD]
  refine tkA 5 ?_
  try simp only [cD]
  refine tkA 7 ?_
  try simp only [cD]
  refine tkA 1 ?_
  try simp only [cD]
  refine tkA 6 ?_
  try simp only [cD]
  refine tkA 3 ?_
  try simp only [cD]
  refine tkA 8 ?_
  try simp only [cD]
  refine tkA 4 ?_
  try simp only [cD]
  refine tkA 9 ?_
  try simp only [cD]
  refine rdy [10, 11] ?_
  refine rdR (fun K hK => ?_) ?_
  ·go_simp
   refine hK.out _ _ kpT fun hHeld => ?_
   clear hK K
   try simp only [cD]
   refine rd1 11 fun K hK => ?_
   go_simp
   refine hK.out _ _ kpT fun hHeld => ?_
   clear hK K
   try simp only [cD]
   refine rd1 12 fun K hK => ?_
   go_simp
   refine hK.out _ _ kpT fun hHeld => ?_
   clear hK K
   try simp only [cD]
   refine rd1 13 fun K hK => ?_
   go_simp
   refine hK.out _ _ kpT fun hHeld => ?_
   clear hK K
   try simp only [cD]
   refine wdT ?_
   go_wp2_with fail
   go_meet
   exact ⟨_, _, rfl, rfl, by simp [go_sem], by simp [go_sem], by simp [go_sem], by simp [go_sem], bwT⟩
  refine rdR (fun K hK => ?_) ?_
  ·go_simp
   refine hK.out _ _ kpT fun hHeld => ?_
   clear hK K
   try simp only [cD]
   refine rd1 10 fun K hK => ?_
   go_simp
   refine hK.out _ _ kpT fun hHeld => ?_
   clear hK K
   try simp only [cD]
   refine rd1 12 fun K hK => ?_
   go_simp
   refine hK.out _ _ kpT fun hHeld => ?_
   clear hK K
   try simp only [cD]
   refine rd1 13 fun K hK => ?_
   go_simp
   refine hK.out _ _ kpT fun hHeld => ?_
   clear hK K
   try simp only [cD]
   refine wdT ?_
   go_wp2_with fail
   go_meet
   exact ⟨_, _, rfl, rfl, by simp [go_sem], by simp [go_sem], by simp [go_sem], by simp [go_sem], bwT⟩
  exact AllReadyH.nil
 case rest =>
  obtain ⟨b7, b8, rfl, rfl, c2, c3, d2, d3, hbw⟩ := hcut
  obtain ⟨w5, hw5⟩ : ∃ W : World, W = wc := ⟨_, rfl⟩
  subst hw5
  clear x0 x1 x2 x3 x4 x5 y0 y1 y2 y3 y4 y5
  by_cases h0 : (a : Int) = (b : Int)
  ·have HT := Hd (show r = false by rw [HR.out]; simp [h0])
   have e0 : ((a : Int) != (b : Int)) = false := by simpa using h0
   clear h0
   go_wp2
   go_ret
   exact ⟨ret_bool HT.out.symm, hbw⟩
  have e0 : ((a : Int) != (b : Int)) = true := by simpa using h0
  by_cases h1 : 0 ≤ fa
  rotate_left
  ·have HT := Hd (show r = false by rw [HR.out]; simp [h1])
   go_wp2
   go_ret
   exact ⟨ret_bool HT.out.symm, hbw⟩
  by_cases h2 : 0 ≤ mo
  rotate_left
  ·have HT := Hd (show r = false by rw [HR.out]; simp [h2])
   go_wp2
   go_ret
   exact ⟨ret_bool HT.out.symm, hbw⟩
  by_cases h3 : fa = fa'
  rotate_left
  ·have HT := Hd (show r = false by rw [HR.out]; simp [h3])
   have e3 : (fa == fa') = false := by simpa using h3
   clear h3
   go_wp2
   go_ret
   exact ⟨ret_bool HT.out.symm, hbw⟩
  by_cases h4 : mo = mo'
  rotate_left
  ·have HT := Hd (show r = false by rw [HR.out]; simp [h4])
   have e4 : (mo == mo') = false := by simpa using h4
   have e3 : (fa == fa') = true := by simpa using h3
   clear h4 h3
   go_wp2
   go_ret
   exact ⟨ret_bool HT.out.symm, hbw⟩
  have HT := Hd (show r = true by rw [HR.out]; simp [h0, h1, h2, h3, h4]; omega)
  have e3 : (fa == fa') = true := by simpa using h3
  have e4 : (mo == mo') = true := by simpa using h4
  clear h3 h4 h0
  go_wp2
  go_ret
  exact ⟨ret_bool HT.out.symm, hbw⟩
end
theorem isParent_b {z : Bool} {lo hi : Nat} (w : World) (v v2 : Value) (ps : List Per) (h : Rd z lo hi w [v] ps) (a : Int) (b : Nat) {y : Per} (hy : ps[b]? = some y) (r : Bool) (hr : r = parB y a) : Calls Tryz.prog 146 #[.agg #[v, v2], .int .i64 a, .int .i64 b] w (PostB w r) := by
 obtain ⟨ao, n, cap, rfl, hn, -⟩ := h.shape
 subst hn
 have hb := (List.getElem?_eq_some_iff.1 hy).1
 obtain ⟨B, O, nm, sx, fa, mo, bo, di, rfl, hY, y0, y1, y2, y3, y4, y5, -, -, -, -, -, -, -, -, hbl, -⟩ := h.per_at hb
 obtain rfl := Option.some.inj (hY.out.symm.trans hy)
 have hbI : (b : Int) < (ps.length : Int) := by omega
 have HR := Hd (show r = decide (fa = a ∨ mo = a) from hr)
 clear h hy hY hr y0 y1 y4 y5
 go_enter Tryz.func146, Tryz.ntmps146
 by_cases h1 : fa = a
 ·have HT := Hd (show r = true by rw [HR.out]; exact decide_eq_true (.inl h1))
  have e1 : (fa == a) = true := by simpa using h1
  clear h1
  go_wp2
  go_ret
  exact ⟨ret_bool HT.out.symm, bwT⟩
 ·have e1 : (fa == a) = false := by simpa using h1
  by_cases h2 : mo = a
  ·have HT := Hd (show r = true by rw [HR.out]; exact decide_eq_true (.inr h2))
   have e2 : (mo == a) = true := by simpa using h2
   clear h1 h2
   go_wp2
   go_ret
   exact ⟨ret_bool HT.out.symm, bwT⟩
  ·have HT := Hd (show r = false by rw [HR.out]; exact decide_eq_false (by rintro (h | h) <;> contradiction))
   have e2 : (mo == a) = false := by simpa using h2
   clear h1 h2
   go_wp2
   go_ret
   exact ⟨ret_bool HT.out.symm, bwT⟩
section
variable {z : Bool} {lo hi : Nat} (W : World) (BF BS BM M n : Nat) (ao : Option Addr) (cap : Nat) (v2 : Value) (f : Fam) (h : Rd z lo hi W [.slice ao f.1.length cap, v2] f) (k g : Int) (a b : Nat) (ha : a < f.1.length) (hb : b < f.1.length) (h40 : f.1.length ≤ 40)
 (q0 : W.cell? ⟨BF, 0, none⟩ = some (.slice ao f.1.length cap)) (q1 : W.cell? ⟨BF, 1, none⟩ = some v2) (s0 : W.cell? ⟨BS, 0, none⟩ = some (.int .i64 k)) (s1 : W.cell? ⟨BS, 1, none⟩ = some (.int .i64 g)) (m0 : W.cell? ⟨BM, 0, none⟩ = some (.map (some M))) (hP : PSet W M n (wedS f.2 k)) (r : Bool)
include h ha hb h40 q0 q1 s0 s1 m0 hP
theorem stepCl1_b (hk : k = 1) (hg : g = 0 ∨ g = 1 ∨ g = 2) (hr : r = ledB f (k, g) a b) : Calls Tryz.prog 143 #[.int .i64 a, .int .i64 b, .pointer (some ⟨BF, 0, none⟩), .pointer (some ⟨BS, 0, none⟩), .pointer (some ⟨BM, 0, none⟩)] W (PostB W r) := by
 have h40c : f.1.length ≤ 40 := h40
 clear h40c
 subst hk
 have hF := h.fam.1
 obtain ⟨B, O, nm, sx, fa, mo, bo, di, e1, hX, x0, x1, x2, x3, x4, x5, -, -, -, -, -, -, -, -, hbl, -⟩ := hF.per_at ha
 subst e1
 obtain ⟨_, _, nm', sx', fa', mo', bo', di', e, hY, y0, y1, y2, y3, y4, y5, -⟩ := hF.per_at hb
 simp only [Option.some.injEq, Addr.mk.injEq, and_true] at e
 obtain ⟨rfl, rfl⟩ := e
 have haI : (a : Int) < (f.1.length : Int) := by omega
 have hbI : (b : Int) < (f.1.length : Int) := by omega
 have lF : BF < W.heap.size := World.block_lt_of_cell? W ⟨BF, 0, none⟩ q0
 have lS : BS < W.heap.size := World.block_lt_of_cell? W ⟨BS, 0, none⟩ s0
 have lM : BM < W.heap.size := World.block_lt_of_cell? W ⟨BM, 0, none⟩ m0
 have HX := Hd hX.out
 have HY := Hd hY.out
 have HF := Hd hF
 have HP := Hd hP
 rw [ledB_at hX.out hY.out] at hr
 obtain ⟨ss, hss⟩ : ∃ s, s = decide (sx' = stSex 1) := ⟨_, rfl⟩
 have HSS := Hd hss
 have hse : (sx' == stSex 1) = ss := by rw [hss]; by_cases h : sx' = stSex 1 <;> simp [h]
 have HR := Hd hr
 clear hr hX hY hF h hP hss x0 x1 x4 x5 y0 y4 y5
 go_enter Tryz.func143, Tryz.ntmps143
 go_upto_region 1 with fail
 refine wp_region_held_drew (S := (fun w' => w'.cell? ⟨BF, 0, none⟩ = some (.slice (some ⟨B, O, none⟩) f.1.length cap) ∧ w'.cell? ⟨BF, 1, none⟩ = some v2 ∧ w'.cell? ⟨BS, 0, none⟩ = some (.int .i64 1) ∧ w'.cell? ⟨BS, 1, none⟩ = some (.int .i64 g) ∧ w'.cell? ⟨BM, 0, none⟩ = some (.map (some M)) ∧ w'.cell? ⟨B, O + a * 6 + 2, none⟩ = some (.int .i64 fa) ∧ w'.cell? ⟨B, O + a * 6 + 3, none⟩ = some (.int .i64 mo) ∧ w'.cell? ⟨B, O + b * 6 + 1, none⟩ = some (.int .i64 sx'))) krT ?_ (fun hHeld => ?_)
 ·exact kpT
 refine tkA 0 ?_
 try simp only [cD]
 refine tkA 2 ?_
 try simp only [cD]
 refine tkA 6 ?_
 try simp only [cD]
 refine tkA 1 ?_
 try simp only [cD]
 refine tkA 7 ?_
 try simp only [cD]
 refine tkA 3 ?_
 try simp only [cD]
 refine tkA 4 ?_
 try simp only [cD]
 refine tkA 5 ?_
 try simp only [cD]
 refine rd1 8 fun K hK => ?_
 go_simp
 refine (stepSexI_any _ 1 omT).mono ?_
 rintro e1 w1 ⟨rfl, hb1⟩
 have hp1 : Below W.heap.size W w1 := Below.trans (show Below W.heap.size W _ from bwT) (hb1.mono szT)
 have hS1 := aI (oldc hp1 lF q0) (aI (oldc hp1 lF q1) (aI (oldc hp1 lS s0) (aI (oldc hp1 lS s1) (aI (oldc hp1 lM m0) (aI (oldc hp1 hbl x2) (aI (oldc hp1 hbl x3) (oldc hp1 hbl y1)))))))
 clear hb1
 refine hK.out _ _ kpT fun hHeld => ?_
 clear hK K
 try simp only [cD]
 refine tkA 9 ?_
 try simp only [cD]
 refine tkA 10 ?_
 try simp only [cD]
 refine wdT ?_
 obtain ⟨t0, t1, u0, u1, n0, a2, a3, b1⟩ := hS1
 have HP1 := Hd (HP.out.below hp1)
 have HF1 := Hd (HF.out.below hp1)
 clear HP HF q0 q1 s0 s1 m0 x2 x3 y1
 have HT := Hd (show r = decide (fa = (b : Int)) from HR.out)
 have ep : (fa == (b : Int)) = r := by rw [HT.out]; by_cases h : fa = (b : Int) <;> simp [h]
 clear HR
 go_wp2
 go_ret
 exact ⟨ret_bool rfl, hp1⟩
theorem stepCl2_b (hk : k = 2) (hg : g = 0 ∨ g = 1 ∨ g = 2) (hr : r = ledB f (k, g) a b) : Calls Tryz.prog 143 #[.int .i64 a, .int .i64 b, .pointer (some ⟨BF, 0, none⟩), .pointer (some ⟨BS, 0, none⟩), .pointer (some ⟨BM, 0, none⟩)] W (PostB W r) := by
 have h40c : f.1.length ≤ 40 := h40
 clear h40c
 subst hk
 have hF := h.fam.1
 obtain ⟨B, O, nm, sx, fa, mo, bo, di, e1, hX, x0, x1, x2, x3, x4, x5, -, -, -, -, -, -, -, -, hbl, -⟩ := hF.per_at ha
 subst e1
 obtain ⟨_, _, nm', sx', fa', mo', bo', di', e, hY, y0, y1, y2, y3, y4, y5, -⟩ := hF.per_at hb
 simp only [Option.some.injEq, Addr.mk.injEq, and_true] at e
 obtain ⟨rfl, rfl⟩ := e
 have haI : (a : Int) < (f.1.length : Int) := by omega
 have hbI : (b : Int) < (f.1.length : Int) := by omega
 have lF : BF < W.heap.size := World.block_lt_of_cell? W ⟨BF, 0, none⟩ q0
 have lS : BS < W.heap.size := World.block_lt_of_cell? W ⟨BS, 0, none⟩ s0
 have lM : BM < W.heap.size := World.block_lt_of_cell? W ⟨BM, 0, none⟩ m0
 have HX := Hd hX.out
 have HY := Hd hY.out
 have HF := Hd hF
 have HP := Hd hP
 rw [ledB_at hX.out hY.out] at hr
 obtain ⟨ss, hss⟩ : ∃ s, s = decide (sx' = stSex 2) := ⟨_, rfl⟩
 have HSS := Hd hss
 have hse : (sx' == stSex 2) = ss := by rw [hss]; by_cases h : sx' = stSex 2 <;> simp [h]
 have HR := Hd hr
 clear hr hX hY hF h hP hss x0 x1 x4 x5 y0 y4 y5
 go_enter Tryz.func143, Tryz.ntmps143
 go_upto_region 1 with fail
 refine wp_region_held_drew (S := (fun w' => w'.cell? ⟨BF, 0, none⟩ = some (.slice (some ⟨B, O, none⟩) f.1.length cap) ∧ w'.cell? ⟨BF, 1, none⟩ = some v2 ∧ w'.cell? ⟨BS, 0, none⟩ = some (.int .i64 2) ∧ w'.cell? ⟨BS, 1, none⟩ = some (.int .i64 g) ∧ w'.cell? ⟨BM, 0, none⟩ = some (.map (some M)) ∧ w'.cell? ⟨B, O + a * 6 + 2, none⟩ = some (.int .i64 fa) ∧ w'.cell? ⟨B, O + a * 6 + 3, none⟩ = some (.int .i64 mo) ∧ w'.cell? ⟨B, O + b * 6 + 1, none⟩ = some (.int .i64 sx'))) krT ?_ (fun hHeld => ?_)
 ·exact kpT
 refine tkA 0 ?_
 try simp only [cD]
 refine tkA 2 ?_
 try simp only [cD]
 refine tkA 6 ?_
 try simp only [cD]
 refine tkA 1 ?_
 try simp only [cD]
 refine tkA 7 ?_
 try simp only [cD]
 refine tkA 3 ?_
 try simp only [cD]
 refine tkA 4 ?_
 try simp only [cD]
 refine tkA 5 ?_
 try simp only [cD]
 refine rd1 8 fun K hK => ?_
 go_simp
 refine (stepSexI_any _ 2 omT).mono ?_
 rintro e1 w1 ⟨rfl, hb1⟩
 have hp1 : Below W.heap.size W w1 := Below.trans (show Below W.heap.size W _ from bwT) (hb1.mono szT)
 have hS1 := aI (oldc hp1 lF q0) (aI (oldc hp1 lF q1) (aI (oldc hp1 lS s0) (aI (oldc hp1 lS s1) (aI (oldc hp1 lM m0) (aI (oldc hp1 hbl x2) (aI (oldc hp1 hbl x3) (oldc hp1 hbl y1)))))))
 clear hb1
 refine hK.out _ _ kpT fun hHeld => ?_
 clear hK K
 try simp only [cD]
 refine tkA 9 ?_
 try simp only [cD]
 refine tkA 10 ?_
 try simp only [cD]
 refine wdT ?_
 obtain ⟨t0, t1, u0, u1, n0, a2, a3, b1⟩ := hS1
 have HP1 := Hd (HP.out.below hp1)
 have HF1 := Hd (HF.out.below hp1)
 clear HP HF q0 q1 s0 s1 m0 x2 x3 y1
 have HT := Hd (show r = decide (mo = (b : Int)) from HR.out)
 have ep : (mo == (b : Int)) = r := by rw [HT.out]; by_cases h : mo = (b : Int) <;> simp [h]
 clear HR
 go_wp2
 go_ret
 exact ⟨ret_bool rfl, hp1⟩
theorem stepCl3_b (hk : k = 3) (hg : g = 0 ∨ g = 1 ∨ g = 2) (hr : r = ledB f (k, g) a b) : Calls Tryz.prog 143 #[.int .i64 a, .int .i64 b, .pointer (some ⟨BF, 0, none⟩), .pointer (some ⟨BS, 0, none⟩), .pointer (some ⟨BM, 0, none⟩)] W (PostB W r) := by
 have h40c : f.1.length ≤ 40 := h40
 clear h40c
 subst hk
 have hF := h.fam.1
 obtain ⟨B, O, nm, sx, fa, mo, bo, di, e1, hX, x0, x1, x2, x3, x4, x5, -, -, -, -, -, -, -, -, hbl, -⟩ := hF.per_at ha
 subst e1
 obtain ⟨_, _, nm', sx', fa', mo', bo', di', e, hY, y0, y1, y2, y3, y4, y5, -⟩ := hF.per_at hb
 simp only [Option.some.injEq, Addr.mk.injEq, and_true] at e
 obtain ⟨rfl, rfl⟩ := e
 have haI : (a : Int) < (f.1.length : Int) := by omega
 have hbI : (b : Int) < (f.1.length : Int) := by omega
 have lF : BF < W.heap.size := World.block_lt_of_cell? W ⟨BF, 0, none⟩ q0
 have lS : BS < W.heap.size := World.block_lt_of_cell? W ⟨BS, 0, none⟩ s0
 have lM : BM < W.heap.size := World.block_lt_of_cell? W ⟨BM, 0, none⟩ m0
 have HX := Hd hX.out
 have HY := Hd hY.out
 have HF := Hd hF
 have HP := Hd hP
 rw [ledB_at hX.out hY.out] at hr
 obtain ⟨ss, hss⟩ : ∃ s, s = decide (sx' = stSex 3) := ⟨_, rfl⟩
 have HSS := Hd hss
 have hse : (sx' == stSex 3) = ss := by rw [hss]; by_cases h : sx' = stSex 3 <;> simp [h]
 have HR := Hd hr
 clear hr hX hY hF h hP hss x0 x1 x4 x5 y0 y4 y5
 go_enter Tryz.func143, Tryz.ntmps143
 go_upto_region 1 with fail
 refine wp_region_held_drew (S := (fun w' => w'.cell? ⟨BF, 0, none⟩ = some (.slice (some ⟨B, O, none⟩) f.1.length cap) ∧ w'.cell? ⟨BF, 1, none⟩ = some v2 ∧ w'.cell? ⟨BS, 0, none⟩ = some (.int .i64 3) ∧ w'.cell? ⟨BS, 1, none⟩ = some (.int .i64 g) ∧ w'.cell? ⟨BM, 0, none⟩ = some (.map (some M)) ∧ w'.cell? ⟨B, O + a * 6 + 2, none⟩ = some (.int .i64 fa) ∧ w'.cell? ⟨B, O + a * 6 + 3, none⟩ = some (.int .i64 mo) ∧ w'.cell? ⟨B, O + b * 6 + 1, none⟩ = some (.int .i64 sx'))) krT ?_ (fun hHeld => ?_)
 ·exact kpT
 refine tkA 0 ?_
 try simp only [cD]
 refine tkA 2 ?_
 try simp only [cD]
 refine tkA 6 ?_
 try simp only [cD]
 refine tkA 1 ?_
 try simp only [cD]
 refine tkA 7 ?_
 try simp only [cD]
 refine tkA 3 ?_
 try simp only [cD]
 refine tkA 4 ?_
 try simp only [cD]
 refine tkA 5 ?_
 try simp only [cD]
 refine rd1 8 fun K hK => ?_
 go_simp
 refine (stepSexI_any _ 3 omT).mono ?_
 rintro e1 w1 ⟨rfl, hb1⟩
 have hp1 : Below W.heap.size W w1 := Below.trans (show Below W.heap.size W _ from bwT) (hb1.mono szT)
 have hS1 := aI (oldc hp1 lF q0) (aI (oldc hp1 lF q1) (aI (oldc hp1 lS s0) (aI (oldc hp1 lS s1) (aI (oldc hp1 lM m0) (aI (oldc hp1 hbl x2) (aI (oldc hp1 hbl x3) (oldc hp1 hbl y1)))))))
 clear hb1
 refine hK.out _ _ kpT fun hHeld => ?_
 clear hK K
 try simp only [cD]
 refine tkA 9 ?_
 try simp only [cD]
 refine tkA 10 ?_
 try simp only [cD]
 refine wdT ?_
 obtain ⟨t0, t1, u0, u1, n0, a2, a3, b1⟩ := hS1
 have HP1 := Hd (HP.out.below hp1)
 have HF1 := Hd (HF.out.below hp1)
 clear HP HF q0 q1 s0 s1 m0 x2 x3 y1
 have HT := Hd (show r = (ss && (fullB (nm, sx, fa, mo, bo, di) (nm', sx', fa', mo', bo', di') a b && ((decide (g ≠ 1) || eldB (nm', sx', fa', mo', bo', di') (nm, sx, fa, mo, bo, di) b a) && (decide (g ≠ 2) || eldB (nm, sx, fa, mo, bo, di) (nm', sx', fa', mo', bo', di') a b)))) by rw [HR.out, HSS.out]; rfl)
 clear HR
 cases ss
 ·have HZ := Hd (show r = false by rw [HT.out]; rfl)
  clear HT
  go_wp2
  go_ret
  exact ⟨ret_bool HZ.out.symm, hp1⟩
 obtain ⟨fu, hfu⟩ : ∃ q, q = fullB (nm, sx, fa, mo, bo, di) (nm', sx', fa', mo', bo', di') a b := ⟨_, rfl⟩
 have HFU := Hd hfu
 rw [← hfu] at HT
 clear hfu
 go_wp2_with fail
 refine (areFull_b _ _ _ f.1 (HF1.out.below bwT) a b HX.out HY.out fu HFU.out).mono ?_
 rintro e2 w2 ⟨rfl, hb2⟩
 have hp2 : Below W.heap.size W w2 := hp1.trans (Below.mono hb2 hp1.size)
 have l1 := hp1.size
 have t0 := oldc hb2 omT t0
 have t1 := oldc hb2 omT t1
 have u0 := oldc hb2 omT u0
 have u1 := oldc hb2 omT u1
 have l2 := hb2.size
 have HF2 := Hd (HF1.out.below hb2)
 clear hb2 HFU
 cases fu
 ·have HZ := Hd (show r = false by rw [HT.out]; rfl)
  clear HT
  go_wp2
  go_ret
  exact ⟨ret_bool HZ.out.symm, hp2⟩
 obtain ⟨p, hp⟩ : ∃ q, q = eldB (nm', sx', fa', mo', bo', di') (nm, sx, fa, mo, bo, di) b a := ⟨_, rfl⟩
 obtain ⟨q, hq⟩ : ∃ q, q = eldB (nm, sx, fa, mo, bo, di) (nm', sx', fa', mo', bo', di') a b := ⟨_, rfl⟩
 have HPP := Hd hp
 have HQQ := Hd hq
 rw [← hp, ← hq] at HT
 clear hp hq
 rcases hg with rfl | rfl | rfl
 ·have HZ := Hd (show r = true by rw [HT.out]; rfl)
  clear HT
  go_wp2
  go_ret
  exact ⟨ret_bool HZ.out.symm, hp2⟩
 ·have HZ := Hd (show r = p by rw [HT.out]; cases p <;> rfl)
  clear HT
  go_wp2_with fail
  refine (isElder_b _ _ _ f.1 (HF2.out.below bwT) b a HY.out HX.out p HPP.out).mono ?_
  rintro e3 w3 ⟨rfl, hb3⟩
  have hp3 : Below W.heap.size W w3 := hp2.trans (Below.mono hb3 hp2.size)
  have u1 := oldc hb3 omT u1
  clear hb3
  cases p
  ·go_wp2
   go_ret
   exact ⟨ret_bool HZ.out.symm, hp3⟩
  ·go_wp2
   go_ret
   exact ⟨ret_bool HZ.out.symm, hp3⟩
 ·have HZ := Hd (show r = q by rw [HT.out]; cases q <;> rfl)
  clear HT
  go_wp2_with fail
  refine (isElder_b _ _ _ f.1 (HF2.out.below bwT) a b HX.out HY.out q HQQ.out).mono ?_
  rintro e3 w3 ⟨rfl, hb3⟩
  have hp3 : Below W.heap.size W w3 := hp2.trans (Below.mono hb3 hp2.size)
  clear hb3
  cases q
  ·go_wp2
   go_ret
   exact ⟨ret_bool HZ.out.symm, hp3⟩
  ·go_wp2
   go_ret
   exact ⟨ret_bool HZ.out.symm, hp3⟩
theorem stepCl4_b (hk : k = 4) (hg : g = 0 ∨ g = 1 ∨ g = 2) (hr : r = ledB f (k, g) a b) : Calls Tryz.prog 143 #[.int .i64 a, .int .i64 b, .pointer (some ⟨BF, 0, none⟩), .pointer (some ⟨BS, 0, none⟩), .pointer (some ⟨BM, 0, none⟩)] W (PostB W r) := by
 have h40c : f.1.length ≤ 40 := h40
 clear h40c
 subst hk
 have hF := h.fam.1
 obtain ⟨B, O, nm, sx, fa, mo, bo, di, e1, hX, x0, x1, x2, x3, x4, x5, -, -, -, -, -, -, -, -, hbl, -⟩ := hF.per_at ha
 subst e1
 obtain ⟨_, _, nm', sx', fa', mo', bo', di', e, hY, y0, y1, y2, y3, y4, y5, -⟩ := hF.per_at hb
 simp only [Option.some.injEq, Addr.mk.injEq, and_true] at e
 obtain ⟨rfl, rfl⟩ := e
 have haI : (a : Int) < (f.1.length : Int) := by omega
 have hbI : (b : Int) < (f.1.length : Int) := by omega
 have lF : BF < W.heap.size := World.block_lt_of_cell? W ⟨BF, 0, none⟩ q0
 have lS : BS < W.heap.size := World.block_lt_of_cell? W ⟨BS, 0, none⟩ s0
 have lM : BM < W.heap.size := World.block_lt_of_cell? W ⟨BM, 0, none⟩ m0
 have HX := Hd hX.out
 have HY := Hd hY.out
 have HF := Hd hF
 have HP := Hd hP
 rw [ledB_at hX.out hY.out] at hr
 obtain ⟨ss, hss⟩ : ∃ s, s = decide (sx' = stSex 4) := ⟨_, rfl⟩
 have HSS := Hd hss
 have hse : (sx' == stSex 4) = ss := by rw [hss]; by_cases h : sx' = stSex 4 <;> simp [h]
 have HR := Hd hr
 clear hr hX hY hF h hP hss x0 x1 x4 x5 y0 y4 y5
 go_enter Tryz.func143, Tryz.ntmps143
 go_upto_region 1 with fail
 refine wp_region_held_drew (S := (fun w' => w'.cell? ⟨BF, 0, none⟩ = some (.slice (some ⟨B, O, none⟩) f.1.length cap) ∧ w'.cell? ⟨BF, 1, none⟩ = some v2 ∧ w'.cell? ⟨BS, 0, none⟩ = some (.int .i64 4) ∧ w'.cell? ⟨BS, 1, none⟩ = some (.int .i64 g) ∧ w'.cell? ⟨BM, 0, none⟩ = some (.map (some M)) ∧ w'.cell? ⟨B, O + a * 6 + 2, none⟩ = some (.int .i64 fa) ∧ w'.cell? ⟨B, O + a * 6 + 3, none⟩ = some (.int .i64 mo) ∧ w'.cell? ⟨B, O + b * 6 + 1, none⟩ = some (.int .i64 sx'))) krT ?_ (fun hHeld => ?_)
 ·exact kpT
 refine tkA 0 ?_
 try simp only [cD]
 refine tkA 2 ?_
 try simp only [cD]
 refine tkA 6 ?_
 try simp only [cD]
 refine tkA 1 ?_
 try simp only [cD]
 refine tkA 7 ?_
 try simp only [cD]
 refine tkA 3 ?_
 try simp only [cD]
 refine tkA 4 ?_
 try simp only [cD]
 refine tkA 5 ?_
 try simp only [cD]
 refine rd1 8 fun K hK => ?_
 go_simp
 refine (stepSexI_any _ 4 omT).mono ?_
 rintro e1 w1 ⟨rfl, hb1⟩
 have hp1 : Below W.heap.size W w1 := Below.trans (show Below W.heap.size W _ from bwT) (hb1.mono szT)
 have hS1 := aI (oldc hp1 lF q0) (aI (oldc hp1 lF q1) (aI (oldc hp1 lS s0) (aI (oldc hp1 lS s1) (aI (oldc hp1 lM m0) (aI (oldc hp1 hbl x2) (aI (oldc hp1 hbl x3) (oldc hp1 hbl y1)))))))
 clear hb1
 refine hK.out _ _ kpT fun hHeld => ?_
 clear hK K
 try simp only [cD]
 refine tkA 9 ?_
 try simp only [cD]
 refine tkA 10 ?_
 try simp only [cD]
 refine wdT ?_
 obtain ⟨t0, t1, u0, u1, n0, a2, a3, b1⟩ := hS1
 have HP1 := Hd (HP.out.below hp1)
 have HF1 := Hd (HF.out.below hp1)
 clear HP HF q0 q1 s0 s1 m0 x2 x3 y1
 have HT := Hd (show r = (ss && (fullB (nm, sx, fa, mo, bo, di) (nm', sx', fa', mo', bo', di') a b && ((decide (g ≠ 1) || eldB (nm', sx', fa', mo', bo', di') (nm, sx, fa, mo, bo, di) b a) && (decide (g ≠ 2) || eldB (nm, sx, fa, mo, bo, di) (nm', sx', fa', mo', bo', di') a b)))) by rw [HR.out, HSS.out]; rfl)
 clear HR
 cases ss
 ·have HZ := Hd (show r = false by rw [HT.out]; rfl)
  clear HT
  go_wp2
  go_ret
  exact ⟨ret_bool HZ.out.symm, hp1⟩
 obtain ⟨fu, hfu⟩ : ∃ q, q = fullB (nm, sx, fa, mo, bo, di) (nm', sx', fa', mo', bo', di') a b := ⟨_, rfl⟩
 have HFU := Hd hfu
 rw [← hfu] at HT
 clear hfu
 go_wp2_with fail
 refine (areFull_b _ _ _ f.1 (HF1.out.below bwT) a b HX.out HY.out fu HFU.out).mono ?_
 rintro e2 w2 ⟨rfl, hb2⟩
 have hp2 : Below W.heap.size W w2 := hp1.trans (Below.mono hb2 hp1.size)
 have l1 := hp1.size
 have t0 := oldc hb2 omT t0
 have t1 := oldc hb2 omT t1
 have u0 := oldc hb2 omT u0
 have u1 := oldc hb2 omT u1
 have l2 := hb2.size
 have HF2 := Hd (HF1.out.below hb2)
 clear hb2 HFU
 cases fu
 ·have HZ := Hd (show r = false by rw [HT.out]; rfl)
  clear HT
  go_wp2
  go_ret
  exact ⟨ret_bool HZ.out.symm, hp2⟩
 obtain ⟨p, hp⟩ : ∃ q, q = eldB (nm', sx', fa', mo', bo', di') (nm, sx, fa, mo, bo, di) b a := ⟨_, rfl⟩
 obtain ⟨q, hq⟩ : ∃ q, q = eldB (nm, sx, fa, mo, bo, di) (nm', sx', fa', mo', bo', di') a b := ⟨_, rfl⟩
 have HPP := Hd hp
 have HQQ := Hd hq
 rw [← hp, ← hq] at HT
 clear hp hq
 rcases hg with rfl | rfl | rfl
 ·have HZ := Hd (show r = true by rw [HT.out]; rfl)
  clear HT
  go_wp2
  go_ret
  exact ⟨ret_bool HZ.out.symm, hp2⟩
 ·have HZ := Hd (show r = p by rw [HT.out]; cases p <;> rfl)
  clear HT
  go_wp2_with fail
  refine (isElder_b _ _ _ f.1 (HF2.out.below bwT) b a HY.out HX.out p HPP.out).mono ?_
  rintro e3 w3 ⟨rfl, hb3⟩
  have hp3 : Below W.heap.size W w3 := hp2.trans (Below.mono hb3 hp2.size)
  have u1 := oldc hb3 omT u1
  clear hb3
  cases p
  ·go_wp2
   go_ret
   exact ⟨ret_bool HZ.out.symm, hp3⟩
  ·go_wp2
   go_ret
   exact ⟨ret_bool HZ.out.symm, hp3⟩
 ·have HZ := Hd (show r = q by rw [HT.out]; cases q <;> rfl)
  clear HT
  go_wp2_with fail
  refine (isElder_b _ _ _ f.1 (HF2.out.below bwT) a b HX.out HY.out q HQQ.out).mono ?_
  rintro e3 w3 ⟨rfl, hb3⟩
  have hp3 : Below W.heap.size W w3 := hp2.trans (Below.mono hb3 hp2.size)
  clear hb3
  cases q
  ·go_wp2
   go_ret
   exact ⟨ret_bool HZ.out.symm, hp3⟩
  ·go_wp2
   go_ret
   exact ⟨ret_bool HZ.out.symm, hp3⟩
theorem stepCl5_b (hk : k = 5) (hg : g = 0 ∨ g = 1 ∨ g = 2) (hr : r = ledB f (k, g) a b) : Calls Tryz.prog 143 #[.int .i64 a, .int .i64 b, .pointer (some ⟨BF, 0, none⟩), .pointer (some ⟨BS, 0, none⟩), .pointer (some ⟨BM, 0, none⟩)] W (PostB W r) := by
 have h40c : f.1.length ≤ 40 := h40
 clear h40c
 subst hk
 have hF := h.fam.1
 obtain ⟨B, O, nm, sx, fa, mo, bo, di, e1, hX, x0, x1, x2, x3, x4, x5, -, -, -, -, -, -, -, -, hbl, -⟩ := hF.per_at ha
 subst e1
 obtain ⟨_, _, nm', sx', fa', mo', bo', di', e, hY, y0, y1, y2, y3, y4, y5, -⟩ := hF.per_at hb
 simp only [Option.some.injEq, Addr.mk.injEq, and_true] at e
 obtain ⟨rfl, rfl⟩ := e
 have haI : (a : Int) < (f.1.length : Int) := by omega
 have hbI : (b : Int) < (f.1.length : Int) := by omega
 have lF : BF < W.heap.size := World.block_lt_of_cell? W ⟨BF, 0, none⟩ q0
 have lS : BS < W.heap.size := World.block_lt_of_cell? W ⟨BS, 0, none⟩ s0
 have lM : BM < W.heap.size := World.block_lt_of_cell? W ⟨BM, 0, none⟩ m0
 have HX := Hd hX.out
 have HY := Hd hY.out
 have HF := Hd hF
 have HP := Hd hP
 rw [ledB_at hX.out hY.out] at hr
 obtain ⟨ss, hss⟩ : ∃ s, s = decide (sx' = stSex 5) := ⟨_, rfl⟩
 have HSS := Hd hss
 have hse : (sx' == stSex 5) = ss := by rw [hss]; by_cases h : sx' = stSex 5 <;> simp [h]
 have HR := Hd hr
 clear hr hX hY hF h hP hss x0 x1 x4 x5 y0 y4 y5
 go_enter Tryz.func143, Tryz.ntmps143
 go_upto_region 1 with fail
 refine wp_region_held_drew (S := (fun w' => w'.cell? ⟨BF, 0, none⟩ = some (.slice (some ⟨B, O, none⟩) f.1.length cap) ∧ w'.cell? ⟨BF, 1, none⟩ = some v2 ∧ w'.cell? ⟨BS, 0, none⟩ = some (.int .i64 5) ∧ w'.cell? ⟨BS, 1, none⟩ = some (.int .i64 g) ∧ w'.cell? ⟨BM, 0, none⟩ = some (.map (some M)) ∧ w'.cell? ⟨B, O + a * 6 + 2, none⟩ = some (.int .i64 fa) ∧ w'.cell? ⟨B, O + a * 6 + 3, none⟩ = some (.int .i64 mo) ∧ w'.cell? ⟨B, O + b * 6 + 1, none⟩ = some (.int .i64 sx'))) krT ?_ (fun hHeld => ?_)
 ·exact kpT
 refine tkA 0 ?_
 try simp only [cD]
 refine tkA 2 ?_
 try simp only [cD]
 refine tkA 6 ?_
 try simp only [cD]
 refine tkA 1 ?_
 try simp only [cD]
 refine tkA 7 ?_
 try simp only [cD]
 refine tkA 3 ?_
 try simp only [cD]
 refine tkA 4 ?_
 try simp only [cD]
 refine tkA 5 ?_
 try simp only [cD]
 refine rd1 8 fun K hK => ?_
 go_simp
 refine (stepSexI_any _ 5 omT).mono ?_
 rintro e1 w1 ⟨rfl, hb1⟩
 have hp1 : Below W.heap.size W w1 := Below.trans (show Below W.heap.size W _ from bwT) (hb1.mono szT)
 have hS1 := aI (oldc hp1 lF q0) (aI (oldc hp1 lF q1) (aI (oldc hp1 lS s0) (aI (oldc hp1 lS s1) (aI (oldc hp1 lM m0) (aI (oldc hp1 hbl x2) (aI (oldc hp1 hbl x3) (oldc hp1 hbl y1)))))))
 clear hb1
 refine hK.out _ _ kpT fun hHeld => ?_
 clear hK K
 try simp only [cD]
 refine tkA 9 ?_
 try simp only [cD]
 refine tkA 10 ?_
 try simp only [cD]
 refine wdT ?_
 obtain ⟨t0, t1, u0, u1, n0, a2, a3, b1⟩ := hS1
 have HP1 := Hd (HP.out.below hp1)
 have HF1 := Hd (HF.out.below hp1)
 clear HP HF q0 q1 s0 s1 m0 x2 x3 y1
 have HT := Hd (show r = (ss && parB (nm', sx', fa', mo', bo', di') a) by rw [HR.out, HSS.out]; rfl)
 clear HR
 cases ss
 ·have HZ := Hd (show r = false by rw [HT.out]; rfl)
  clear HT
  go_wp2
  go_ret
  exact ⟨ret_bool HZ.out.symm, hp1⟩
 have HZ := Hd (show r = parB (nm', sx', fa', mo', bo', di') a by rw [HT.out]; rfl)
 clear HT
 go_wp2_with fail
 refine (isParent_b _ _ _ f.1 (HF1.out.below bwT) a b HY.out r HZ.out).mono ?_
 rintro e2 w2 ⟨rfl, hb2⟩
 have hp2 : Below W.heap.size W w2 := hp1.trans (Below.mono hb2 hp1.size)
 clear hb2
 cases r
 ·go_wp2
  go_ret
  exact ⟨ret_bool rfl, hp2⟩
 ·go_wp2
  go_ret
  exact ⟨ret_bool rfl, hp2⟩
theorem stepCl6_b (hk : k = 6) (hg : g = 0 ∨ g = 1 ∨ g = 2) (hr : r = ledB f (k, g) a b) : Calls Tryz.prog 143 #[.int .i64 a, .int .i64 b, .pointer (some ⟨BF, 0, none⟩), .pointer (some ⟨BS, 0, none⟩), .pointer (some ⟨BM, 0, none⟩)] W (PostB W r) := by
 have h40c : f.1.length ≤ 40 := h40
 clear h40c
 subst hk
 have hF := h.fam.1
 obtain ⟨B, O, nm, sx, fa, mo, bo, di, e1, hX, x0, x1, x2, x3, x4, x5, -, -, -, -, -, -, -, -, hbl, -⟩ := hF.per_at ha
 subst e1
 obtain ⟨_, _, nm', sx', fa', mo', bo', di', e, hY, y0, y1, y2, y3, y4, y5, -⟩ := hF.per_at hb
 simp only [Option.some.injEq, Addr.mk.injEq, and_true] at e
 obtain ⟨rfl, rfl⟩ := e
 have haI : (a : Int) < (f.1.length : Int) := by omega
 have hbI : (b : Int) < (f.1.length : Int) := by omega
 have lF : BF < W.heap.size := World.block_lt_of_cell? W ⟨BF, 0, none⟩ q0
 have lS : BS < W.heap.size := World.block_lt_of_cell? W ⟨BS, 0, none⟩ s0
 have lM : BM < W.heap.size := World.block_lt_of_cell? W ⟨BM, 0, none⟩ m0
 have HX := Hd hX.out
 have HY := Hd hY.out
 have HF := Hd hF
 have HP := Hd hP
 rw [ledB_at hX.out hY.out] at hr
 obtain ⟨ss, hss⟩ : ∃ s, s = decide (sx' = stSex 6) := ⟨_, rfl⟩
 have HSS := Hd hss
 have hse : (sx' == stSex 6) = ss := by rw [hss]; by_cases h : sx' = stSex 6 <;> simp [h]
 have HR := Hd hr
 clear hr hX hY hF h hP hss x0 x1 x4 x5 y0 y4 y5
 go_enter Tryz.func143, Tryz.ntmps143
 go_upto_region 1 with fail
 refine wp_region_held_drew (S := (fun w' => w'.cell? ⟨BF, 0, none⟩ = some (.slice (some ⟨B, O, none⟩) f.1.length cap) ∧ w'.cell? ⟨BF, 1, none⟩ = some v2 ∧ w'.cell? ⟨BS, 0, none⟩ = some (.int .i64 6) ∧ w'.cell? ⟨BS, 1, none⟩ = some (.int .i64 g) ∧ w'.cell? ⟨BM, 0, none⟩ = some (.map (some M)) ∧ w'.cell? ⟨B, O + a * 6 + 2, none⟩ = some (.int .i64 fa) ∧ w'.cell? ⟨B, O + a * 6 + 3, none⟩ = some (.int .i64 mo) ∧ w'.cell? ⟨B, O + b * 6 + 1, none⟩ = some (.int .i64 sx'))) krT ?_ (fun hHeld => ?_)
 ·exact kpT
 refine tkA 0 ?_
 try simp only [cD]
 refine tkA 2 ?_
 try simp only [cD]
 refine tkA 6 ?_
 try simp only [cD]
 refine tkA 1 ?_
 try simp only [cD]
 refine tkA 7 ?_
 try simp only [cD]
 refine tkA 3 ?_
 try simp only [cD]
 refine tkA 4 ?_
 try simp only [cD]
 refine tkA 5 ?_
 try simp only [cD]
 refine rd1 8 fun K hK => ?_
 go_simp
 refine (stepSexI_any _ 6 omT).mono ?_
 rintro e1 w1 ⟨rfl, hb1⟩
 have hp1 : Below W.heap.size W w1 := Below.trans (show Below W.heap.size W _ from bwT) (hb1.mono szT)
 have hS1 := aI (oldc hp1 lF q0) (aI (oldc hp1 lF q1) (aI (oldc hp1 lS s0) (aI (oldc hp1 lS s1) (aI (oldc hp1 lM m0) (aI (oldc hp1 hbl x2) (aI (oldc hp1 hbl x3) (oldc hp1 hbl y1)))))))
 clear hb1
 refine hK.out _ _ kpT fun hHeld => ?_
 clear hK K
 try simp only [cD]
 refine tkA 9 ?_
 try simp only [cD]
 refine tkA 10 ?_
 try simp only [cD]
 refine wdT ?_
 obtain ⟨t0, t1, u0, u1, n0, a2, a3, b1⟩ := hS1
 have HP1 := Hd (HP.out.below hp1)
 have HF1 := Hd (HF.out.below hp1)
 clear HP HF q0 q1 s0 s1 m0 x2 x3 y1
 have HT := Hd (show r = (ss && parB (nm', sx', fa', mo', bo', di') a) by rw [HR.out, HSS.out]; rfl)
 clear HR
 cases ss
 ·have HZ := Hd (show r = false by rw [HT.out]; rfl)
  clear HT
  go_wp2
  go_ret
  exact ⟨ret_bool HZ.out.symm, hp1⟩
 have HZ := Hd (show r = parB (nm', sx', fa', mo', bo', di') a by rw [HT.out]; rfl)
 clear HT
 go_wp2_with fail
 refine (isParent_b _ _ _ f.1 (HF1.out.below bwT) a b HY.out r HZ.out).mono ?_
 rintro e2 w2 ⟨rfl, hb2⟩
 have hp2 : Below W.heap.size W w2 := hp1.trans (Below.mono hb2 hp1.size)
 clear hb2
 cases r
 ·go_wp2
  go_ret
  exact ⟨ret_bool rfl, hp2⟩
 ·go_wp2
  go_ret
  exact ⟨ret_bool rfl, hp2⟩
theorem stepCl7_b (hk : k = 7) (hg : g = 0 ∨ g = 1 ∨ g = 2) (hr : r = ledB f (k, g) a b) : Calls Tryz.prog 143 #[.int .i64 a, .int .i64 b, .pointer (some ⟨BF, 0, none⟩), .pointer (some ⟨BS, 0, none⟩), .pointer (some ⟨BM, 0, none⟩)] W (PostB W r) := by
 have h40c : f.1.length ≤ 40 := h40
 clear h40c
 subst hk
 have hF := h.fam.1
 obtain ⟨B, O, nm, sx, fa, mo, bo, di, e1, hX, x0, x1, x2, x3, x4, x5, -, -, -, -, -, -, -, -, hbl, -⟩ := hF.per_at ha
 subst e1
 obtain ⟨_, _, nm', sx', fa', mo', bo', di', e, hY, y0, y1, y2, y3, y4, y5, -⟩ := hF.per_at hb
 simp only [Option.some.injEq, Addr.mk.injEq, and_true] at e
 obtain ⟨rfl, rfl⟩ := e
 have haI : (a : Int) < (f.1.length : Int) := by omega
 have hbI : (b : Int) < (f.1.length : Int) := by omega
 have lF : BF < W.heap.size := World.block_lt_of_cell? W ⟨BF, 0, none⟩ q0
 have lS : BS < W.heap.size := World.block_lt_of_cell? W ⟨BS, 0, none⟩ s0
 have lM : BM < W.heap.size := World.block_lt_of_cell? W ⟨BM, 0, none⟩ m0
 have HX := Hd hX.out
 have HY := Hd hY.out
 have HF := Hd hF
 have HP := Hd hP
 rw [ledB_at hX.out hY.out] at hr
 obtain ⟨ss, hss⟩ : ∃ s, s = decide (sx' = stSex 7) := ⟨_, rfl⟩
 have HSS := Hd hss
 have hse : (sx' == stSex 7) = ss := by rw [hss]; by_cases h : sx' = stSex 7 <;> simp [h]
 have HR := Hd hr
 clear hr hX hY hF h hP hss x0 x1 x4 x5 y0 y4 y5
 go_enter Tryz.func143, Tryz.ntmps143
 go_upto_region 1 with fail
 refine wp_region_held_drew (S := (fun w' => w'.cell? ⟨BF, 0, none⟩ = some (.slice (some ⟨B, O, none⟩) f.1.length cap) ∧ w'.cell? ⟨BF, 1, none⟩ = some v2 ∧ w'.cell? ⟨BS, 0, none⟩ = some (.int .i64 7) ∧ w'.cell? ⟨BS, 1, none⟩ = some (.int .i64 g) ∧ w'.cell? ⟨BM, 0, none⟩ = some (.map (some M)) ∧ w'.cell? ⟨B, O + a * 6 + 2, none⟩ = some (.int .i64 fa) ∧ w'.cell? ⟨B, O + a * 6 + 3, none⟩ = some (.int .i64 mo) ∧ w'.cell? ⟨B, O + b * 6 + 1, none⟩ = some (.int .i64 sx'))) krT ?_ (fun hHeld => ?_)
 ·exact kpT
 refine tkA 0 ?_
 try simp only [cD]
 refine tkA 2 ?_
 try simp only [cD]
 refine tkA 6 ?_
 try simp only [cD]
 refine tkA 1 ?_
 try simp only [cD]
 refine tkA 7 ?_
 try simp only [cD]
 refine tkA 3 ?_
 try simp only [cD]
 refine tkA 4 ?_
 try simp only [cD]
 refine tkA 5 ?_
 try simp only [cD]
 refine rd1 8 fun K hK => ?_
 go_simp
 refine (stepSexI_any _ 7 omT).mono ?_
 rintro e1 w1 ⟨rfl, hb1⟩
 have hp1 : Below W.heap.size W w1 := Below.trans (show Below W.heap.size W _ from bwT) (hb1.mono szT)
 have hS1 := aI (oldc hp1 lF q0) (aI (oldc hp1 lF q1) (aI (oldc hp1 lS s0) (aI (oldc hp1 lS s1) (aI (oldc hp1 lM m0) (aI (oldc hp1 hbl x2) (aI (oldc hp1 hbl x3) (oldc hp1 hbl y1)))))))
 clear hb1
 refine hK.out _ _ kpT fun hHeld => ?_
 clear hK K
 try simp only [cD]
 refine tkA 9 ?_
 try simp only [cD]
 refine tkA 10 ?_
 try simp only [cD]
 refine wdT ?_
 obtain ⟨t0, t1, u0, u1, n0, a2, a3, b1⟩ := hS1
 have HP1 := Hd (HP.out.below hp1)
 have HF1 := Hd (HF.out.below hp1)
 clear HP HF q0 q1 s0 s1 m0 x2 x3 y1
 have HT := Hd (show r = decide (((a : Int), (b : Int)) ∈ wedS f.2 7) from HR.out)
 clear HR
 have haJ : I64 (a : Int) := by unfold I64; omega
 have hbJ : I64 (b : Int) := by unfold I64; omega
 go_wp2_with (refine wpList_pset_look rfl rfl Tryz.underlying186 rfl HP1.out (p := ((a : Int), (b : Int))) rfl haJ hbJ r HT.out ?_)
 go_wp2
 go_ret
 exact ⟨ret_bool rfl, hp1⟩
theorem stepCl8_b (hk : k = 8) (hg : g = 0 ∨ g = 1 ∨ g = 2) (hr : r = ledB f (k, g) a b) : Calls Tryz.prog 143 #[.int .i64 a, .int .i64 b, .pointer (some ⟨BF, 0, none⟩), .pointer (some ⟨BS, 0, none⟩), .pointer (some ⟨BM, 0, none⟩)] W (PostB W r) := by
 have h40c : f.1.length ≤ 40 := h40
 clear h40c
 subst hk
 have hF := h.fam.1
 obtain ⟨B, O, nm, sx, fa, mo, bo, di, e1, hX, x0, x1, x2, x3, x4, x5, -, -, -, -, -, -, -, -, hbl, -⟩ := hF.per_at ha
 subst e1
 obtain ⟨_, _, nm', sx', fa', mo', bo', di', e, hY, y0, y1, y2, y3, y4, y5, -⟩ := hF.per_at hb
 simp only [Option.some.injEq, Addr.mk.injEq, and_true] at e
 obtain ⟨rfl, rfl⟩ := e
 have haI : (a : Int) < (f.1.length : Int) := by omega
 have hbI : (b : Int) < (f.1.length : Int) := by omega
 have lF : BF < W.heap.size := World.block_lt_of_cell? W ⟨BF, 0, none⟩ q0
 have lS : BS < W.heap.size := World.block_lt_of_cell? W ⟨BS, 0, none⟩ s0
 have lM : BM < W.heap.size := World.block_lt_of_cell? W ⟨BM, 0, none⟩ m0
 have HX := Hd hX.out
 have HY := Hd hY.out
 have HF := Hd hF
 have HP := Hd hP
 rw [ledB_at hX.out hY.out] at hr
 obtain ⟨ss, hss⟩ : ∃ s, s = decide (sx' = stSex 8) := ⟨_, rfl⟩
 have HSS := Hd hss
 have hse : (sx' == stSex 8) = ss := by rw [hss]; by_cases h : sx' = stSex 8 <;> simp [h]
 have HR := Hd hr
 clear hr hX hY hF h hP hss x0 x1 x4 x5 y0 y4 y5
 go_enter Tryz.func143, Tryz.ntmps143
 go_upto_region 1 with fail
 refine wp_region_held_drew (S := (fun w' => w'.cell? ⟨BF, 0, none⟩ = some (.slice (some ⟨B, O, none⟩) f.1.length cap) ∧ w'.cell? ⟨BF, 1, none⟩ = some v2 ∧ w'.cell? ⟨BS, 0, none⟩ = some (.int .i64 8) ∧ w'.cell? ⟨BS, 1, none⟩ = some (.int .i64 g) ∧ w'.cell? ⟨BM, 0, none⟩ = some (.map (some M)) ∧ w'.cell? ⟨B, O + a * 6 + 2, none⟩ = some (.int .i64 fa) ∧ w'.cell? ⟨B, O + a * 6 + 3, none⟩ = some (.int .i64 mo) ∧ w'.cell? ⟨B, O + b * 6 + 1, none⟩ = some (.int .i64 sx'))) krT ?_ (fun hHeld => ?_)
 ·exact kpT
 refine tkA 0 ?_
 try simp only [cD]
 refine tkA 2 ?_
 try simp only [cD]
 refine tkA 6 ?_
 try simp only [cD]
 refine tkA 1 ?_
 try simp only [cD]
 refine tkA 7 ?_
 try simp only [cD]
 refine tkA 3 ?_
 try simp only [cD]
 refine tkA 4 ?_
 try simp only [cD]
 refine tkA 5 ?_
 try simp only [cD]
 refine rd1 8 fun K hK => ?_
 go_simp
 refine (stepSexI_any _ 8 omT).mono ?_
 rintro e1 w1 ⟨rfl, hb1⟩
 have hp1 : Below W.heap.size W w1 := Below.trans (show Below W.heap.size W _ from bwT) (hb1.mono szT)
 have hS1 := aI (oldc hp1 lF q0) (aI (oldc hp1 lF q1) (aI (oldc hp1 lS s0) (aI (oldc hp1 lS s1) (aI (oldc hp1 lM m0) (aI (oldc hp1 hbl x2) (aI (oldc hp1 hbl x3) (oldc hp1 hbl y1)))))))
 clear hb1
 refine hK.out _ _ kpT fun hHeld => ?_
 clear hK K
 try simp only [cD]
 refine tkA 9 ?_
 try simp only [cD]
 refine tkA 10 ?_
 try simp only [cD]
 refine wdT ?_
 obtain ⟨t0, t1, u0, u1, n0, a2, a3, b1⟩ := hS1
 have HP1 := Hd (HP.out.below hp1)
 have HF1 := Hd (HF.out.below hp1)
 clear HP HF q0 q1 s0 s1 m0 x2 x3 y1
 have HT := Hd (show r = decide (((a : Int), (b : Int)) ∈ wedS f.2 8) from HR.out)
 clear HR
 have haJ : I64 (a : Int) := by unfold I64; omega
 have hbJ : I64 (b : Int) := by unfold I64; omega
 go_wp2_with (refine wpList_pset_look rfl rfl Tryz.underlying186 rfl HP1.out (p := ((a : Int), (b : Int))) rfl haJ hbJ r HT.out ?_)
 go_wp2
 go_ret
 exact ⟨ret_bool rfl, hp1⟩
theorem stepCl_b (hk : 1 ≤ k ∧ k ≤ 8) (hg : 0 ≤ g ∧ g ≤ 2) (hr : r = ledB f (k, g) a b) : Calls Tryz.prog 143 #[.int .i64 a, .int .i64 b, .pointer (some ⟨BF, 0, none⟩), .pointer (some ⟨BS, 0, none⟩), .pointer (some ⟨BM, 0, none⟩)] W (PostB W r) := by
 have h8 : k = 1 ∨ k = 2 ∨ k = 3 ∨ k = 4 ∨ k = 5 ∨ k = 6 ∨ k = 7 ∨ k = 8 := by omega
 have hg3 : g = 0 ∨ g = 1 ∨ g = 2 := by omega
 rcases h8 with e | e | e | e | e | e | e | e
 ·exact stepCl1_b W BF BS BM M n ao cap v2 f h k g a b ha hb h40 q0 q1 s0 s1 m0 hP r e hg3 hr
 ·exact stepCl2_b W BF BS BM M n ao cap v2 f h k g a b ha hb h40 q0 q1 s0 s1 m0 hP r e hg3 hr
 ·exact stepCl3_b W BF BS BM M n ao cap v2 f h k g a b ha hb h40 q0 q1 s0 s1 m0 hP r e hg3 hr
 ·exact stepCl4_b W BF BS BM M n ao cap v2 f h k g a b ha hb h40 q0 q1 s0 s1 m0 hP r e hg3 hr
 ·exact stepCl5_b W BF BS BM M n ao cap v2 f h k g a b ha hb h40 q0 q1 s0 s1 m0 hP r e hg3 hr
 ·exact stepCl6_b W BF BS BM M n ao cap v2 f h k g a b ha hb h40 q0 q1 s0 s1 m0 hP r e hg3 hr
 ·exact stepCl7_b W BF BS BM M n ao cap v2 f h k g a b ha hb h40 q0 q1 s0 s1 m0 hP r e hg3 hr
 ·exact stepCl8_b W BF BS BM M n ao cap v2 f h k g a b ha hb h40 q0 q1 s0 s1 m0 hP r e hg3 hr
end
set_option maxRecDepth 20000 in
theorem stepRel_any {z : Bool} {lo hi : Nat} (w : World) (v v2 : Value) (f : Fam) (h : Rd z lo hi w [v, v2] f) (hf : famB f = true) (k g : Int) (hk : 1 ≤ k ∧ k ≤ 8) (hg : 0 ≤ g ∧ g ≤ 2) :
  Calls Tryz.prog 105 #[.agg #[v, v2], .agg #[.int .i64 k, .int .i64 g]] w (PostRl w f.1.length (relTo (ledB f (k, g)) f.1.length f.1.length)) := by
 obtain ⟨ao, an, cap, rfl, hn, -⟩ := h.fam.1.shape
 subst hn
 obtain ⟨bo, bn, dap, rfl, hn2, -⟩ := h.fam.2.shape
 subst hn2
 have HH := Hd h
 have h40 := (famB_facts hf).1
 have h60 := (famB_facts hf).2.1
 have HU := Hd h.fam.2
 clear h hf
 obtain ⟨W3, hW3⟩ : ∃ W : World, W = ((w.alloc (.cells #[.slice ao f.1.length cap, .slice bo f.2.length dap] 37)).alloc (.cells #[.int .i64 k, .int .i64 g] 126)).alloc (.cells #[.int .i64 0, .slice none 0 0] 140) := ⟨_, rfl⟩
 have z3 : W3.heap.size = w.heap.size + 1 + 1 + 1 := by rw [hW3]; simp
 have hB3 : Below w.heap.size w W3 := by rw [hW3]; exact bwT
 have f0 : W3.cell? ⟨w.heap.size, 0, none⟩ = some (.slice ao f.1.length cap) := by rw [hW3]; simp [go_sem]
 have f1 : W3.cell? ⟨w.heap.size, 1, none⟩ = some (.slice bo f.2.length dap) := by rw [hW3]; simp [go_sem]
 have s0 : W3.cell? ⟨w.heap.size + 1, 0, none⟩ = some (.int .i64 k) := by rw [hW3]; simp [go_sem]
 have s1 : W3.cell? ⟨w.heap.size + 1, 1, none⟩ = some (.int .i64 g) := by rw [hW3]; simp [go_sem]
 have r0 : W3.cell? ⟨w.heap.size + 1 + 1, 0, none⟩ = some (.int .i64 0) := by rw [hW3]; simp [go_sem]
 have r1 : W3.cell? ⟨w.heap.size + 1 + 1, 1, none⟩ = some (.slice none 0 0) := by rw [hW3]; simp [go_sem]
 have rf : ∀ o, W3.frozen? ⟨w.heap.size + 1 + 1, o, none⟩ = false := fun o => by rw [hW3]; simp [go_sem]
 have hmm := @run_makeMap Tryz.prog
 go_enter Tryz.func105, Tryz.ntmps105
 go_upto_region 1 with fail
 rw [← hW3]
 clear hW3
 obtain ⟨M, hM⟩ : ∃ M, M = w.heap.size + 1 + 1 + 1 := ⟨_, rfl⟩
 obtain ⟨W4, hW4⟩ : ∃ W : World, W = (W3.alloc (.map #[] 0)).alloc (.cells #[.map (some M)] 186) := ⟨_, rfl⟩
 have z3M : W3.heap.size = M := by rw [z3, hM]
 have z4 : M + 1 < W4.heap.size := by rw [hW4]; simp; omega
 have hB4 : Below M W3 W4 := by rw [hW4, ← z3M]; exact bwT
 have b0 : W4.cell? ⟨M + 1, 0, none⟩ = some (.map (some M)) := by rw [hW4, ← z3M]; simp [go_sem]
 have HP4 := Hd (show PSet W4 M 0 (wedS (f.2.take 0) k) by
  have e : wedS (f.2.take 0) k = [] := by unfold wedS; simp
  rw [e, ← z3M]
  refine PSet.keepb (PSet.made W3) ?_
  rw [hW4]
  exact Below.heap_alloc _ _ _ spT)
 go_upto_region 2 with fail
 rw [← hM, ← hW4]
 have hMw : w.heap.size + 1 + 1 < M := by omega
 clear hW4 hmm z3 z3M hM
 have q0 := oldc hB4 omT f0
 have q1 := oldc hB4 omT f1
 go_wp2
 go_loopw [7, 12, 18, 26] (fun _ s12 _ _ wl => ∃ i : Nat, i ≤ f.2.length ∧ s12 = .int .i64 i ∧ wl.cell? ⟨M + 1, 0, none⟩ = some (.map (some M)) ∧ Hid (PSet wl M i (wedS (f.2.take i) k)) ∧ Below M W3 wl ∧ M + 1 < wl.heap.size) (fun _ s12 _ _ _ => f.2.length - (intOf s12).toNat)
 case atStart => exact ⟨0, Nat.zero_le _, rfl, b0, HP4, hB4, by omega⟩
 case round =>
  clear HP4 b0 q0 q1
  obtain ⟨wo, hwo⟩ : ∃ y : World, y = wr := ⟨_, rfl⟩
  subst hwo
  obtain ⟨i, hi, rfl, b0, HP, hbo, lM⟩ := hrel
  have hBo : Below w.heap.size w wo := hB3.trans (hbo.mono omT)
  replace f0 := oldc hbo omT f0
  replace f1 := oldc hbo omT f1
  replace s0 := oldc hbo omT s0
  replace s1 := oldc hbo omT s1
  replace r0 := oldc hbo omT r0
  replace r1 := oldc hbo omT r1
  replace rf : ∀ o, wo.frozen? ⟨w.heap.size + 1 + 1, o, none⟩ = false := fun o => (hbo.frozen (p := ⟨w.heap.size + 1 + 1, o, none⟩) (show w.heap.size + 1 + 1 < M by omega)).trans (rf o)
  have n0 : ¬ w.heap.size = wo.heap.size := by omega
  have n1 : ¬ wo.heap.size = w.heap.size := by omega
  have n2 : ¬ w.heap.size + 1 = wo.heap.size := by omega
  have n3 : ¬ wo.heap.size = w.heap.size + 1 := by omega
  have n4 : ¬ M + 1 = wo.heap.size := by omega
  have n5 : ¬ wo.heap.size = M + 1 := by omega
  have n6 : w.heap.size < wo.heap.size := by omega
  have n7 : w.heap.size + 1 < wo.heap.size := by omega
  by_cases hlt : i < f.2.length
  ·have hI : (i : Int) < (f.2.length : Int) := by omega
   obtain ⟨ub, uo, ma, wm, fr, tl, e1, hu, u0, u1, u2, u3, g0, g1, -, -, -, -, hbl, -⟩ := (HU.out.below hBo).uni_at hlt
   subst e1
   have HW := Hd (wedS_take (k := k) hu.out)
   clear hu
   have hbl' : ub < wo.heap.size := hbl
   by_cases h7 : k = 7
   ·have HW7 := Hd (show wedS (f.2.take (i + 1)) k = wedS (f.2.take i) k ++ [(wm, ma)] by rw [HW.out, if_pos h7])
    have HPA := Hd (HP.out.below (show Below wo.heap.size wo (wo.alloc (.cells #[.int .i64 ma, .int .i64 wm, .int .i64 fr, .int .i64 tl] 131)) from (Below.refl _ _).alloc (Nat.le_refl _) _))
    have e7 : (k == 7) = true := by simpa using h7
    clear HW HP h7
    go_wp2_with (at_mapUpdate; refine wpList_pset_put rfl rfl Tryz.underlying186 rfl HPA.out mxT (p := (wm, ma)) rfl g1 g0 rfl ?_)
    intro w5 HP5 hg5
    have HPX := Hd (show PSet w5 M (i + 1) (wedS (f.2.take (i + 1)) k) by rw [HW7.out]; exact HP5)
    have s5 := hg5.size
    simp only [World.size_alloc] at s5
    have b5 : w5.cell? ⟨M + 1, 0, none⟩ = some (.map (some M)) := (World.cell?_of_block (w := wo.alloc _) (a := ⟨M + 1, 0, none⟩) (hg5.block (M + 1) soT spT)).trans (oldc ((Below.refl wo.heap.size wo).alloc (Nat.le_refl _) _) omT b0)
    have hb5 : Below M W3 w5 := Below.grown (Below.trans hbo ((Below.refl M wo).alloc omT _)) hg5 soT (fun j hj => by simp only [Option.some.injEq] at hj; omega)
    clear HPA HP5 hg5 HW7
    go_wp2
    go_roundw
    case rel => exact ⟨i + 1, by omega, by go_num, b5, HPX, hb5, by omega⟩
    case measure => simp [intOf]; omega
   ·have e7 : (k == 7) = false := by simpa using h7
    by_cases h8 : k = 8
    ·have HW7 := Hd (show wedS (f.2.take (i + 1)) k = wedS (f.2.take i) k ++ [(ma, wm)] by rw [HW.out, if_neg h7, if_pos h8])
     have HPA := Hd (HP.out.below (show Below wo.heap.size wo (wo.alloc (.cells #[.int .i64 ma, .int .i64 wm, .int .i64 fr, .int .i64 tl] 131)) from (Below.refl _ _).alloc (Nat.le_refl _) _))
     have e8 : (k == 8) = true := by simpa using h8
     clear HW HP h7 h8
     go_wp2_with (at_mapUpdate; refine wpList_pset_put rfl rfl Tryz.underlying186 rfl HPA.out mxT (p := (ma, wm)) rfl g0 g1 rfl ?_)
     intro w5 HP5 hg5
     have HPX := Hd (show PSet w5 M (i + 1) (wedS (f.2.take (i + 1)) k) by rw [HW7.out]; exact HP5)
     have s5 := hg5.size
     simp only [World.size_alloc] at s5
     have b5 : w5.cell? ⟨M + 1, 0, none⟩ = some (.map (some M)) := (World.cell?_of_block (w := wo.alloc _) (a := ⟨M + 1, 0, none⟩) (hg5.block (M + 1) soT spT)).trans (oldc ((Below.refl wo.heap.size wo).alloc (Nat.le_refl _) _) omT b0)
     have hb5 : Below M W3 w5 := Below.grown (Below.trans hbo ((Below.refl M wo).alloc omT _)) hg5 soT (fun j hj => by simp only [Option.some.injEq] at hj; omega)
     clear HPA HP5 hg5 HW7
     go_wp2
     go_roundw
     case rel => exact ⟨i + 1, by omega, by go_num, b5, HPX, hb5, by omega⟩
     case measure => simp [intOf]; omega
    ·have e8 : (k == 8) = false := by simpa using h8
     have HPX := Hd (show PSet (wo.alloc (.cells #[.int .i64 ma, .int .i64 wm, .int .i64 fr, .int .i64 tl] 131)) M (i + 1) (wedS (f.2.take (i + 1)) k) by
      rw [HW.out, if_neg h7, if_neg h8, List.append_nil]
      exact (HP.out.below ((Below.refl _ _).alloc (Nat.le_refl _) _)).more (Nat.le_succ _))
     have b5 := oldc ((Below.refl wo.heap.size wo).alloc (Nat.le_refl _) (.cells #[.int .i64 ma, .int .i64 wm, .int .i64 fr, .int .i64 tl] 131)) (show M + 1 < wo.heap.size by omega) b0
     have hb5 : Below M W3 (wo.alloc (.cells #[.int .i64 ma, .int .i64 wm, .int .i64 fr, .int .i64 tl] 131)) := Below.trans hbo ((Below.refl M wo).alloc omT _)
     clear HW HP h7 h8
     go_wp2
     go_roundw
     case rel => exact ⟨i + 1, by omega, by go_num, b5, HPX, hb5, by simp; omega⟩
     case measure => simp [intOf]; omega
  ·obtain rfl : i = f.2.length := by omega
   have hI : ¬ (f.2.length : Int) < (f.2.length : Int) := by omega
   rw [List.take_length] at HP
   have HHo := Hd (HH.out.below hBo)
   clear HH HU
   go_wp2_with fail
   refine (related_any _ f.1.length h40 143 #[.pointer (some ⟨w.heap.size, 0, none⟩), .pointer (some ⟨w.heap.size + 1, 0, none⟩), .pointer (some ⟨M + 1, 0, none⟩)] (ledB f (k, g)) (fun _ _ => by kernel_rfl) (fun W a b hW ha hb => ?cl)).mono ?_
   case cl =>
    exact stepCl_b W w.heap.size (w.heap.size + 1) (M + 1) M f.2.length ao cap (.slice bo f.2.length dap) f (HHo.out.below hW) k g a b ha hb h40 (oldc hW omT f0) (oldc hW omT f1) (oldc hW omT s0) (oldc hW omT s1) (oldc hW omT b0) (HP.out.below hW) _ hk hg rfl
   rintro e6 w6 ⟨u, rfl, ho, hb6⟩
   obtain ⟨ua, un, uc, rfl, hun, -⟩ := ho.rd.shape
   have HO := Hd ho
   have s6 := hb6.size
   have hB6 : Below w.heap.size w w6 := hBo.trans (Below.mono hb6 hBo.size)
   replace r0 := oldc hb6 omT r0
   replace r1 := oldc hb6 omT r1
   replace rf : ∀ o, w6.frozen? ⟨w.heap.size + 1 + 1, o, none⟩ = false := fun o => (hb6.frozen (p := ⟨w.heap.size + 1 + 1, o, none⟩) (show w.heap.size + 1 + 1 < wo.heap.size by omega)).trans (rf o)
   have l6 : w.heap.size + 1 + 1 < w6.heap.size := by omega
   clear hun ho hb6 HP HHo b0 f0 f1 s0 s1
   go_wp2
   refine bodyPost_ret (v := .agg #[.int .i64 f.1.length, .slice ua un uc]) (by simp [results, go_sem, *]) rfl ?_
   refine ⟨_, rfl, ?_, ?_⟩
   ·have HO2 := HO.out.keep (w' := (w6.setCell ⟨w.heap.size + 1 + 1, 0, none⟩ (.int .i64 f.1.length)).setCell ⟨w.heap.size + 1 + 1, 1, none⟩ (.slice ua un uc)) zmT
    exact Ow.mono HO2 omT spT
   ·exact bwT
end
section
theorem up_sexP {ps : List Per} {n i : Nat} (hP : PplTo ps n) (hi : i < n) {nm : ByteArray} {sx fa mo bo di : Int} (hx : ps[i]? = some (nm, sx, fa, mo, bo, di)) :
  (0 ≤ fa → ∃ y : Per, ps[fa.toNat]? = some y ∧ y.2.1 = 1) ∧ (0 ≤ mo → ∃ y : Per, ps[mo.toNat]? = some y ∧ y.2.1 = 2) := by
 have h := hP i hi
 rw [perOk_at hx] at h
 simp only [perC, Bool.and_eq_true] at h
 obtain ⟨-, -, -, -, -, h6, h7⟩ := h
 have go : ∀ (q sex late : Int), upOk ps i bo q sex late = true → 0 ≤ q → ∃ y : Per, ps[q.toNat]? = some y ∧ y.2.1 = sex := by
  intro q sex late h h0
  unfold upOk at h
  simp only [Bool.or_eq_true, decide_eq_true_eq, Bool.and_eq_true] at h
  rcases h with h | ⟨-, h⟩
  ·omega
  ·unfold upC at h
   split at h
   ·rename_i hy
    simp only [Bool.and_eq_true, decide_eq_true_eq] at h
    exact ⟨_, hy, h.1⟩
   ·cases h
 exact ⟨go fa 1 1 h6, go mo 2 0 h7⟩
theorem uni_sexP {f : Fam} {k : Nat} (h : uniOk f k = true) {m wo fr tl : Int} (hu : f.2[k]? = some (m, wo, fr, tl)) : (∃ x : Per, f.1[m.toNat]? = some x ∧ x.2.1 = 1) ∧ (∃ x : Per, f.1[wo.toNat]? = some x ∧ x.2.1 = 2) ∧ 0 ≤ m ∧ 0 ≤ wo := by
 unfold uniOk at h
 rw [hu] at h
 simp only [uniC, Bool.and_eq_true, decide_eq_true_eq] at h
 obtain ⟨h1, h2, -⟩ := h
 split at h2
 ·rename_i a b ha hb
  obtain ⟨_, sa, _, _, ba, da⟩ := a
  obtain ⟨_, sb, _, _, bb, db⟩ := b
  simp only [uniP, Bool.and_eq_true, decide_eq_true_eq] at h2
  exact ⟨⟨_, ha, h2.1.1⟩, ⟨_, hb, h2.1.2⟩, h1.1.1, h1.2.1⟩
 ·cases h2
def othB (a b : Int) (u : Uni) : Bool := if u.1 = a then decide (u.2.1 = b) else (decide (u.2.1 = a) && decide (u.1 = b))
def ledT (us : List Uni) (k g a b : Int) (x y : Per) : Bool :=
 decide (y.2.1 = stSex k) &&
  (if k = 1 then decide (x.2.2.1 = b)
  else if k = 2 then decide (x.2.2.2.1 = b)
  else if k = 5 ∨ k = 6 then parB y a
  else if k = 7 ∨ k = 8 then us.any (othB a b)
  else ((decide (g ≠ 1) || eldB y x b a) && (decide (g ≠ 2) || eldB x y a b)) && fullB x y a b)
theorem ledT_eq {f : Fam} (hf : famB f = true) {k g : Int} (hk : 1 ≤ k ∧ k ≤ 8) {a b : Nat} {x y : Per} (hx : f.1[a]? = some x) (hy : f.1[b]? = some y) : ledT f.2 k g a b x y = ledB f (k, g) a b := by
 obtain ⟨-, -, hP, hU⟩ := famB_facts hf
 have ha := (List.getElem?_eq_some_iff.1 hx).1
 have hb := (List.getElem?_eq_some_iff.1 hy).1
 rw [ledB_at hx hy]
 obtain ⟨nm, sx, fa, mo, bo, di⟩ := x
 obtain ⟨nm', sx', fa', mo', bo', di'⟩ := y
 have hux := up_sexP hP ha hx
 have huy := up_sexP hP hb hy
 have h8 : k = 1 ∨ k = 2 ∨ (k = 3 ∨ k = 4) ∨ (k = 5 ∨ k = 6) ∨ k = 7 ∨ k = 8 := by omega
 rcases h8 with rfl | rfl | h34 | h56 | rfl | rfl
 ·show (decide (sx' = stSex 1) && decide (fa = (b : Int))) = decide (fa = (b : Int))
  by_cases e : fa = (b : Int)
  ·obtain ⟨z, hz, hzs⟩ := hux.1 omT
   rw [e, Int.toNat_natCast, hy] at hz
   obtain rfl := Option.some.inj hz
   rw [decide_eq_true (show sx' = stSex 1 from hzs)]; rfl
  ·rw [decide_eq_false e, Bool.and_false]
 ·show (decide (sx' = stSex 2) && decide (mo = (b : Int))) = decide (mo = (b : Int))
  by_cases e : mo = (b : Int)
  ·obtain ⟨z, hz, hzs⟩ := hux.2 omT
   rw [e, Int.toNat_natCast, hy] at hz
   obtain rfl := Option.some.inj hz
   rw [decide_eq_true (show sx' = stSex 2 from hzs)]; rfl
  ·rw [decide_eq_false e, Bool.and_false]
 ·unfold ledT ledC
  rw [if_neg omT, if_neg omT, if_neg omT, if_neg omT, if_neg omT, if_neg omT, if_pos h34]
  congr 1
  rw [Bool.and_comm]
 ·unfold ledT ledC
  rw [if_neg omT, if_neg omT, if_pos h56, if_neg omT, if_neg omT, if_neg omT, if_pos h56]
 ·show (decide (sx' = stSex 7) && f.2.any (othB a b)) = decide (((a : Int), (b : Int)) ∈ wedS f.2 7)
  rw [Bool.eq_iff_iff]
  simp only [Bool.and_eq_true, decide_eq_true_eq, List.any_eq_true]
  unfold wedS
  rw [if_pos rfl, List.mem_map]
  constructor
  ·rintro ⟨hs, u, hu, ho⟩
   obtain ⟨i, hi, hi2⟩ := List.getElem_of_mem hu
   obtain ⟨m, wo, fr, tl⟩ := u
   obtain ⟨⟨z, hz, hzs⟩, ⟨z2, hz2, hzs2⟩, -⟩ := uni_sexP (hU i hi) (m := m) (wo := wo) (fr := fr) (tl := tl) (by rw [List.getElem?_eq_getElem hi, hi2])
   unfold othB at ho
   split at ho
   ·have e : wo = (b : Int) := of_decide_eq_true ho
    rw [e, Int.toNat_natCast, hy] at hz2
    obtain rfl := Option.some.inj hz2
    have h1 : sx' = 2 := hzs2
    have h2 : sx' = 1 := hs
    omega
   ·rw [Bool.and_eq_true, decide_eq_true_eq, decide_eq_true_eq] at ho
    exact ⟨_, hu, Prod.ext ho.1 ho.2⟩
  ·rintro ⟨u, hu, he⟩
   simp only [Prod.mk.injEq] at he
   obtain ⟨i, hi, hi2⟩ := List.getElem_of_mem hu
   obtain ⟨m, wo, fr, tl⟩ := u
   obtain ⟨⟨z, hz, hzs⟩, ⟨z2, hz2, hzs2⟩, -⟩ := uni_sexP (hU i hi) (m := m) (wo := wo) (fr := fr) (tl := tl) (by rw [List.getElem?_eq_getElem hi, hi2])
   have e1 : wo = (a : Int) := he.1
   have e2 : m = (b : Int) := he.2
   have hz' := hz
   rw [e2, Int.toNat_natCast, hy] at hz
   obtain rfl := Option.some.inj hz
   refine ⟨hzs, _, hu, ?_⟩
   unfold othB
   by_cases h : m = (a : Int)
   ·rw [e1, ← h, hz'] at hz2
    obtain rfl := Option.some.inj hz2
    rw [hzs] at hzs2; omega
   ·rw [if_neg h, decide_eq_true e1, decide_eq_true e2]; rfl
 ·show (decide (sx' = stSex 8) && f.2.any (othB a b)) = decide (((a : Int), (b : Int)) ∈ wedS f.2 8)
  rw [Bool.eq_iff_iff]
  simp only [Bool.and_eq_true, decide_eq_true_eq, List.any_eq_true]
  unfold wedS
  rw [if_neg (by decide), if_pos rfl, List.mem_map]
  constructor
  ·rintro ⟨hs, u, hu, ho⟩
   obtain ⟨i, hi, hi2⟩ := List.getElem_of_mem hu
   obtain ⟨m, wo, fr, tl⟩ := u
   obtain ⟨⟨z, hz, hzs⟩, ⟨z2, hz2, hzs2⟩, -⟩ := uni_sexP (hU i hi) (m := m) (wo := wo) (fr := fr) (tl := tl) (by rw [List.getElem?_eq_getElem hi, hi2])
   unfold othB at ho
   split at ho
   ·rename_i hm
    exact ⟨_, hu, Prod.ext hm (of_decide_eq_true ho)⟩
   ·rw [Bool.and_eq_true, decide_eq_true_eq, decide_eq_true_eq] at ho
    have e : m = (b : Int) := ho.2
    rw [e, Int.toNat_natCast, hy] at hz
    obtain rfl := Option.some.inj hz
    have h1 : sx' = 1 := hzs
    have h2 : sx' = 2 := hs
    omega
  ·rintro ⟨u, hu, he⟩
   simp only [Prod.mk.injEq] at he
   obtain ⟨i, hi, hi2⟩ := List.getElem_of_mem hu
   obtain ⟨m, wo, fr, tl⟩ := u
   obtain ⟨⟨z, hz, hzs⟩, ⟨z2, hz2, hzs2⟩, -⟩ := uni_sexP (hU i hi) (m := m) (wo := wo) (fr := fr) (tl := tl) (by rw [List.getElem?_eq_getElem hi, hi2])
   have e1 : m = (a : Int) := he.1
   have e2 : wo = (b : Int) := he.2
   rw [e2, Int.toNat_natCast, hy] at hz2
   obtain rfl := Option.some.inj hz2
   refine ⟨hzs2, _, hu, ?_⟩
   unfold othB
   rw [if_pos e1, decide_eq_true e2]
def stepTo (R : Nat → Nat → Bool) (n : Nat) (from' : List Bool) (k : Nat) : List Bool := (List.range n).map fun b => (List.range k).any fun a => from'.getD a false && R a b
def stepSet (R : Nat → Nat → Bool) (n : Nat) (from' : List Bool) : List Bool := stepTo R n from' n
theorem stepTo_len (R : Nat → Nat → Bool) (n : Nat) (o : List Bool) (k : Nat) : (stepTo R n o k).length = n := by unfold stepTo; simp
theorem stepTo_at {R : Nat → Nat → Bool} {n k b : Nat} {o : List Bool} (hb : b < n) : (stepTo R n o k)[b]? = some ((List.range k).any fun a => o.getD a false && R a b) := by
 unfold stepTo; rw [List.getElem?_map, List.getElem?_range hb]; rfl
theorem stepTo_zero (R : Nat → Nat → Bool) (n : Nat) (o : List Bool) : stepTo R n o 0 = List.replicate n false := by
 apply List.ext_getElem?
 intro b
 by_cases hb : b < n
 ·rw [stepTo_at hb, List.getElem?_replicate, if_pos hb]; rfl
 ·rw [List.getElem?_eq_none (by rw [stepTo_len]; omega), List.getElem?_eq_none soT]
theorem stepTo_off {R : Nat → Nat → Bool} {n k : Nat} {o : List Bool} (h : o.getD k false = false) : stepTo R n o (k + 1) = stepTo R n o k := by
 apply List.ext_getElem?
 intro b
 by_cases hb : b < n
 ·rw [stepTo_at hb, stepTo_at hb, List.range_succ, List.any_append]; simp only [List.any_cons, List.any_nil, h, Bool.false_and, Bool.or_false]
 ·rw [List.getElem?_eq_none (by rw [stepTo_len]; omega), List.getElem?_eq_none (by rw [stepTo_len]; omega)]
def markL (o : List Bool) (l : List Int) : List Bool := (List.range o.length).map fun b => o.getD b false || decide ((b : Int) ∈ l)
theorem markL_len (o : List Bool) (l : List Int) : (markL o l).length = o.length := by unfold markL; simp
theorem markL_at {o : List Bool} {l : List Int} {b : Nat} (hb : b < o.length) : (markL o l)[b]? = some (o.getD b false || decide ((b : Int) ∈ l)) := by
 unfold markL; rw [List.getElem?_map, List.getElem?_range hb]; rfl
theorem markL_nil (o : List Bool) : markL o [] = o := by
 apply List.ext_getElem?
 intro b
 by_cases hb : b < o.length
 ·rw [markL_at hb, List.getElem?_eq_getElem hb]
  simp [List.getD_eq_getElem?_getD, hb]
 ·rw [List.getElem?_eq_none (by rw [markL_len]; omega), List.getElem?_eq_none omT]
theorem markL_snoc (o : List Bool) (l : List Int) {c : Nat} (hc : c < o.length) : (markL o l).set c true = markL o (l ++ [(c : Int)]) := by
 apply List.ext_getElem?
 intro b
 by_cases hb : b < o.length
 ·rw [markL_at hb, List.getElem?_set]
  by_cases e : c = b
  ·subst e; rw [if_pos rfl, if_pos (by rw [markL_len]; exact hb)]; simp
  ·rw [if_neg e, markL_at hb]
   have : ((b : Int) ∈ l ++ [(c : Int)]) ↔ (b : Int) ∈ l := by
    rw [List.mem_append, List.mem_singleton]
    exact ⟨fun h => by rcases h with h | h; exact h; omega, .inl⟩
   rw [decide_eq_decide.2 this]
 ·rw [List.getElem?_eq_none (by rw [List.length_set, markL_len]; omega), List.getElem?_eq_none (by rw [markL_len]; omega)]
theorem stepTo_on {R : Nat → Nat → Bool} {n k : Nat} {o : List Bool} (h : o.getD k false = true) : markL (stepTo R n o k) (rowTo R k n) = stepTo R n o (k + 1) := by
 apply List.ext_getElem?
 intro b
 by_cases hb : b < n
 ·rw [markL_at (by rw [stepTo_len]; exact hb), stepTo_at hb, List.range_succ, List.any_append, List.getD_eq_getElem?_getD, stepTo_at hb]
  simp only [Option.getD_some, List.any_cons, List.any_nil, h, Bool.true_and, Bool.or_false]
  congr 2
  have : ((b : Int) ∈ rowTo R k n) ↔ R k b = true := by
   rw [mem_rowTo]
   constructor
   ·rintro ⟨c, _, h2, h3⟩
    obtain rfl : b = c := by omega
    exact h2
   ·intro h; exact ⟨b, hb, h, rfl⟩
  by_cases hr : R k b = true
  ·rw [hr]; exact decide_eq_true (this.2 hr)
  ·rw [decide_eq_false (fun h => hr (this.1 h))]; simpa using hr
 ·rw [List.getElem?_eq_none (by rw [markL_len, stepTo_len]; omega), List.getElem?_eq_none (by rw [stepTo_len]; omega)]
theorem stepSet_len (R : Nat → Nat → Bool) (n : Nat) (o : List Bool) : (stepSet R n o).length = n := stepTo_len R n o n
def reachL (f : Fam) (o : List Bool) (l : List Stp) : List Bool := l.foldl (fun o s => stepSet (ledB f (s.1, 0)) f.1.length o) o
def single (n a : Nat) : List Bool := (List.replicate n false).set a true
def leadsB (f : Fam) (l : List Stp) (a b : Nat) : Bool := (reachL f (single f.1.length a) l).getD b false
theorem reachL_take {f : Fam} {o : List Bool} {l : List Stp} {i : Nat} {s : Stp} (h : l[i]? = some s) : reachL f o (l.take (i + 1)) = stepSet (ledB f (s.1, 0)) f.1.length (reachL f o (l.take i)) := by
 unfold reachL; rw [take_snoc h, List.foldl_append]; rfl
theorem reachL_len {f : Fam} {o : List Bool} (ho : o.length = f.1.length) : ∀ (l : List Stp), (reachL f o l).length = f.1.length
 | [] => ho
 | s :: l => reachL_len (o := stepSet (ledB f (s.1, 0)) f.1.length o) (stepSet_len _ _ _) l
end
end Go.Proofs.YtcbhdmmohdnjbaaGreat
