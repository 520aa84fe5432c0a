/- Contracts: the reference's draws of a kin type: it is valid and not too long. -/
import Derived.Test.YtdpkldapobbnpaaGreatDoorDrw
import Derived.Test.YtdpkldapobbnpaaGreatDoorTrmC
import Derived.Test.YtdpkldapobbnpaaGreatDoorBase
namespace Go.Proofs.YtdpkldapobbnpaaGreatDoor
set_option linter.unusedVariables false
set_option linter.unusedSimpArgs false
open Go.RowKit
theorem kinGo_age : ∀ {l : List Stp} {sex : Int} {i : Nat} {k a a' : Int}, kinGo sex l = true → l[i]? = some (k, a) → (k = 3 ∨ k = 4) → (0 ≤ a' ∧ a' ≤ 2) → kinGo sex (l.set i (k, a')) = true
 | s :: l, sex, 0, k, a, a', h, hi, hk, ha => by
   simp at hi; subst hi
   rw [kinGo, Bool.and_eq_true] at h
   rw [List.set_cons_zero, kinGo, Bool.and_eq_true]
   refine ⟨?_, h.2⟩
   have := stFits_facts h.1
   simp only [stFits, Bool.and_eq_true, decide_eq_true_eq, Bool.not_eq_true', decide_eq_false_iff_not]
   exact ⟨by omega, ha, by omega, by omega⟩
 | s :: l, sex, i + 1, k, a, a', h, hi, hk, ha => by
   rw [kinGo, Bool.and_eq_true] at h
   rw [List.set_cons_succ, kinGo, Bool.and_eq_true]
   exact ⟨h.1, kinGo_age h.2 (by simpa using hi) hk ha⟩
 | [], _, _, _, _, _, _, hi, _, _ => by simp at hi
theorem isKin_age {t : Kin} {i : Nat} {k a a' : Int} (h : isKin t = true) (hi : t.2[i]? = some (k, a)) (hk : k = 3 ∨ k = 4) (ha : 0 ≤ a' ∧ a' ≤ 2) : isKin (t.1, t.2.set i (k, a')) = true := by
 have f := isKin_facts h
 simp only [isKin, Bool.and_eq_true, decide_eq_true_eq]
 exact ⟨f.1, by simpa using f.2.1, kinGo_age f.2.2.1 hi hk ha⟩
theorem more_kin {t u : Kin} (ht : isKin t = true) (hl : t.2.length < 8) (hu : u ∈ more t) : isKin u = true ∧ u.2.length = t.2.length + 1 ∧ u.1 = t.1 := by
 unfold more moreTo at hu
 obtain ⟨i, hi, hu⟩ := List.mem_flatMap.1 hu
 unfold kinMore at hu
 split at hu
 ·next hf =>
  rw [List.mem_singleton] at hu; subst hu
  exact ⟨(isKin_snoc ht hl _).trans hf, by simp, rfl⟩
 ·cases hu
theorem more_pos (t : Kin) : 0 < (more t).length := by
 unfold more
 have h : ∀ k, 0 < (moreTo t (k + 1)).length := by
  intro k
  induction k with
  | zero =>
    rw [moreTo_succ]
    have : kinMore t ((0 : Nat) + 1 : Int) = [(t.1, t.2 ++ [(1, 0)])] := by
     unfold kinMore
     rw [if_pos]
     ·rfl
     ·simp [stFits]
    rw [this]; simp
  | succ k ih => rw [moreTo_succ, List.length_append]; omega
 exact h 7
structure KinBox (p R T : Nat) (w0 : World) (t : Kin) (v : Value) (W : World) : Prop where
 q0 : W.cell? ⟨T, 0, none⟩ = some (.int .i64 t.1)
 q1 : W.cell? ⟨T, 1, none⟩ = some v
 fT : ∀ o, W.frozen? ⟨T, o, none⟩ = false
 r0 : W.cell? ⟨R, 0, none⟩ = some (.int .i64 0)
 r1 : W.cell? ⟨R, 1, none⟩ = some (.slice none 0 0)
 fR : ∀ o, W.frozen? ⟨R, o, none⟩ = false
 own : Ow (T + 1) W.heap.size W [.int .i64 t.1, v] t
 cur : CurOk p W
 off : OffF [p] w0 W
 lT : T < W.heap.size
 pR : p < R
 RT : R < T
 h0 : w0.heap.size ≤ R
theorem KinBox.drew {p R T : Nat} {w0 W W' : World} {t : Kin} {v : Value} (h : KinBox p R T w0 t v W) (hO : OffF [p] W W') (hC : CurOk p W') : KinBox p R T w0 t v W' := by
 have h1 := h.pR
 have h2 := h.RT
 have h3 := h.lT
 exact ⟨offq hO (by omega) h3 h.q0, offq hO (by omega) h3 h.q1, offfr hO (by omega) h3 h.fT, offq hO (by omega) (by omega) h.r0, offq hO (by omega) (by omega) h.r1, offfr hO (by omega) (by omega) h.fR,
  (h.own.keep (offzn hO (.inl (by omega)) (Nat.le_refl _))).top, hC, h.off.trans hO, Nat.lt_of_lt_of_le h3 hO.size, h1, h2, h.h0⟩
theorem KinBox.put {p R T : Nat} {w0 W : World} {t u : Kin} {v v' : Value} (h : KinBox p R T w0 t v W) (hu : Ow (T + 1) W.heap.size W [.int .i64 u.1, v'] u) : KinBox p R T w0 u v' ((W.setCell ⟨T, 0, none⟩ (.int .i64 u.1)).setCell ⟨T, 1, none⟩ v') := by
 have h1 := h.pR
 have h2 := h.RT
 have h3 := h.lT
 have hz : Zone (T + 1) W.heap.size W ((W.setCell ⟨T, 0, none⟩ (.int .i64 u.1)).setCell ⟨T, 1, none⟩ v') := Zone.setCell (Zone.setCell (Zone.refl _ _ W) (p := ⟨T, 0, none⟩) (.inl (Nat.lt_succ_self T)) _) (p := ⟨T, 1, none⟩) (.inl (Nat.lt_succ_self T)) _
 have hB : Below T W ((W.setCell ⟨T, 0, none⟩ (.int .i64 u.1)).setCell ⟨T, 1, none⟩ v') := bwT
 have q0 : (W.setCell ⟨T, 0, none⟩ (.int .i64 u.1)).cell? ⟨T, 0, none⟩ = some (.int .i64 u.1) := cell_here h.q0
 have q1 : (W.setCell ⟨T, 0, none⟩ (.int .i64 u.1)).cell? ⟨T, 1, none⟩ = some v := cell_there h.q1 (by omega)
 exact ⟨cell_there q0 (by omega), cell_here q1, fun o => frozen_setCell _ _ _ _ _ (frozen_setCell _ _ _ _ _ (h.fT o)), oldc hB h2 h.r0, oldc hB h2 h.r1, fun o => (hB.frozen (p := ⟨R, o, none⟩) h2).trans (h.fR o),
  (hu.keep hz).mono (Nat.le_refl _) (by simp), h.cur.below (hB.mono (by omega)), (h.off.belowA (hB.mono (by have := h.h0; omega))), by simp; exact h3, h1, h2, h.h0⟩
theorem KinBox.age {p R T : Nat} {w0 W : World} {t : Kin} {b off n cap : Nat} {k a a' : Int} {i : Nat} (h : KinBox p R T w0 t (.slice (some ⟨b, off, none⟩) n cap) W) (hi : i < n) (hx : t.2[i]? = some (k, a)) (ha : I64 a') : KinBox p R T w0 (t.1, t.2.set i (k, a')) (.slice (some ⟨b, off, none⟩) n cap) (W.setCell ⟨b, off + i * 2 + 1, none⟩ (.int .i64 a')) := by
 obtain ⟨e, l⟩ := t
 dsimp only at hx
 have h1 := h.pR
 have h2 := h.RT
 have h3 := h.lT
 obtain ⟨_, _, hb⟩ := h.own.rd.kin
 obtain ⟨b', off', ki, ag, e1, hx', c0, c1, g0, g1, l1, l2, l3, -⟩ := hb.stp_at hi
 simp only [Option.some.injEq, Addr.mk.injEq, and_true] at e1
 obtain ⟨rfl, rfl⟩ := e1
 have hbT : T < b := by omega
 have hx2 := hx'.out
 rw [show ((e, l) : Kin).2 = l from rfl, hx] at hx2
 simp only [Option.some.injEq, Prod.mk.injEq] at hx2
 obtain ⟨rfl, rfl⟩ := hx2
 have hB : Below (T + 1) W (W.setCell ⟨b, off + i * 2 + 1, none⟩ (.int .i64 a')) := bwT
 refine ⟨oldc hB (by omega) h.q0, oldc hB (by omega) h.q1, fun o => (hB.frozen (p := ⟨T, o, none⟩) (by show T < T + 1; omega)).trans (h.fT o), oldc hB (by omega) h.r0, oldc hB (by omega) h.r1, fun o => (hB.frozen (p := ⟨R, o, none⟩) (by show R < T + 1; omega)).trans (h.fR o), ?_, h.cur.below (hB.mono (by omega)), h.off.belowA (hB.mono (by have := h.h0; omega)), by simp; exact h3, h1, h2, h.h0⟩
 obtain ⟨fp, hr, hz, hn⟩ := h.own
 obtain ⟨v0, ev, hI, hr2⟩ := repKin_inv hr
 simp only [List.cons.injEq, and_true, true_and] at ev
 subst ev
 refine ⟨fp, repKin_mk hI ?_, fun q hq => ?_, hn⟩
 ·have := rep_setd hr2 hn (i := i) (j := 1) (x := (k, a)) (y := (k, a')) (u := .int .i64 a') hx (by show 1 < 2; omega) (fun cs f hcf => by
   obtain ⟨rfl, q0, q1, rfl⟩ := repStp_inv hcf
   exact repStp_mk q0 ha)
  simpa [Rep.sz, Nat.add_assoc] using this
 ·have := hz q hq
  simp; exact this
def PostDK (p most : Nat) (w : World) (e : Ending) (w' : World) : Prop := ∃ b t, e = .returned (.agg #[.int .i64 t.1, b]) ∧ Ow w.heap.size w'.heap.size w' [.int .i64 t.1, b] (t : Kin) ∧ Hid (isKin t = true ∧ t.2.length ≤ most) ∧ CurOk p w' ∧ OffF [p] w w'
set_option maxRecDepth 20000 in
set_option maxHeartbeats 8000000 in
theorem l3Draw_any (w : World) (p : Nat) (h : CurOk p w) (most : Nat) (h8 : most ≤ 8) :
  Calls Tryz.prog 41 #[.pointer (some ⟨p, 0, none⟩), .int .i64 most] w (PostDK p most w) := by
 have hp := h.lt
 go_enter Tryz.func41, Tryz.ntmps41
 go_wp2_with fail
 refine (l01Below_any _ p (h.grow bwT) 3 (by omega) (by omega)).mono ?_
 rintro e w1 ⟨r, rfl, ⟨hr0, hr1⟩, hC1, hO1⟩
 have hF1 : OffF [p] w w1 := ((OffF.refl [p] w).alloc _).trans hO1
 have s1 : w.heap.size < w1.heap.size := by have := hO1.size; simp at this; omega
 have r0 : w1.cell? ⟨w.heap.size, 0, none⟩ = some (.int .i64 0) := offq hO1 (by omega) (by simp) (by simp [go_sem])
 have r1 : w1.cell? ⟨w.heap.size, 1, none⟩ = some (.slice none 0 0) := offq hO1 (by omega) (by simp) (by simp [go_sem])
 have rf : ∀ o, w1.frozen? ⟨w.heap.size, o, none⟩ = false := offfr hO1 (by omega) (by simp) (by simp [go_sem])
 have hw1 : wrap64 ((most : Int) + 1) = ((most + 1 : Nat) : Int) := (IntWalk.wrap64_in _ (by omega)).trans (by omega)
 clear h hO1
 go_wp2_with fail
 refine (l01Below_any _ p (hC1.grow bwT) ((most + 1 : Nat) : Int) (by omega) (by omega)).mono ?_
 rintro e w2 ⟨k0, rfl, ⟨hk0, hk1⟩, hC2, hO2⟩
 obtain ⟨K, rfl⟩ := Int.eq_ofNat_of_zero_le hk0
 have s2 : w1.heap.size < w2.heap.size := by have := hO2.size; simp at this; omega
 have hKB := Lib.hid (show KinBox p w.heap.size w1.heap.size w (r, []) (.slice none 0 0) w2 from
  ⟨offq hO2 (by omega) (by simp) (by simp [go_sem]), offq hO2 (by omega) (by simp) (by simp [go_sem]), offfr hO2 (by omega) (by simp) (by simp [go_sem]), offq hO2 (by omega) (by simp; omega) (oldc (k := w1.heap.size) bwT s1 r0), offq hO2 (by omega) (by simp; omega) (oldc (k := w1.heap.size) bwT s1 r1),
   offfr hO2 (by omega) (by simp; omega) (fun o => ((show Below w1.heap.size w1 _ from bwT).frozen (p := ⟨w.heap.size, o, none⟩) s1).trans (rf o)), Ow.kin_mk (by unfold I64; omega) (Ow.nil _ _ _), hC2, (hF1.belowA bwT).trans hO2, s2, hp, s1, Nat.le_refl _⟩)
 have HK0 := Lib.hid (show isKin ((r, []) : Kin) = true by simp [isKin, kinGo]; omega)
 have hKm : K ≤ most := by omega
 clear hC1 hC2 hO2 hF1 r0 r1 rf hw1 s2
 go_wp2
 go_loopw [6, 7, 8] (fun s6 _ _ wr => ∃ (k : Nat) (v : Value) (t : Kin), s6 = .int .i64 k ∧ k + t.2.length ≤ most ∧ Hid (KinBox p w.heap.size w1.heap.size w t v wr) ∧ Hid (isKin t = true)) (fun s6 _ _ _ => (intOf s6).toNat)
 case atStart => exact ⟨K, _, (r, []), rfl, by simpa using hKm, hKB, HK0⟩
 case round =>
  clear hKB HK0
  obtain ⟨wl, hwl⟩ : ∃ wm : World, wm = wr := ⟨_, rfl⟩
  subst hwl
  obtain ⟨k, v, t, rfl, hkt, HB, HK⟩ := hrel
  obtain ⟨_, ao, n, cap, _, rfl⟩ := shapeKin HB.out.own.rd
  have q0 := HB.out.q0
  have q1 := HB.out.q1
  have lT := HB.out.lT
  by_cases hk : 0 < k
  ·have hkI : (0 : Int) < (k : Int) := by omega
   have hwk : wrap64 ((k : Int) - 1) = ((k - 1 : Nat) : Int) := (IntWalk.wrap64_in _ (by omega)).trans (by omega)
   go_wp2_with fail
   refine (l3MoreS_any _ _ _ t (HB.out.own.rd.below bwT) HK.out (by omega)).mono ?_
   rintro e w3 ⟨ul, rfl, hol, hb3⟩
   have s3 := hb3.size
   obtain ⟨ao3, n3, cap3, rfl, hn3, -⟩ := hol.rd.shape
   subst hn3
   have hm0 := more_pos t
   have hm8 : (more t).length ≤ 8 := moreTo_len t 8
   have hB3 := Lib.hid (HB.out.drew (OffF.below (OffF.refl [p] wl) hb3) (HB.out.cur.grow hb3))
   have HOL := Lib.hid hol
   have hpl := HB.out.cur.lt
   have qa := hB3.out.q0
   have qb := hB3.out.q1
   have lTa := hB3.out.lT
   clear hb3 hol q0 q1
   go_wp2_with fail
   refine (l01Below_any _ p (hB3.out.cur.grow bwT) (more t).length (by omega) (by omega)).mono ?_
   rintro e w4 ⟨m, rfl, ⟨hm1, hm2⟩, hC4, hO4⟩
   obtain ⟨m, rfl⟩ := Int.eq_ofNat_of_zero_le hm1
   have hmI : (m : Int) < ((more t).length : Int) := by omega
   have hB4 := Lib.hid (hB3.out.drew hO4 hC4)
   have HOL := Lib.hid (HOL.out.keep (offzn hO4 (.inl hpl) (Nat.le_refl _)))
   have sp4 := hO4.size
   obtain ⟨u, hu⟩ : ∃ u, (more t)[m]? = some u := ⟨_, List.getElem?_eq_getElem (by omega)⟩
   obtain ⟨FPS, -, hnd, hz, hit⟩ := HOL.out.items
   obtain ⟨b, off, cs, fp, rfl, hfp, hrep, hcells⟩ := hit m u hu
   obtain ⟨uv, rfl, hI, hr2⟩ := repKin_inv hrep
   have c0 : w4.cell? ⟨b, off + m * 2, none⟩ = some (.int .i64 u.1) := by have := hcells 0 _ rfl; simpa [Rep.sz, Nat.add_assoc] using this
   have c1 : w4.cell? ⟨b, off + m * 2 + 1, none⟩ = some uv := by have := hcells 1 _ rfl; simpa [Rep.sz, Nat.add_assoc] using this
   have HU := Lib.hid (show Ow (w1.heap.size + 1) w4.heap.size w4 [.int .i64 u.1, uv] u from ⟨fp, hrep, fun q hq => by have := hz q (List.mem_flatten.2 ⟨fp, List.mem_of_getElem? hfp, hq⟩); have := hB4.out.lT; omega, (List.sublist_flatten_of_mem (List.mem_of_getElem? hfp)).nodup hnd⟩)
   obtain ⟨hku, hlu, -⟩ := more_kin HK.out (by omega) (List.mem_of_getElem? hu)
   have HKU := Lib.hid hku
   have HLU := Lib.hid hlu
   have HB5 := Lib.hid (hB4.out.put HU.out)
   obtain ⟨_, hus⟩ : ∃ n, n = u.2.length := ⟨_, rfl⟩
   obtain ⟨-, -, hRu⟩ := HU.out.rd.kin
   obtain ⟨ao5, n5, cap5, rfl, hn5, -⟩ := hRu.shape
   rw [hlu] at hn5
   subst hn5
   obtain ⟨b5, off5, ki, ag, rfl, hst, d0, d1, -, -, hb5, -, hb5l, -⟩ := hRu.stp_at (show t.2.length < t.2.length + 1 by omega)
   have hq0 := hB4.out.q0
   have hq1 := hB4.out.q1
   have hfT := hB4.out.fT
   have lT4 := hB4.out.lT
   have ne5 : ¬ b5 = w1.heap.size := by omega
   have ne6 : ¬ w1.heap.size = b5 := by omega
   have hwl1 : wrap64 ((((t.2.length + 1 : Nat)) : Int) - 1) = ((t.2.length : Nat) : Int) := (IntWalk.wrap64_in _ (by omega)).trans (by omega)
   have hLI : ((t.2.length : Nat) : Int) < ((t.2.length + 1 : Nat) : Int) := by omega
   have HST := Lib.hid hst.out
   clear hC4 hO4 hnd hz hit hfp hrep hcells hr2 hku hlu hRu hst hu hb5 hus
   go_upto_region 7 with fail
   go_cut [8] (fun s8 wx => s8 = .int .i64 ki ∧ Hid (KinBox p w.heap.size w1.heap.size w u (.slice (some ⟨b5, off5, none⟩) (t.2.length + 1) cap5) wx))
   case first =>
    go_wp2_with fail
    go_meet
    exact ⟨rfl, HB5⟩
   case rest =>
    obtain ⟨w5, hw5⟩ : ∃ W : World, W = wc := ⟨_, rfl⟩
    subst hw5
    obtain ⟨rfl, HB5⟩ := hcut
    clear d0 d1 c0 c1 hq0 hq1 hfT qa qb HOL hB4 hB3 HU HB ne5 ne6
    go_upto_region 8 with fail
    go_cut [47] (fun s47 wx => ∃ q : Bool, s47 = .bool q ∧ Hid (q = true → ki = 3 ∨ ki = 4) ∧ Hid (KinBox p w.heap.size w1.heap.size w u (.slice (some ⟨b5, off5, none⟩) (t.2.length + 1) cap5) wx))
    case first =>
     have hC5 := HB5.out.cur
     by_cases h3 : ki = 3
     ·have e3 : (ki == 3) = true := by simp [h3]
      have H3 := Lib.hid h3
      clear h3
      go_wp2_with fail
      refine (l01Once_any _ p hC5 3 (by omega) (by omega)).mono ?_
      rintro e w6 ⟨q, rfl, hC6, hO6⟩
      go_wp2_with fail
      go_meet
      exact ⟨q, rfl, Lib.hid (fun _ => .inl H3.out), Lib.hid (HB5.out.drew hO6 hC6)⟩
     ·have e3 : (ki == 3) = false := by simp [h3]
      clear h3
      by_cases h4 : ki = 4
      ·have e4 : (ki == 4) = true := by simp [h4]
       have H4 := Lib.hid h4
       clear h4
       go_wp2_with fail
       refine (l01Once_any _ p hC5 3 (by omega) (by omega)).mono ?_
       rintro e w6 ⟨q, rfl, hC6, hO6⟩
       go_wp2_with fail
       go_meet
       exact ⟨q, rfl, Lib.hid (fun _ => .inr H4.out), Lib.hid (HB5.out.drew hO6 hC6)⟩
      ·have e4 : (ki == 4) = false := by simp [h4]
       clear h4
       go_wp2_with fail
       go_meet
       exact ⟨false, rfl, Lib.hid (fun h => by cases h), HB5⟩
    case rest =>
     obtain ⟨w6, hw6⟩ : ∃ W : World, W = wc := ⟨_, rfl⟩
     subst hw6
     obtain ⟨q, rfl, HQ, HB6⟩ := hcut
     clear HB5
     cases q
     ·clear HQ
      go_wp2
      go_roundw
      case rel => exact ⟨k - 1, _, u, by first | rfl | go_num, by have := HLU.out; omega, HB6, HKU⟩
      case measure => simp [intOf]; omega
     ·have HK3 := Lib.hid (HQ.out rfl)
      clear HQ
      have hC6 := Lib.hid HB6.out.cur
      have q1 := HB6.out.q1
      have lT6 := HB6.out.lT
      have hp6 := HB6.out.pR
      have hR6 := HB6.out.RT
      have hwl2 : IntKind.i64.wrap ((((t.2.length + 1 : Nat)) : Int) - 1) = ((t.2.length : Nat) : Int) := (IntWalk.i64_in _ (by omega)).trans (by omega)
      have hwl3 : IntKind.i64.wrap ((t.2.length : Nat) : Int) = ((t.2.length : Nat) : Int) := IntWalk.i64_in _ (by omega)
      have hLI2 : ((t.2.length : Nat) : Int) < ((t.2.length : Nat) : Int) + 1 := by omega
      go_upto_region 9 with fail
      refine wp_region_held_drew (S := (fun w' => w'.cell? ⟨w1.heap.size, 1, none⟩ = some (.slice (some ⟨b5, off5, none⟩) (t.2.length + 1) cap5))) (by kernel_rfl) ?_ (fun hHeld => ?_)
      ·first | exact trivial | ((try dsimp only); go_keep)
      refine tkA 0 ?_
      try simp only [Act.put, cA, cB, cC]
      refine tkA 2 ?_
      try simp only [Act.put, cA, cB, cC]
      refine tkA 6 ?_
      try simp only [Act.put, cA, cB, cC]
      refine tkA 1 ?_
      try simp only [Act.put, cA, cB, cC]
      refine tkA 3 ?_
      try simp only [Act.put, cA, cB, cC]
      refine tkA 4 ?_
      try simp only [Act.put, cA, cB, cC]
      refine tkA 5 ?_
      try simp only [Act.put, cA, cB, cC]
      refine wpAnyH_ready (rs := [7]) (by kernel_rfl) (by simp) ?_
      refine rdR (fun K hK => ?_) ?_
      ·go_simp
       refine (l01Below_any _ p (hC6.out.grow ?b1) 2 (by omega) (by omega)).mono ?_
       case b1 => exact bwT
       rintro e w7 ⟨a, rfl, ⟨ha0, ha1⟩, hC7, hO7⟩
       have hO67 : OffF [p] w6 w7 := (OffF.below (OffF.refl [p] w6) bwT).trans hO7
       have HB7 := Lib.hid (HB6.out.drew hO67 hC7)
       have hS7 := HB7.out.q1
       obtain ⟨b6, off6, ki6, ag6, e6, -, -, d6, -, -, hb6, -, hb6l, hf6⟩ := HB7.out.own.rd.kin.2.2.stp_at (show t.2.length < t.2.length + 1 by omega)
       simp only [Option.some.injEq, Addr.mk.injEq, and_true] at e6
       obtain ⟨rfl, rfl⟩ := e6
       have hf6 := hf6 rfl
       have hw8 : IntKind.i64.wrap (1 + a) = 1 + a := IntWalk.i64_in _ (by omega)
       have HB8 := Lib.hid (HB7.out.age (a' := 1 + a) (show t.2.length < t.2.length + 1 by omega) HST.out (by unfold I64; omega))
       have HK8 := Lib.hid (isKin_age (a' := 1 + a) HKU.out HST.out HK3.out (by omega))
       have hlT7 := HB7.out.lT
       have ne8 : ¬ b5 = w1.heap.size := by omega
       have ne9 : ¬ w1.heap.size = b5 := by omega
       clear hO7 hO67 hC7
       refine hK.out _ _ ?_ (fun hHeld => ?_)
       ·exact kpT
       clear hK K
       try simp only [Act.put, cA, cB, cC]
       refine tkA 8 ?_
       try simp only [Act.put, cA, cB, cC]
       refine tkA 9 ?_
       try simp only [Act.put, cA, cB, cC]
       refine tkA 10 ?_
       try simp only [Act.put, cA, cB, cC]
       refine wpAnyH_ready (rs := [11]) (by kernel_rfl) (by simp) ?_
       refine rdR (fun K hK => ?_) ?_
       ·go_simp
        refine hK.out _ _ ?_ (fun hHeld => ?_)
        ·exact kpT
        clear hK K
        try simp only [Act.put, cA, cB, cC]
        refine wpAnyH_done (by kernel_rfl) ?_ _
        go_wp2
        go_roundw
        case rel => exact ⟨k - 1, _, (u.1, u.2.set t.2.length (ki, 1 + a)), by first | rfl | go_num, by have := HLU.out; simp; omega, HB8, HK8⟩
        case measure => simp [intOf]; omega
       exact AllReadyH.nil
      exact AllReadyH.nil
  ·have hkI : ¬ (0 : Int) < (k : Int) := by omega
   have r0 := HB.out.r0
   have r1 := HB.out.r1
   have rf := HB.out.fR
   have hR := HB.out.RT
   have hpR := HB.out.pR
   have ne1 : ¬ w.heap.size = w1.heap.size := by omega
   have ne2 : ¬ w1.heap.size = w.heap.size := by omega
   go_wp2
   refine bodyPost_ret (v := .agg #[.int .i64 t.1, .slice ao n cap]) (by simp [results, Tryz.results41, go_sem, *]) rfl ⟨_, t, rfl, ?_, Lib.hid ⟨HK.out, by omega⟩, HB.out.cur.below ?b1, HB.out.off.belowA ?b2⟩
   ·exact (HB.out.own.keep (Zone.setCell (Zone.setCell (Zone.refl _ _ wl) (p := ⟨w.heap.size, 0, none⟩) (Or.inl (by show w.heap.size < _; omega)) (.int .i64 t.1)) (p := ⟨w.heap.size, 1, none⟩) (Or.inl (by show w.heap.size < _; omega)) (.slice ao n cap))).mono (by omega) (by simp)
   case b1 => exact bwT
   case b2 => exact bwT
theorem kin_ego {l : List Stp} (h : isKin (0, l) = true) (h1 : isKin (1, l) = false) : isKin (2, l) = true := by
 simp only [isKin, Bool.and_eq_true, decide_eq_true_eq] at h ⊢
 have h1' : kinGo 1 l = false := by
  cases e : kinGo 1 l with
  | false => rfl
  | true => simp [isKin, e] at h1; omega
 refine ⟨by omega, h.2.1, ?_⟩
 match l, h.2.2, h1' with
 | [], _, h1' => simp [kinGo] at h1'
 | s :: l, h0, h1' =>
   rw [kinGo, Bool.and_eq_true] at h0 ⊢
   rw [kinGo, Bool.and_eq_false_iff] at h1'
   refine ⟨?_, h0.2⟩
   have h1'' : stFits s 1 = false := by
    rcases h1' with h | h
    ·exact h
    ·rw [h0.2] at h; cases h
   have := stFits_facts h0.1
   simp only [stFits, Bool.and_eq_true, decide_eq_true_eq, Bool.not_eq_true', decide_eq_false_iff_not, Bool.and_eq_false_iff, Bool.not_eq_false', decide_eq_false_iff_not] at h1'' ⊢
   omega
def PostMK (most : Nat) (w : World) (e : Ending) (w' : World) : Prop := ∃ b t, e = .returned (.agg #[.int .i64 t.1, b]) ∧ Ow w.heap.size w'.heap.size w' [.int .i64 t.1, b] (t : Kin) ∧ Hid (isKin t = true ∧ t.2.length ≤ most) ∧ Below w.heap.size w w'
def PostMT (most : Nat) (w : World) (e : Ending) (w' : World) : Prop := ∃ b t, e = .returned (.agg #[.int .i64 t.1, b]) ∧ Ow w.heap.size w'.heap.size w' [.int .i64 t.1, b] (t : Kin) ∧ Hid (isKin t = true ∧ t.2.length ≤ most ∧ (t.1 = 1 ∨ t.1 = 2)) ∧ Below w.heap.size w w'
set_option maxRecDepth 20000 in
set_option maxHeartbeats 4000000 in
theorem makeType_any {z : Bool} {lo hi : Nat} (w : World) (v : Value) (code : List UInt8) (h : Rd z lo hi w [v] code) (hl : code.length ≤ 1048576) (most : Nat) (h0 : 1 ≤ most) (h7 : most < 8) :
  Calls Tryz.prog 13 #[v, .int .i64 most] w (PostMT most w) := by
 have q1 : min (most : Int) 8 = most := by omega
 have q2 : max 0 (most : Int) = most := by omega
 have q3 : (0 : Int) < most := by omega
 have q4 : (most : Int) < 8 := by omega
 have q5 : ¬ (8 : Int) ≤ most := by omega
 have q6 : ¬ (8 : Int) < most := by omega
 go_enter Tryz.func13, Tryz.ntmps13
 go_wp2_with fail
 refine (l01New_any _ _ code (h.below bwT) hl).mono ?_
 rintro e w1 ⟨p, rfl, hp, hC, hb1⟩
 have s1 : w.heap.size < w1.heap.size := by have := hb1.size; simp at this; omega
 have hp1 : w.heap.size < p := by simp at hp; omega
 have hB1 : Below w.heap.size w w1 := Below.after bwT hb1 (by simp)
 have r0 : w1.cell? ⟨w.heap.size, 0, none⟩ = some (.int .i64 0) := oldc hb1 (by simp) (by simp [go_sem])
 have r1 : w1.cell? ⟨w.heap.size, 1, none⟩ = some (.slice none 0 0) := oldc hb1 (by simp) (by simp [go_sem])
 have rf : ∀ o, w1.frozen? ⟨w.heap.size, o, none⟩ = false := fun o => (hb1.frozen (p := ⟨w.heap.size, o, none⟩) (by simp)).trans (by simp [go_sem])
 clear h hb1
 go_wp2_with fail
 all_goals
  refine (l3Draw_any _ p hC most (by omega)).mono ?_
  rintro e w2 ⟨v2, ⟨e0, l⟩, rfl, hO, hX, -, hF⟩
  have hB2 : Below w.heap.size w w2 := hB1.trans (hF.toBelow (by omega) (fun b hb => by simp at hb; omega))
  have s2 := hF.size
  have r0 := offq hF (by omega) (by omega) r0
  have r1 := offq hF (by omega) (by omega) r1
  have rf := offfr hF (by omega) (by omega) rf
  obtain ⟨_, ao, n, cap, _, rfl⟩ := shapeKin hO.rd
  have HO := Lib.hid hO
  clear hO hF hC
  have ne1 : ¬ w.heap.size = w2.heap.size := by omega
  have ne2 : ¬ w2.heap.size = w.heap.size := by omega
  have sw2 : w.heap.size < w2.heap.size := by omega
  have HS := Lib.hid (show ∀ x, x = e0 ∨ x = 1 ∨ x = 2 → Ow w1.heap.size w2.heap.size w2 [.int .i64 x, .slice ao n cap] ((x, l) : Kin) from fun x hx => by
   obtain ⟨fp, hr, hz, hn⟩ := HO.out
   obtain ⟨v0, ev, hI, hr2⟩ := repKin_inv hr
   simp only [List.cons.injEq, and_true, true_and] at ev
   subst ev
   refine ⟨fp, repKin_mk ?_ hr2, fun b hb => ⟨by have := (hz b hb).1; omega, (hz b hb).2⟩, hn⟩
   have := (isKin_facts hX.out.1).1
   unfold I64; dsimp only at this; omega)
  by_cases he : e0 = 0
  ·subst he
   obtain ⟨r, hr⟩ : ∃ r, r = isKin ((1, l) : Kin) := ⟨_, rfl⟩
   have HR := Lib.hid hr
   clear hr
   go_wp2_with fail
   refine (isTypeS_b _ _ _ (1, l) ((HS.out 1 (.inr (.inl rfl))).rd.below bwT) r HR.out).mono ?_
   rintro e w3 ⟨rfl, hb3⟩
   have t0 : w3.cell? ⟨w2.heap.size, 0, none⟩ = some (.int .i64 1) := oldc hb3 (by simp) (by simp [go_sem])
   have t1 : w3.cell? ⟨w2.heap.size, 1, none⟩ = some (.slice ao n cap) := oldc hb3 (by simp) (by simp [go_sem])
   have tf : ∀ o, w3.frozen? ⟨w2.heap.size, o, none⟩ = false := fun o => (hb3.frozen (p := ⟨w2.heap.size, o, none⟩) (by simp)).trans (by simp [go_sem])
   have hb23 : Below w2.heap.size w2 w3 := Below.after bwT hb3 (by simp)
   have r0 := oldc hb23 sw2 r0
   have r1 := oldc hb23 sw2 r1
   have rf : ∀ o, w3.frozen? ⟨w.heap.size, o, none⟩ = false := fun o => (hb23.frozen (p := ⟨w.heap.size, o, none⟩) sw2).trans (rf o)
   have s3 := hb3.size
   have sw3 : w2.heap.size < w3.heap.size := by simp at s3; omega
   have hB3 : Below w.heap.size w w3 := hB2.trans (hb23.mono hB2.size)
   clear hb3
   cases r
   ·have HX2 := Lib.hid (show isKin ((2, l) : Kin) = true ∧ l.length ≤ most from ⟨kin_ego hX.out.1 HR.out.symm, hX.out.2⟩)
    go_wp2
    refine bodyPost_ret (v := .agg #[.int .i64 2, .slice ao n cap]) (by simp [results, Tryz.results13, go_sem, *]) rfl ⟨_, (2, l), rfl, ?_, Lib.hid ⟨HX2.out.1, HX2.out.2, .inr rfl⟩, bwT⟩
    exact (((HS.out 2 (.inr (.inr rfl))).below hb23).keep zgT).mono (by omega) (by simp; omega)
   ·have HX2 := Lib.hid (show isKin ((1, l) : Kin) = true ∧ l.length ≤ most from ⟨HR.out.symm, hX.out.2⟩)
    go_wp2
    refine bodyPost_ret (v := .agg #[.int .i64 1, .slice ao n cap]) (by simp [results, Tryz.results13, go_sem, *]) rfl ⟨_, (1, l), rfl, ?_, Lib.hid ⟨HX2.out.1, HX2.out.2, .inl rfl⟩, bwT⟩
    exact (((HS.out 1 (.inr (.inl rfl))).below hb23).keep zgT).mono (by omega) (by simp; omega)
  ·have he2 : (e0 == 0) = false := by simpa using he
   have HX2 := Lib.hid (show isKin ((e0, l) : Kin) = true ∧ l.length ≤ most ∧ (e0 = 1 ∨ e0 = 2) from ⟨hX.out.1, hX.out.2, by have := (isKin_facts hX.out.1).1; dsimp only at this; omega⟩)
   clear he
   go_wp2
   refine bodyPost_ret (v := .agg #[.int .i64 e0, .slice ao n cap]) (by simp [results, Tryz.results13, go_sem, *]) rfl ⟨_, (e0, l), rfl, ?_, HX2, bwT⟩
   exact ((HS.out e0 (.inl rfl)).keep zgT).mono (by omega) (by simp)
end Go.Proofs.YtdpkldapobbnpaaGreatDoor
