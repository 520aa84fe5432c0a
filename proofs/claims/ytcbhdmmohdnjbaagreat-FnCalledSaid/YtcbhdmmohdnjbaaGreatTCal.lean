/- Contracts: TypesCalled of both programs. Written by tc_gen.py. -/
import Derived.Test.YtcbhdmmohdnjbaaGreatTrmC
namespace Go.Proofs.YtcbhdmmohdnjbaaGreat
set_option linter.unusedVariables false
set_option linter.unusedSimpArgs false
open Go.RowKit
set_option maxHeartbeats 100000000
def calAt (x : ByteArray) (e : Ent) : Option Kin := if e.2 = x then some e.1 else none
def calX (y : Trm) (ego n : Int) (x : ByteArray) : List Kin := (tblX y ego n).filterMap (calAt x)
theorem calAt_none {x : ByteArray} {e : Ent} (h : ¬ e.2 = x) : calAt x e = none := if_neg h
theorem calAt_some {x : ByteArray} {e : Ent} (h : e.2 = x) : calAt x e = some e.1 := if_pos h
theorem tblX_len (y : Trm) (ego n : Int) : (tblX y ego n).length ≤ 600 := by
 unfold tblX
 split
 ·have h1 := List.length_filterMap_le (entAt y) (typesX ego n)
  have h2 := typesX_len ego n
  unfold tblL
  omega
 ·simp
set_option maxRecDepth 20000 in
theorem typesCalledS_any {z : Bool} {lo hi : Nat} (w : World) (y1 y2 : Value) (y : Trm) (h : Rd z lo hi w [y1, y2] y) (ego n : Int) (X : ByteArray) : Calls Tryz.prog 61 #[.agg #[y1, y2], .int .i64 ego, .int .i64 n, .string X] w (PostOw w (calX y ego n X)) := by
 obtain ⟨rs, es⟩ := y
 have HY := Hd h
 obtain ⟨hy1, hy2⟩ := h.two rfl
 dsimp only at hy1 hy2
 obtain ⟨ra, rn, rcap, rfl, -⟩ := hy1.shape
 obtain ⟨ea, en, ecap, rfl, -⟩ := hy2.shape
 clear h hy1 hy2
 go_enter Tryz.func61, Tryz.ntmps61
 go_wp2_with fail
 refine (termTableS_any _ _ _ (rs, es) (HY.out.below bwT) ego n).mono ?_
 rintro e2 w2 ⟨ut, rfl, ho, hbw2⟩
 have hpw2 : Below w.heap.size w w2 := Below.after bwT hbw2 szT
 have sw2 := hpw2.size
 have hBw2 : Below w.heap.size w w2 := hpw2
 have l_y : w.heap.size < w2.heap.size := by have := hbw2.size; simp at this; omega
 have q_y0 : w2.cell? ⟨w.heap.size, 0, none⟩ = some (.slice ra rn rcap) := oldc hbw2 ltT sgT
 have q_y1 : w2.cell? ⟨w.heap.size, 1, none⟩ = some (.slice ea en ecap) := oldc hbw2 ltT sgT
 clear hbw2 hpw2
 obtain ⟨T, hT⟩ : ∃ T, T = tblX (rs, es) ego n := ⟨_, rfl⟩
 rw [← hT] at ho
 (try simp only [World.size_alloc] at ho)
 have HF := Hd (show calX (rs, es) ego n X = T.filterMap (calAt X) by rw [hT]; rfl)
 obtain ⟨tao, tn, tcap, rfl, htn, htc, htm, -⟩ := ho.rd.shape
 subst htn
 obtain ⟨FPS, hF1, hF2, hF3, hF4⟩ := ho.items
 have HI := Hd hF4
 have HND := Hd hF2
 have HIN := Hd hF3
 have HLN := Hd hF1
 have hTL : T.length ≤ 600 := by rw [hT]; exact tblX_len _ ego n
 have hrd := Hd ho.rd
 obtain ⟨W0, hW0⟩ : ∃ W0 : World, W0 = w2 := ⟨_, rfl⟩
 subst hW0
 have hB0 : Below w.heap.size w W0 := hBw2
 have s0 := hB0.size
 clear hT hF1 hF2 hF3 hF4 ho q_y0 q_y1 l_y
 go_wp2
 go_loopw [9, 11, 18] (fun s9 _ sli wr => ∃ i : Nat, i ≤ T.length ∧ sli = .int .i64 i ∧ Hid (GZ W0.heap.size wr 68 s9 ((T.take i).filterMap (calAt X)) (FPS.take i)) ∧ Below W0.heap.size W0 wr) (fun _ _ sli _ => T.length - (intOf sli).toNat)
 case atStart => exact ⟨0, Nat.zero_le _, rfl, Hd (GZ.lit0 _ _ _ _), Below.refl _ _⟩
 case round =>
  obtain ⟨wb, hwb⟩ : ∃ wm : World, wm = wr := ⟨_, rfl⟩
  subst hwb
  obtain ⟨i, hi1, rfl, hG, hbb⟩ := hrel
  have sB := hbb.size
  have hBb : Below w.heap.size w wb := hB0.trans (hbb.mono s0)
  by_cases hli : i < T.length
  ·have hIi : (i : Int) < (T.length : Int) := by omega
   obtain ⟨tb, toff, te, tl, tm, vtl, rfl, ht, c0, c1, c2, hti, htmz, hvs, hrt0, -, -, tlt⟩ := hrd.out.dEnt_at hli
   obtain ⟨b, off, cs, fp, e, hf, hr, hcs⟩ := HI.out i _ ht.out
   simp only [Option.some.injEq, Addr.mk.injEq, and_true] at e
   obtain ⟨rfl, rfl⟩ := e
   obtain ⟨v', f', rfl, -, -, hr2, rfl⟩ := dEnt_inv hr
   obtain ⟨sao, sn, scap, rfl, hsn, -⟩ := (show Rd true 0 W0.heap.size W0 [v'] tl from ⟨_, hr2, fun b hb => ⟨Nat.zero_le _, Rep.lt hr2 b hb⟩⟩).shape
   subst hsn
   have k0 : wb.cell? ⟨tb, toff + i * 3, none⟩ = some (.int .i64 te) := oldc hbb tlt (by have := hcs 0 _ rfl; simpa [Rep.sz] using this)
   have k1 : wb.cell? ⟨tb, toff + i * 3 + 1, none⟩ = some (.slice sao tl.length scap) := oldc hbb tlt (by have := hcs 1 _ rfl; simpa [Rep.sz, Nat.add_assoc] using this)
   have k2 : wb.cell? ⟨tb, toff + i * 3 + 2, none⟩ = some (.string tm) := oldc hbb tlt (by have := hcs 2 _ rfl; simpa [Rep.sz, Nat.add_assoc] using this)
   have HTI := Hd hti
   have HR2 := Hd hr2
   have HS1 := Hd (take_snoc ht.out)
   have HS2 := Hd (take_snoc hf)
   have HB := Hd (show ∀ b ∈ f', b < W0.heap.size from fun b hb => Rep.lt hr2 b hb)
   have hbA : Below W0.heap.size W0 (wb.alloc (.cells #[.int .i64 te, .slice sao tl.length scap, .string tm] 70)) := hbb.alloc sB _
   have hGA := Hd (hG.out.alloc (.cells #[.int .i64 te, .slice sao tl.length scap, .string tm] 70))
   have hrA := Hd (Rep.keep hr2 (fun b hb => hbA.block b (Rep.lt hr2 b hb)))
   clear ht hf hr hcs hr2 hG c0 c1 c2 hti htmz hvs hrt0
   by_cases hq : tm = X
   ·have hq1 : (tm.toList == X.toList) = true := by rw [text_eq]; exact decide_eq_true hq
    have hfl : ((T.take i).filterMap (calAt X)).length ≤ 1000 := by
     have h1 := List.length_filterMap_le (calAt X) (T.take i)
     have h2 : (T.take i).length ≤ T.length := by rw [List.length_take]; omega
     omega
    have HFL := Hd hfl
    have HES := Hd (show calAt X ((te, tl), tm) = some (te, tl) from calAt_some hq)
    have hG2 := Hd (show GZ W0.heap.size ((wb.alloc (.cells #[.int .i64 te, .slice sao tl.length scap, .string tm] 70)).alloc (.cells #[.int .i64 te, .slice sao tl.length scap] 68)) 68 _ _ _ from hGA.out.alloc _)
    have hr3 := Hd (show Rep.rep true ((wb.alloc (.cells #[.int .i64 te, .slice sao tl.length scap, .string tm] 70)).alloc (.cells #[.int .i64 te, .slice sao tl.length scap] 68)) [.int .i64 te, .slice sao tl.length scap] ((te, tl) : Kin) f' from repKin_mk HTI.out (Rep.keep hrA.out (fun b hb => Below.heap_alloc _ _ _ (Rep.lt hrA.out b hb))))
    have sW1 : W0.heap.size ≤ ((wb.alloc (.cells #[.int .i64 te, .slice sao tl.length scap, .string tm] 70)).alloc (.cells #[.int .i64 te, .slice sao tl.length scap] 68)).heap.size := by simp; omega
    have hbbA : Below W0.heap.size W0 ((wb.alloc (.cells #[.int .i64 te, .slice sao tl.length scap, .string tm] 70)).alloc (.cells #[.int .i64 te, .slice sao tl.length scap] 68)) := hbA.alloc soT _
    clear hfl hq hGA hrA hbA
    go_wp2_with (at_builtin; refine wpList_push_subz rfl rfl slKin (by show (0 : Nat) < 2; omega) hG2.out rfl (ad := ⟨wb.heap.size + 1, 0, none⟩) rfl (cs := [.int .i64 te, .slice sao tl.length scap]) (y := (te, tl)) ?k4 hr3.out HB.out (by have := HFL.out; unfold maxLen; omega) (by have := HFL.out; omega) sW1 ?_)
    case k4 =>
     intro j c hj
     match j, hj with
     | 0, hj => simp at hj; subst hj; simp [Addr.add, go_sem]
     | 1, hj => simp at hj; subst hj; simp [Addr.add, go_sem]
    rintro v2 w2 hG3 hb2
    have HN := Hd hG3
    rw [← HS2.out, show (T.take i).filterMap (calAt X) ++ [(te, tl)] = (T.take (i + 1)).filterMap (calAt X) by rw [HS1.out, List.filterMap_append, List.filterMap_cons_some HES.out]; simp] at HN
    have hbb2 := hbbA.trans hb2
    clear hG3 hG2 HS1 HS2 hb2 HES
    go_wp2
    go_roundw
    case rel => exact ⟨i + 1, by omega, by go_num, HN, hbb2⟩
    case measure => simp [intOf]; omega
   ·have hq1 : (tm.toList == X.toList) = false := by rw [text_eq]; exact decide_eq_false hq
    have HN := Hd (hGA.out.skip f')
    rw [← HS2.out, show (T.take i).filterMap (calAt X) = (T.take (i + 1)).filterMap (calAt X) by rw [HS1.out, List.filterMap_append, List.filterMap_cons_none (calAt_none hq)]; simp] at HN
    clear HS1 HS2 hq hGA hrA
    go_wp2
    go_roundw
    case rel => exact ⟨i + 1, by omega, by go_num, HN, hbA⟩
    case measure => simp [intOf]; omega
  ·obtain rfl : i = T.length := by omega
   have nI : ¬ (T.length : Int) < (T.length : Int) := by omega
   have hG2 := hG.out
   rw [List.take_length, List.take_of_length_le (by rw [HLN.out]; exact Nat.le_refl _)] at hG2
   have HW := Hd (GZ.ow hG2 HND.out (l0 := w.heap.size) s0 (fun b hb => by have := HIN.out b hb; omega))
   clear hG hG2
   go_wp2
   go_ret
   exact ⟨_, rfl, by rw [HF.out]; exact HW.out, hBb⟩
end Go.Proofs.YtcbhdmmohdnjbaaGreat
