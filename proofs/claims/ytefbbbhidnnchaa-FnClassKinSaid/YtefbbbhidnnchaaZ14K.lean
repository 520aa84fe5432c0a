/- Texts laid one behind the other (merge.py): Set, FamI, MkfV, MkfS. -/
import Derived.Test.YtefbbbhidnnchaaZ14A
import Derived.Maps.Own
import Derived.Maps.OwnOps
import Derived.Maps.Views
import Derived.Test.YtefbbbhidnnchaaZ14F
import Derived.Test.YtefbbbhidnnchaaZ14J
import Derived.Test.YtefbbbhidnnchaaDepI
import Derived.Test.YtefbbbhidnnchaaUniI
import Derived.Carry
import Derived.Lib.MinMax
namespace Go.Proofs.Ytefbbbhidnnchaa
set_option linter.unusedVariables false
set_option linter.unusedSimpArgs false
open Go.RowKit

/-! ### Set -/
section
open Go.RowKit Go.Maps Go.WideMaps Go.ChangeMaps Go.WideElems

def setD : List ByteArray → DataW Unit
  | [] => .map []
  | s :: r => (setD r).put (.string s.data.toList) (.lit (.bool true))
theorem setD_map : ∀ l : List ByteArray, IsMap (setD l)
  | [] => isMap_empty
  | s :: r => (setD_map r).put _ _
theorem setD_at (s : ByteArray) : ∀ l : List ByteArray, (setD l).atKey (.string s.data.toList) (.lit (.bool false)) = .lit (.bool (decide (s ∈ l)))
  | [] => rfl
  | t :: r => by
    rw [setD]
    by_cases e : s = t
    · subst e
      rw [atKey_put_same (setD_map r) (by trivial)]; simp
    · rw [atKey_put_other (fun h => e (by
        simp only [Lit.string.injEq] at h
        exact ByteArray.ext (Array.toList_inj.1 h))), setD_at s r]
      simp [e]

def SetOk (P : Program) (sT bT : TypeId) (w : World) (b : Nat) (l : List ByteArray) : Prop := w.ownsMap P sT (plainElem (H := Unit) P bT) b l.length (setD l)
section
variable {P : Program} {sT bT : TypeId} {w w' : World} {b : Nat} {l : List ByteArray}
theorem SetOk.made (w : World) : SetOk P sT bT (w.alloc (.map #[] 0)) w.heap.size [] := World.ownsMap_made _ _ _ _
theorem SetOk.lt (h : SetOk P sT bT w b l) : b < w.heap.size := World.ownsMap.lt h
theorem SetOk.keep (h : SetOk P sT bT w b l) (k : w'.heap[b]? = w.heap[b]?) : SetOk P sT bT w' b l := by
  obtain ⟨es, clock, hb, F, hs, hD⟩ := h
  exact ⟨es, clock, k.trans hb, F, hs, hD⟩
theorem SetOk.below (h : SetOk P sT bT w b l) (hb : Below w.heap.size w w') : SetOk P sT bT w' b l := h.keep (hb.block b h.lt)
theorem SetOk.alloc (h : SetOk P sT bT w b l) (o : Obj) : SetOk P sT bT (w.alloc o) b l := h.below ((Below.refl _ _).alloc (Nat.le_refl _) o)

theorem wpList_update_set {ops : Array Oper} {rest : List Oper} {o : Oper} {a : Act} {Q : Exit → Act → World → Prop}
    (hg : o.guard = none) {m x v : Operand} {t : TypeId} (hop : o.op = Op.mapUpdate t m x v) (ht : P.underlying t = some (.map sT bT)) (hs : P.underlying sT = some .string) (hbT : P.underlying bT = some .bool)
    (hm : a.eval m = .map (some b)) (hown : SetOk P sT bT w b l) (hn : l.length < maxLen) {s : ByteArray} (hl : s.size ≤ maxLen) (hx : a.eval x = .string s) (hv : a.eval v = .bool true)
    (hK : ∀ w', SetOk P sT bT w' b (s :: l) → w.grownBy w' (some b) → wpList P ops Q rest (a.put o.dst undef) w') : wpList P ops Q (o :: rest) a w :=
  wpList_mapUpdate_own w hg m x v t hop sT bT (string_keyed hs) ht _ b l.length _ hm hown hn _ _ _ hx hv (keyOf_string_mk hs hl) _ [] (plainElem_bool hbT true) hK
end

end

/-! ### FamI -/
section
open Go.RowKit Go.Maps Go.WideMaps Go.ChangeMaps Go.WideElems

theorem SetOk.look {P : Program} {sT bT : TypeId} {w : World} {b : Nat} {l : List ByteArray} (hown : SetOk P sT bT w b l) {t : TypeId} (ht : P.underlying t = some (.map sT bT)) (hs : P.underlying sT = some .string) (hbT : P.underlying bT = some .bool) (hz : (zeroValue bT).run P w = .ok (.bool false) w) {s : ByteArray} (hl : s.size ≤ maxLen) :
    (Instr.lookup t (.map (some b)) (.string s) false).run P w = .ok (.bool (decide (s ∈ l))) w := by
  obtain ⟨v, ps, hrun, hv⟩ := World.ownsMap.lookup hown (string_keyed hs) ht hz (plainElem_bool hbT false) (keyOf_string_mk hs hl)
  rw [setD_at] at hv
  have hv' : v = .bool (decide (s ∈ l)) := by
    unfold plainElem at hv
    rw [hbT] at hv
    cases v <;> simp at hv
    rename_i y
    rw [hv.1]
  rw [hrun, hv']
theorem grownc {w w' : World} {row : Option Nat} {b o : Nat} {v : Value} (hg : w.grownBy w' row) (hb : b < w.heap.size) (hne : some b ≠ row) (hv : w.cell? ⟨b, o, none⟩ = some v) : w'.cell? ⟨b, o, none⟩ = some v :=
  (World.cell?_of_block (w := w) (a := ⟨b, o, none⟩) (hg.block b hb hne)).trans hv

set_option maxRecDepth 20000 in
set_option maxHeartbeats 4000000 in
theorem isFamI_b {z : Bool} {lo hi : Nat} (w : World) (v v2 : Value) (f : Fam) (h : Rd z lo hi w [v, v2] f) (r : Bool) (hr : r = famB f) :
    Calls Try.prog 29 #[.agg #[v, v2]] w (PostB w r) := by
  obtain ⟨ha, hb⟩ := h.fam
  obtain ⟨ao, n, cap, rfl, hn, hnc, hcm, hnone⟩ := ha.shape
  obtain ⟨bo, n2, dap, rfl, hn2, hnc', hcm', hnone'⟩ := hb.shape
  subst hn hn2
  unfold maxLen at *
  have HR := Lib.hid hr
  clear hr h
  by_cases h1 : f.1.length ≤ 40
  rotate_left
  · have HX := Lib.hid (show false = r by rw [HR.out]; unfold famB; simp [h1])
    have h1' : (40 : Int) < (f.1.length : Int) := by omega
    clear ha hb
    go_enter Try.func29, Try.ntmps29
    go_wp2
    go_ret
    exact ⟨ret_bool HX.out, bwT⟩
  have h1' : ¬ (40 : Int) < (f.1.length : Int) := by omega
  by_cases h2 : f.2.length ≤ 60
  rotate_left
  · have HX := Lib.hid (show false = r by rw [HR.out]; unfold famB; simp [h2])
    have h2' : (60 : Int) < (f.2.length : Int) := by omega
    clear ha hb
    go_enter Try.func29, Try.ntmps29
    go_wp2
    go_ret
    exact ⟨ret_bool HX.out, bwT⟩
  have h2' : ¬ (60 : Int) < (f.2.length : Int) := by omega
  have hmm := @run_makeMap Try.prog
  go_enter Try.func29, Try.ntmps29
  go_wp2
  go_loopw [4, 5, 23] (fun _ _ s23 wr => ∃ k : Nat, k ≤ f.1.length ∧ s23 = .int .i64 k ∧ Hid (PplTo f.1 k) ∧ SetOk Try.prog 9 4 wr (w.heap.size + 1) ((f.1.take k).map (·.1)).reverse ∧ Below (w.heap.size + 1) (w.alloc (.cells #[.slice ao f.1.length cap, .slice bo f.2.length dap] 26)) wr) (fun _ _ s23 _ => f.1.length - (intOf s23).toNat)
  case atStart => exact ⟨0, Nat.zero_le _, rfl, Lib.hid (fun i hi => absurd hi (by omega)), (by have := SetOk.made (P := Try.prog) (sT := 9) (bT := 4) (w.alloc (.cells #[.slice ao f.1.length cap, .slice bo f.2.length dap] 26)); simpa using this), bwT⟩
  case round =>
    rename_i wr
    obtain ⟨k, hk, rfl, hP, hset, hbb⟩ := hrel
    have sW := hbb.size
    simp only [World.size_alloc] at sW
    have hbw : Below w.heap.size w wr := Below.trans ((Below.refl _ _).alloc (Nat.le_refl _) _) (hbb.mono (by omega))
    have q_f0 : wr.cell? ⟨w.heap.size, 0, none⟩ = some (.slice ao f.1.length cap) := oldc hbb (by omega) (by simp [go_sem])
    have q_f1 : wr.cell? ⟨w.heap.size, 1, none⟩ = some (.slice bo f.2.length dap) := oldc hbb (by omega) (by simp [go_sem])
    have hml := hset.lt
    by_cases hlt : k < f.1.length
    · have hI : (k : Int) < (f.1.length : Int) := by omega
      obtain ⟨pb, poff, nm, sx, fa, mo, bn, di, rfl, hx, p0, p1, p2, p3, p4, p5, g0, g1, g2, g3, g4, g5, -, -, hbl, -⟩ := (ha.below hbw).per_at hlt
      have hR := ha
      obtain ⟨r1, hlet_r1⟩ : ∃ r, r = nameOk nm := ⟨_, rfl⟩
      have H1 := Lib.hid hlet_r1
      clear hlet_r1
      obtain ⟨dup, hlet_dup⟩ : ∃ r, r = decide (nm ∈ ((f.1.take k).map (·.1)).reverse) := ⟨_, rfl⟩
      have H5 := Lib.hid hlet_dup
      clear hlet_dup
      obtain ⟨r6, hlet_r6⟩ : ∃ r, r = upOk f.1 k bn fa 1 1 := ⟨_, rfl⟩
      have H6 := Lib.hid hlet_r6
      clear hlet_r6
      obtain ⟨r7, hlet_r7⟩ : ∃ r, r = upOk f.1 k bn mo 2 0 := ⟨_, rfl⟩
      have H7 := Lib.hid hlet_r7
      clear hlet_r7
      have HQ := Lib.hid (show perOk f.1 k = (r1 && (decide (sx = 1 ∨ sx = 2) && (decide (0 ≤ bn ∧ bn ≤ 9999) && (decide (di = -1 ∨ (bn ≤ di ∧ di ≤ 9999)) && (!dup && (r6 && r7)))))) by
        rw [perOk_at hx.out, perC, H1.out, H5.out, H6.out, H7.out]; simp)
      have HFalse := Lib.hid (show perOk f.1 k = false → false = r by intro e; rw [HR.out, famB_ppl hlt e])
      have HL := Lib.hid (show ((f.1.take (k + 1)).map (·.1)).reverse = nm :: ((f.1.take k).map (·.1)).reverse by rw [take_snoc hx.out]; simp)
      have hxo := Lib.hid hx.out
      have hll : (((f.1.take k).map (·.1)).reverse).length ≤ 40 := by simp; omega
      obtain ⟨L, hLe⟩ : ∃ L, L = ((f.1.take k).map (·.1)).reverse := ⟨_, rfl⟩
      rw [← hLe] at hset H5 HL hll
      clear hx hLe HR
      obtain ⟨wo, hwo⟩ : ∃ W : World, W = wr := ⟨_, rfl⟩
      subst hwo
      go_wp2_with fail
      refine (isNameI_b _ nm g0 r1 H1.out).mono ?_
      rintro e w1 ⟨rfl, hb1⟩
      have s1 := hb1.size
      simp only [World.size_alloc, World.size_setCell] at s1
      have hset1 : SetOk Try.prog 9 4 w1 (w.heap.size + 1) L := hset.below (Below.after bwT hb1 (by first | omega | (simp; omega) | simp))
      have hB1 : Below (w.heap.size + 1) (w.alloc (.cells #[.slice (some ⟨pb, poff, none⟩) f.1.length cap, .slice bo f.2.length dap] 26)) w1 := Below.after (Below.trans hbb (by have h9 : Below (w.heap.size + 1) wo wo := Below.refl _ _; exact bwT)) hb1 (by first | omega | (simp; omega) | simp)
      have hB1w : Below w.heap.size w w1 := Below.trans ((Below.refl _ _).alloc (Nat.le_refl _) _) (hB1.mono (by omega))
      have q_f0 : w1.cell? ⟨w.heap.size, 0, none⟩ = some (.slice (some ⟨pb, poff, none⟩) f.1.length cap) := oldc hB1 (by omega) (by simp [go_sem])
      have q_f1 : w1.cell? ⟨w.heap.size, 1, none⟩ = some (.slice bo f.2.length dap) := oldc hB1 (by omega) (by simp [go_sem])
      have q_p0 : w1.cell? ⟨wo.heap.size, 0, none⟩ = some (.string nm) := oldc hb1 ltT (by simp [go_sem])
      have q_p1 : w1.cell? ⟨wo.heap.size, 1, none⟩ = some (.int .i64 sx) := oldc hb1 ltT (by simp [go_sem])
      have q_p2 : w1.cell? ⟨wo.heap.size, 2, none⟩ = some (.int .i64 fa) := oldc hb1 ltT (by simp [go_sem])
      have q_p3 : w1.cell? ⟨wo.heap.size, 3, none⟩ = some (.int .i64 mo) := oldc hb1 ltT (by simp [go_sem])
      have q_p4 : w1.cell? ⟨wo.heap.size, 4, none⟩ = some (.int .i64 bn) := oldc hb1 ltT (by simp [go_sem])
      have q_p5 : w1.cell? ⟨wo.heap.size, 5, none⟩ = some (.int .i64 di) := oldc hb1 ltT (by simp [go_sem])
      have l_p : wo.heap.size < w1.heap.size := by omega
      have l_f : w.heap.size < w1.heap.size := by omega
      have hpm : ¬ wo.heap.size = w.heap.size + 1 := by omega
      clear hb1 p0 p1 p2 p3 p4 p5 hset
      cases r1
      · have HX := Lib.hid (HFalse.out (by rw [HQ.out]; rfl))
        go_wp2
        go_ret
        exact ⟨ret_bool HX.out, hB1w⟩
      have hrun := hset1.look Try.underlying93 Try.underlying9 Try.underlying4 (by kernel_rfl) g0
      rw [← H5.out] at hrun
      cases dup
      rotate_left
      · have HX := Lib.hid (HFalse.out (by rw [HQ.out]; simp))
        go_wp2
        go_ret
        exact ⟨ret_bool HX.out, hB1w⟩
      have b1 : (sx != 1) = !decide (sx = 1) := rfl
      have b2 : (sx != 2) = !decide (sx = 2) := rfl
      have b3 : (di != -1) = !decide (di = -1) := rfl
      by_cases hC : (sx = 1 ∨ sx = 2) ∧ (0 ≤ bn ∧ bn ≤ 9999) ∧ (di = -1 ∨ (bn ≤ di ∧ di ≤ 9999))
      rotate_left
      · have HX := Lib.hid (HFalse.out (by
          rw [HQ.out]
          cases hh : (decide (sx = 1 ∨ sx = 2) && (decide (0 ≤ bn ∧ bn ≤ 9999) && decide (di = -1 ∨ (bn ≤ di ∧ di ≤ 9999))))
          · revert hh
            cases decide (sx = 1 ∨ sx = 2) <;> cases decide (0 ≤ bn ∧ bn ≤ 9999) <;> cases decide (di = -1 ∨ (bn ≤ di ∧ di ≤ 9999)) <;> intro hh <;> first | rfl | cases hh
          · simp only [Bool.and_eq_true, decide_eq_true_eq] at hh
            exact absurd hh hC))
        clear HQ HFalse hP hR ha hb
        by_cases e1 : sx = 1
        all_goals by_cases e2 : sx = 2
        all_goals by_cases e3 : di = -1
        all_goals simp only [e1, e2, e3, decide_true, decide_false, Bool.not_true, Bool.not_false] at b1 b2 b3
        all_goals try (exfalso; omega)
        all_goals go_wp2
        all_goals first
          | (exfalso; omega)
          | (go_ret; exact ⟨ret_bool HX.out, hB1w⟩)
      have HQ2 := Lib.hid (show perOk f.1 k = (r6 && r7) by rw [HQ.out]; simp [hC.1, hC.2.1, hC.2.2])
      clear HQ
      by_cases e1 : sx = 1
      all_goals by_cases e3 : di = -1
      all_goals have e2 : sx = 1 ∨ sx = 2 := hC.1
      all_goals simp only [e1, e3, decide_true, decide_false, Bool.not_true, Bool.not_false] at b1 b3
      all_goals
        have b2' : sx = 1 ∨ (sx != 2) = false := by
          rcases hC.1 with e | e
          · exact .inl e
          · exact .inr (by rw [b2]; simp [e])
        go_wp2_with (at_mapUpdate; refine wpList_update_set rfl rfl Try.underlying93 Try.underlying9 Try.underlying4 rfl hset1 (by unfold maxLen; omega) g0 rfl rfl ?_)
        all_goals try (exfalso; omega)
        intro w2 hset2 hgr
        rw [← HL.out] at hset2
        have s2 := hgr.size
        have q_f0 := grownc hgr l_f (by first | (simp; done) | (simp; omega)) q_f0
        have q_f1 := grownc hgr l_f (by first | (simp; done) | (simp; omega)) q_f1
        have q_p2 := grownc hgr l_p (by first | (simp; done) | (simp; omega)) q_p2
        have q_p3 := grownc hgr l_p (by first | (simp; done) | (simp; omega)) q_p3
        have hB2 : Below (w.heap.size + 1) (w.alloc (.cells #[.slice (some ⟨pb, poff, none⟩) f.1.length cap, .slice bo f.2.length dap] 26)) w2 := Below.grown hB1 hgr (by omega) (fun j hj => by simp at hj; omega)
        have hB2w : Below w.heap.size w w2 := Below.trans ((Below.refl _ _).alloc (Nat.le_refl _) _) (hB2.mono (by omega))
        have l_f := Nat.lt_of_lt_of_le l_f s2
        have l_p := Nat.lt_of_lt_of_le l_p s2
        clear hrun hset1 hgr hB1 hB1w
        go_wp2_with fail
        refine (parI_b _ _ f.1 (hR.below bwT) k hP.out hxo.out fa 1 1 (by omega) (by omega) r6 H6.out).mono ?_
        rintro e w3 ⟨rfl, hb3⟩
        have s3 := hb3.size
        have hset3 := hset2.below hb3
        have hB3 : Below (w.heap.size + 1) (w.alloc (.cells #[.slice (some ⟨pb, poff, none⟩) f.1.length cap, .slice bo f.2.length dap] 26)) w3 := Below.trans hB2 (hb3.mono (by omega))
        have hB3w : Below w.heap.size w w3 := Below.trans ((Below.refl _ _).alloc (Nat.le_refl _) _) (hB3.mono (by omega))
        have q_f0 := oldc hb3 l_f q_f0
        have q_p3 := oldc hb3 l_p q_p3
        clear hset2 hB2 hB2w hb3
        cases r6
        · have HX := Lib.hid (HFalse.out (by rw [HQ2.out]; rfl))
          go_wp2
          go_ret
          exact ⟨ret_bool HX.out, hB3w⟩
        go_wp2_with fail
        refine (parI_b _ _ f.1 (hR.below bwT) k hP.out hxo.out mo 2 0 (by omega) (by omega) r7 H7.out).mono ?_
        rintro e w4 ⟨rfl, hb4⟩
        have hset4 := hset3.below hb4
        have hB4 : Below (w.heap.size + 1) (w.alloc (.cells #[.slice (some ⟨pb, poff, none⟩) f.1.length cap, .slice bo f.2.length dap] 26)) w4 := Below.trans hB3 (hb4.mono (by omega))
        have hB4w : Below w.heap.size w w4 := Below.trans ((Below.refl _ _).alloc (Nat.le_refl _) _) (hB4.mono (by omega))
        clear hset3 hB3 hB3w hb4
        cases r7
        · have HX := Lib.hid (HFalse.out (by rw [HQ2.out]; rfl))
          go_wp2
          go_ret
          exact ⟨ret_bool HX.out, hB4w⟩
        · have HN := Lib.hid (hP.out.snoc (by rw [HQ2.out]; rfl))
          clear hP HQ2 HFalse
          go_wp2
          go_roundw
          case rel => exact ⟨k + 1, by omega, by go_num, HN, hset4, hB4⟩
          case measure => simp [intOf]; omega
    · obtain rfl : k = f.1.length := by omega
      obtain ⟨W0, hW0⟩ : ∃ W : World, W = wr := ⟨_, rfl⟩
      subst hW0
      have l_f : w.heap.size < W0.heap.size := by omega
      go_wp2_with fail
      refine (depI_any _ _ f.1 (ha.below bwT) hP.out h1).mono ?_
      rintro e w2 ⟨u, rfl, hod, hb2⟩
      have s2 := hb2.size
      have q_f0 := oldc hb2 l_f q_f0
      have q_f1 := oldc hb2 l_f q_f1
      have l_f := Nat.lt_of_lt_of_le l_f s2
      have hB2 : Below w.heap.size w w2 := Below.after hbw hb2 hbw.size
      have hdl := deps_len f.1
      obtain ⟨D, hD⟩ : ∃ D, D = deps f.1 := ⟨_, rfl⟩
      rw [← hD] at hod hdl
      have HDp := Lib.hid (show depOk f.1 = (D.drop 0).all fun d => decide (d ≤ 10) by rw [hD]; rfl)
      clear hD hbb hb2 hset
      obtain ⟨dao, dn, dcap, rfl, rfl, -, hdcm, -⟩ := hod.rd.shape
      unfold maxLen at hdcm
      have hdI : (D.length : Int) = (f.1.length : Int) := by omega
      go_wp2
      go_loopw [7, 99] (fun _ s31 wr => ∃ k : Nat, k ≤ D.length ∧ s31 = .int .i64 k ∧ Hid (depOk f.1 = (D.drop k).all fun d => decide (d ≤ 10)) ∧ Below w2.heap.size w2 wr) (fun _ s31 _ => D.length - (intOf s31).toNat)
      case atStart => exact ⟨0, Nat.zero_le _, rfl, HDp, Below.refl _ _⟩
      case round =>
        clear HDp
        obtain ⟨k, hkd, rfl, hd, hb3⟩ := hrel
        have hB3 : Below w.heap.size w wr := Below.trans hB2 (hb3.mono hB2.size)
        by_cases hltd : k < D.length
        · obtain ⟨db, doff, d, rfl, hx, hc, hd1, hd2, _⟩ := (hod.rd.below hb3).int_at hltd
          have hI2 : (k : Int) < (D.length : Int) := by omega
          have HS := Lib.hid (deps_step hx.out)
          clear hx
          by_cases h10 : d ≤ 10
          · have h10' : ¬ 10 < d := by omega
            have HN := Lib.hid (show depOk f.1 = (D.drop (k + 1)).all fun d => decide (d ≤ 10) by rw [hd.out, HS.out]; simp [h10])
            clear hd HS
            go_wp2
            go_roundw
            case rel => exact ⟨k + 1, by omega, by go_num, HN, hb3⟩
            case measure => simp [intOf]; omega
          · have h10' : 10 < d := by omega
            have HX := Lib.hid (show false = r by rw [HR.out, famB_dep (by rw [hd.out, HS.out]; simp [h10])])
            clear hd HS
            go_wp2
            go_ret
            exact ⟨ret_bool HX.out, hB3⟩
        · have HD := Lib.hid (show depOk f.1 = true by rw [hd.out, List.drop_eq_nil_of_le (by omega)]; rfl)
          have hI2 : ¬ (k : Int) < (D.length : Int) := by omega
          have q_f0 := oldc hb3 l_f q_f0
          have q_f1 := oldc hb3 l_f q_f1
          have l_f := Nat.lt_of_lt_of_le l_f hb3.size
          obtain ⟨W3, hW3⟩ : ∃ W : World, W = wr := ⟨_, rfl⟩
          subst hW3
          clear hd hod
          go_wp2
          go_loopw [8, 109] (fun _ s41 wr => ∃ k : Nat, k ≤ f.2.length ∧ s41 = .int .i64 k ∧ Hid (∀ i, i < k → uniOk f i = true) ∧ Below W3.heap.size W3 wr) (fun _ s41 _ => f.2.length - (intOf s41).toNat)
          case atStart => exact ⟨0, Nat.zero_le _, rfl, Lib.hid (fun i hi => absurd hi (by omega)), Below.refl _ _⟩
          case round =>
            obtain ⟨k, hku, rfl, hU, hb4⟩ := hrel
            have hB4 : Below w.heap.size w wr := Below.trans hB3 (hb4.mono hB3.size)
            have q_f0 := oldc hb4 l_f q_f0
            have q_f1 := oldc hb4 l_f q_f1
            by_cases hltu : k < f.2.length
            · have hI3 : (k : Int) < (f.2.length : Int) := by omega
              obtain ⟨r5, hlet_r5⟩ : ∃ r, r = uniOk f k := ⟨_, rfl⟩
              have H5 := Lib.hid hlet_r5
              clear hlet_r5
              go_wp2_with fail
              refine (uniI_b _ _ _ f (ha.below bwT) (hb.below bwT) h1 hP.out k hltu h2 r5 H5.out).mono ?_
              rintro e w5 ⟨rfl, hb5⟩
              have hb45 : Below W3.heap.size W3 w5 := Below.after hb4 hb5 hb4.size
              have hB5 : Below w.heap.size w w5 := Below.after hB4 hb5 hB4.size
              cases r5
              · have HX := Lib.hid (show false = r by rw [HR.out, famB_uni hltu H5.out.symm])
                go_wp2
                go_ret
                exact ⟨ret_bool HX.out, hB5⟩
              · have HN := Lib.hid (show ∀ i, i < k + 1 → uniOk f i = true by
                  intro i hi
                  by_cases e : i = k
                  · subst e; exact H5.out.symm
                  · exact hU.out i (by omega))
                clear hU
                go_wp2
                go_roundw
                case rel => exact ⟨k + 1, by omega, by go_num, HN, hb45⟩
                case measure => simp [intOf]; omega
            · have HX := Lib.hid (show true = r by rw [HR.out, famB_true h1 h2 hP.out HD.out (fun i hi => hU.out i (by omega))])
              have hI3 : ¬ (k : Int) < (f.2.length : Int) := by omega
              clear hU
              go_wp2
              go_ret
              exact ⟨ret_bool HX.out, hB4⟩

end

/-! ### MkfV -/
section

def PostCp (f : Fam) (w : World) (e : Ending) (w' : World) : Prop := ∃ (a b : Value) (mid : Nat), e = .returned (.agg #[a, b]) ∧ GL true w.heap.size w.heap.size mid w' 56 a f.1 ∧ mid ≤ w'.heap.size ∧ w.heap.size ≤ mid ∧ GL true mid mid w'.heap.size w' 65 b f.2 ∧ Below w.heap.size w w'
theorem GL.loz {α : Type} [Rep α] {nd : Bool} {lo lo' lo2 hi : Nat} {w : World} {E : TypeId} {v : Value} {xs : List α} (h : GL nd lo lo' hi w E v xs) (k : lo2 ≤ lo) (k' : lo2 ≤ lo') : GL nd lo2 lo2 hi w E v xs := by
  obtain ⟨css, fps, ho, hz, hf, hg, hn⟩ := h
  refine ⟨css, fps, ⟨ho.1, ?_⟩, hz, fun b hb => ⟨by have := (hf b hb).1; omega, (hf b hb).2⟩, hg, hn⟩
  rcases ho.2 with h | ⟨g, cap, cur, rfl, hb, r⟩
  · exact .inl h
  · exact .inr ⟨g, cap, cur, rfl, by omega, r⟩
set_option maxRecDepth 20000 in
set_option maxHeartbeats 8000000 in
theorem l1Copy_any {z : Bool} {lo hi : Nat} (w : World) (v v2 : Value) (f : Fam) (h : Rd z lo hi w [v, v2] f) (h1 : f.1.length ≤ 40) (h2 : f.2.length ≤ 60) :
    Calls Try.prog 111 #[.agg #[v, v2]] w (PostCp f w) := by
  obtain ⟨ha, hb⟩ := h.fam
  obtain ⟨ao, n, cap, rfl, hn, -⟩ := ha.shape
  obtain ⟨bo, m, dap, rfl, hm, -⟩ := hb.shape
  subst hn
  subst hm
  have HA := Lib.hid ha
  have HB := Lib.hid hb
  obtain ⟨W0, hW0⟩ : ∃ W0, W0 = (((w.alloc (.cells #[.slice ao f.1.length cap, .slice bo f.2.length dap] 26)).alloc (.cells #[.slice none 0 0, .slice none 0 0] 26)).alloc (.cells #[.slice none 0 0, .slice none 0 0] 26)) := ⟨_, rfl⟩
  have hb0 : Below w.heap.size w W0 := by rw [hW0]; exact bwT
  have s0 : w.heap.size + 3 ≤ W0.heap.size := by rw [hW0]; simp
  have k1 : Below (w.heap.size + 1) (w.alloc (.cells #[.slice ao f.1.length cap, .slice bo f.2.length dap] 26)) W0 := by rw [hW0]; exact bwT
  have k2 : Below (w.heap.size + 2) ((w.alloc (.cells #[.slice ao f.1.length cap, .slice bo f.2.length dap] 26)).alloc (.cells #[.slice none 0 0, .slice none 0 0] 26)) W0 := by rw [hW0]; exact bwT
  have p0 : W0.cell? ⟨w.heap.size, 0, none⟩ = some (.slice ao f.1.length cap) := oldc k1 (Nat.lt_succ_self _) (by simp [go_sem])
  have p1 : W0.cell? ⟨w.heap.size, 1, none⟩ = some (.slice bo f.2.length dap) := oldc k1 (Nat.lt_succ_self _) (by simp [go_sem])
  have r0 : W0.cell? ⟨w.heap.size + 1, 0, none⟩ = some (.slice none 0 0) := oldc k2 (Nat.lt_succ_self _) (by simp [go_sem])
  have r1 : W0.cell? ⟨w.heap.size + 1, 1, none⟩ = some (.slice none 0 0) := oldc k2 (Nat.lt_succ_self _) (by simp [go_sem])
  have rf : ∀ o, W0.frozen? ⟨w.heap.size + 1, o, none⟩ = false := fun o => (k2.frozen (p := ⟨w.heap.size + 1, o, none⟩) (Nat.lt_succ_self _)).trans (by simp [go_sem])
  have f0 : W0.cell? ⟨w.heap.size + 2, 0, none⟩ = some (.slice none 0 0) := by rw [hW0]; simp [go_sem]
  have f1 : W0.cell? ⟨w.heap.size + 2, 1, none⟩ = some (.slice none 0 0) := by rw [hW0]; simp [go_sem]
  have ff : ∀ o, W0.frozen? ⟨w.heap.size + 2, o, none⟩ = false := fun o => by rw [hW0]; simp [go_sem]
  clear h ha hb k1 k2
  go_enter Try.func111, Try.ntmps111
  go_upto_region 2 with fail
  rw [← hW0]
  clear hW0
  go_wp2_with (at_builtin; refine wpList_spread_flat rfl rfl slPerson (by show (0 : Nat) < 6; omega) (GL.start true (w.heap.size + 3) (w.heap.size + 3) W0.heap.size W0 _) rfl rfl (HA.out.below hb0) (by unfold maxLen; simp; omega) (by simp; omega) s0 ?_)
  intro va w1 hG1 _ hb1
  obtain ⟨aa, acap, rfl, -, -⟩ := hG1.len
  have s1 := hb1.size
  have HG1 := Lib.hid hG1
  have hBw1 : Below w.heap.size w w1 := hb0.trans (hb1.mono (by omega))
  have p0 := oldc hb1 (by omega) p0
  have p1 := oldc hb1 (by omega) p1
  have r0 := oldc hb1 (by omega) r0
  have r1 := oldc hb1 (by omega) r1
  have rf : ∀ o, w1.frozen? ⟨w.heap.size + 1, o, none⟩ = false := fun o => (hb1.frozen (p := ⟨w.heap.size + 1, o, none⟩) (by show w.heap.size + 1 < _; omega)).trans (rf o)
  have f0 := oldc hb1 (by omega) f0
  have f1 := oldc hb1 (by omega) f1
  have ff : ∀ o, w1.frozen? ⟨w.heap.size + 2, o, none⟩ = false := fun o => (hb1.frozen (p := ⟨w.heap.size + 2, o, none⟩) (by show w.heap.size + 2 < _; omega)).trans (ff o)
  obtain ⟨W1, hW1⟩ : ∃ W, W = w1.setCell ⟨w.heap.size + 2, 0, none⟩ (.slice aa f.1.length acap) := ⟨_, rfl⟩
  have kk : ∀ b, b ≠ w.heap.size + 2 → W1.heap[b]? = w1.heap[b]? := by rw [hW1]; exact keep_set
  have s1' : w1.heap.size = W1.heap.size := by rw [hW1]; simp
  have hBW1 : Below w.heap.size w W1 := by rw [hW1]; exact bwT
  have HG1 := Lib.hid (show GL true (w.heap.size + 3) (w.heap.size + 3) w1.heap.size W1 56 (.slice aa f.1.length acap) f.1 from HG1.out.keep (fun b h1 h2 => kk b (by omega)) (fun b h1 h2 => kk b (by omega)))
  have p0 := cell_far (kk _ (by omega)) p0
  have p1 := cell_far (kk _ (by omega)) p1
  have r0 := cell_far (kk _ (by omega)) r0
  have r1 := cell_far (kk _ (by omega)) r1
  have rf := frz_far (kk _ (by omega)) rf
  have g0 : W1.cell? ⟨w.heap.size + 2, 0, none⟩ = some (.slice aa f.1.length acap) := by rw [hW1]; exact cell_here f0
  have g1 : W1.cell? ⟨w.heap.size + 2, 1, none⟩ = some (.slice none 0 0) := by rw [hW1]; exact cell_there f1 (by omega)
  have gf : ∀ o, W1.frozen? ⟨w.heap.size + 2, o, none⟩ = false := fun o => by rw [hW1]; exact frozen_setCell _ _ _ _ _ (ff o)
  have hs1 : w.heap.size + 3 ≤ W1.heap.size := by omega
  have hs2 : w1.heap.size ≤ W1.heap.size := by omega
  go_upto_region 3 with fail
  rw [← hW1]
  clear hW1 s1' f0 f1 ff hG1 hb1
  go_wp2_with (at_builtin; refine wpList_spread_flat rfl rfl slUnion (by show (0 : Nat) < 4; omega) (GL.start true W1.heap.size W1.heap.size W1.heap.size W1 _) rfl rfl (HB.out.below hBW1) (by unfold maxLen; simp; omega) (by simp; omega) (Nat.le_refl _) ?_)
  intro vb w2 hG2 _ hb2
  obtain ⟨ba, bcap, rfl, -, -⟩ := hG2.len
  have s2 := hb2.size
  have HG2 := Lib.hid hG2
  have HG1 := Lib.hid (show GL true (w.heap.size + 3) (w.heap.size + 3) w1.heap.size w2 56 (.slice aa f.1.length acap) f.1 from HG1.out.keep (fun b h1 h2 => hb2.block b (by omega)) (fun b h1 h2 => hb2.block b (by omega)))
  have r0 := oldc hb2 (by omega) r0
  have r1 := oldc hb2 (by omega) r1
  have rf : ∀ o, w2.frozen? ⟨w.heap.size + 1, o, none⟩ = false := fun o => (hb2.frozen (p := ⟨w.heap.size + 1, o, none⟩) (by show w.heap.size + 1 < _; omega)).trans (rf o)
  have g0 := oldc hb2 (by omega) g0
  have g1 := oldc hb2 (by omega) g1
  have gf : ∀ o, w2.frozen? ⟨w.heap.size + 2, o, none⟩ = false := fun o => (hb2.frozen (p := ⟨w.heap.size + 2, o, none⟩) (by show w.heap.size + 2 < _; omega)).trans (gf o)
  have hBw2 : Below w.heap.size w w2 := hBW1.trans (hb2.mono (by omega))
  have ne1 : ¬ w.heap.size + 1 = w.heap.size + 2 := by omega
  clear hG2 hb2 p0 p1
  go_wp2
  refine bodyPost_ret (v := .agg #[.slice aa f.1.length acap, .slice ba f.2.length bcap]) (by simp [results, Try.results111, go_sem, *]) rfl ⟨_, _, W1.heap.size, rfl, ?_, by simp; omega, by omega, ?_, bwT⟩
  · exact ((HG1.out.keep zgT zgT).mono (by omega)).loz (by omega) (by omega)
  · exact (HG2.out.keep zgT zgT).mono (by simp)

end

/-! ### MkfS -/
section

end

end Go.Proofs.Ytefbbbhidnnchaa
