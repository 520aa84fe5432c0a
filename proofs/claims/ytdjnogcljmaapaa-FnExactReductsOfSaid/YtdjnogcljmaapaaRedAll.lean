/- Texts laid one behind the other (merge.py): AreI, AreS, RedI, RedS. -/
import Derived.Test.YtdjnogcljmaapaaRuI
import Derived.Test.YtdjnogcljmaapaaSSet
import Derived.Test.YtdjnogcljmaapaaRuS
import Derived.Test.YtdjnogcljmaapaaRepI
import Derived.Test.YtdjnogcljmaapaaDKinType
import Derived.Test.YtdjnogcljmaapaaPerm2
import Derived.Test.YtdjnogcljmaapaaRepS
namespace Go.Proofs.Ytdjnogcljmaapaa
set_option linter.unusedVariables false
set_option linter.unusedSimpArgs false
open Go.RowKit

/-! ### AreI -/

theorem areRules_bad {rs : List Rul} {i : Nat} {r : Rul} (h : rs[i]? = some r) (hr : isRule r = false) : areRules rs = false := by
  rw [Bool.eq_false_iff]
  intro e
  have := (areRules_facts e).2.1 r (List.mem_of_getElem? h)
  rw [hr] at this; cases this
theorem areRules_dup {rs : List Rul} {i : Nat} {r : Rul} (h : rs[i]? = some r) (hr : r.1 ∈ (rs.take i).map (·.1)) : areRules rs = false := by
  rw [Bool.eq_false_iff]
  intro e
  have hn := (areRules_facts e).2.2
  rw [← List.take_append_drop i rs, drop_cons h, List.map_append, List.map_cons, List.nodup_append] at hn
  exact hn.2.2 _ hr _ (by simp) rfl
theorem areRules_end {rs : List Rul} {i : Nat} (hi : rs.length ≤ i) (hl : rs.length ≤ 12) (h1 : (rs.take i).all isRule = true) (h2 : ((rs.take i).map (·.1)).Nodup) : areRules rs = true := by
  rw [List.take_of_length_le hi] at h1 h2
  unfold areRules
  rw [decide_eq_true hl, h1, decide_eq_true h2]; rfl
theorem take_all {α : Type} {p : α → Bool} {xs : List α} {i : Nat} {x : α} (h : xs[i]? = some x) (h1 : (xs.take i).all p = true) (h2 : p x = true) : (xs.take (i + 1)).all p = true := by
  rw [take_snoc h, List.all_append, h1]; simp [h2]
theorem take_nodup {xs : List Rul} {i : Nat} {x : Rul} (h : xs[i]? = some x) (h1 : ((xs.take i).map (·.1)).Nodup) (h2 : x.1 ∉ (xs.take i).map (·.1)) : ((xs.take (i + 1)).map (·.1)).Nodup := by
  rw [take_snoc h, List.map_append, List.nodup_append]
  refine ⟨h1, by simp, fun a ha b hb e => ?_⟩
  simp at hb; subst hb
  exact h2 (e ▸ ha)

set_option maxRecDepth 20000 in
set_option maxHeartbeats 8000000 in
theorem areRulesI_b {z : Bool} {lo hi : Nat} (w : World) (v : Value) (rs : List Rul) (h : Rd z lo hi w [v] rs) (R : Bool) (hR : R = areRules rs) : Calls Try.prog 95 #[v] w (PostB w R) := by
  obtain ⟨ao, n, cap, rfl, rfl, hnc, hcm, -⟩ := h.shape
  unfold maxLen at hcm
  have HR := Lib.hid hR
  clear hR
  by_cases hl : rs.length ≤ 12
  rotate_left
  · have HF := Lib.hid (show R = false by rw [HR.out]; unfold areRules; rw [decide_eq_false hl]; rfl)
    have n1 : (12 : Int) < (rs.length : Int) := by omega
    clear HR h
    go_enter Try.func95, Try.ntmps95
    go_wp2
    go_ret
    exact ⟨ret_bool HF.out.symm, Below.refl _ _⟩
  have n1 : ¬ (12 : Int) < (rs.length : Int) := by omega
  have hmm := @run_makeMap Try.prog
  go_enter Try.func95, Try.ntmps95
  go_wp2
  go_loopw [5, 12] (fun _ s12 wr => ∃ i : Nat, i ≤ rs.length ∧ s12 = .int .i64 i ∧ Hid (SSet wr w.heap.size i ((rs.take i).map (·.1))) ∧ Hid ((rs.take i).all isRule = true) ∧ Hid (((rs.take i).map (·.1)).Nodup) ∧ Below w.heap.size w wr ∧ w.heap.size < wr.heap.size) (fun _ s12 _ => rs.length - (intOf s12).toNat)
  case atStart => exact ⟨0, Nat.zero_le _, rfl, Lib.hid (SSet.made w), Lib.hid rfl, Lib.hid List.nodup_nil, (by repeat' (first | (with_reducible exact Below.refl _ _) | (with_reducible assumption) | (with_reducible refine Below.alloc ?_ (by first | omega | (simp; omega) | simp) _) | (with_reducible refine Below.setCell ?_ (by first | omega | (simp; omega) | simp) _) | (with_reducible refine Below.drew ?_) | (with_reducible refine below_drewN ?_ _))), by simp⟩
  case round =>
    obtain ⟨wb, hwb⟩ : ∃ wm : World, wm = wr := ⟨_, rfl⟩
    subst hwb
    obtain ⟨i, hi1, rfl, hS, hA, hN, hBwb, hlB⟩ := hrel
    have swb := hBwb.size
    by_cases hli : i < rs.length
    · have hI : (i : Int) < (rs.length : Int) := by omega
      obtain ⟨b, off, nm, sx, pl, fr, tw, vfr, vtw, rfl, hx, c0, c1, c2, c3, c4, gnm, gsx, gpl, hfr, htw, hri, -, -, hbl⟩ := (h.below hBwb).dRul_at hli
      obtain ⟨fao, fn, fcap, rfl, -⟩ := hfr.shape
      obtain ⟨tao, tn, tcap, rfl, -⟩ := htw.shape
      have HNM := Lib.hid gnm
      obtain ⟨r1, hlet_r1⟩ : ∃ r, r = isRule (nm, sx, pl, fr, tw) := ⟨_, rfl⟩
      have H1 := Lib.hid hlet_r1
      clear hlet_r1
      obtain ⟨r2, hlet_r2⟩ : ∃ r, r = decide (nm ∈ (rs.take i).map (·.1)) := ⟨_, rfl⟩
      have H2 := Lib.hid hlet_r2
      clear hlet_r2
      have hZ : Zone w.heap.size (w.heap.size + 1) wb wb := Zone.refl _ _ _
      have HX := Lib.hid hx.out
      clear hx gnm gsx gpl hfr htw h
      go_wp2_with fail
      refine (isRuleI_b _ _ _ _ _ _ (nm, sx, pl, fr, tw) (hri.below (by repeat' (first | (with_reducible exact Below.refl _ _) | (with_reducible assumption) | (with_reducible refine Below.alloc ?_ (by first | omega | (simp; omega) | simp) _) | (with_reducible refine Below.setCell ?_ (by first | omega | (simp; omega) | simp) _) | (with_reducible refine Below.drew ?_) | (with_reducible refine below_drewN ?_ _)))) r1 H1.out).mono ?_
      rintro e1 w1 ⟨rfl, hbw1⟩
      have hpw1 : Below wb.heap.size wb w1 := Below.after (by repeat' (first | (with_reducible exact Below.refl _ _) | (with_reducible assumption) | (with_reducible refine Below.alloc ?_ (by first | omega | (simp; omega) | simp) _) | (with_reducible refine Below.setCell ?_ (by first | omega | (simp; omega) | simp) _) | (with_reducible refine Below.drew ?_) | (with_reducible refine below_drewN ?_ _))) hbw1 (by first | omega | (simp only [World.size_alloc, World.size_setCell, World.size_drew] at *; omega) | (simp; omega) | simp)
      have sw1 := hpw1.size
      have hBw1 : Below w.heap.size w w1 := Below.trans hBwb (Below.mono hpw1 hBwb.size)
      have l_r : wb.heap.size < w1.heap.size := by have := hbw1.size; simp at this; omega
      have q_r0 : w1.cell? ⟨wb.heap.size, 0, none⟩ = some (.string nm) := oldc hbw1 (by first | omega | (simp; omega) | (simp; done)) (by simp [go_sem])
      have q_r1 : w1.cell? ⟨wb.heap.size, 1, none⟩ = some (.int .i64 sx) := oldc hbw1 (by first | omega | (simp; omega) | (simp; done)) (by simp [go_sem])
      have q_r2 : w1.cell? ⟨wb.heap.size, 2, none⟩ = some (.int .i64 pl) := oldc hbw1 (by first | omega | (simp; omega) | (simp; done)) (by simp [go_sem])
      have q_r3 : w1.cell? ⟨wb.heap.size, 3, none⟩ = some (.slice fao fn fcap) := oldc hbw1 (by first | omega | (simp; omega) | (simp; done)) (by simp [go_sem])
      have q_r4 : w1.cell? ⟨wb.heap.size, 4, none⟩ = some (.slice tao tn tcap) := oldc hbw1 (by first | omega | (simp; omega) | (simp; done)) (by simp [go_sem])
      have hZ := Zone.below hZ hpw1 (by omega)
      clear hbw1 hpw1
      have hS1 := Lib.hid (hS.out.zone hZ (Nat.le_refl _) (Nat.lt_succ_self _))
      clear hS hri c0 c1 c2 c3 c4
      cases r1
      · have HF := Lib.hid (show R = false by rw [HR.out]; exact areRules_bad HX.out H1.out.symm)
        clear HR hA hN hS1 HX H1 H2 hZ
        go_wp2
        go_ret
        exact ⟨ret_bool HF.out.symm, hBw1⟩
      have HS1 := Lib.hid hS1.out
      clear hS1
      cases r2
      rotate_left
      · have HF := Lib.hid (show R = false by rw [HR.out]; exact areRules_dup HX.out (of_decide_eq_true H2.out.symm))
        clear HR hA hN HX H1 hZ
        go_wp2_with (at_lookup; refine wpList_sset_lookg (by rfl) rfl Try.underlying146 rfl HS1.out rfl HNM.out true H2.out ?_)
        go_ret
        exact ⟨ret_bool HF.out.symm, hBw1⟩
      have HA := Lib.hid (take_all HX.out hA.out H1.out.symm)
      have HN := Lib.hid (take_nodup HX.out hN.out (show nm ∉ (rs.take i).map (·.1) from of_decide_eq_false H2.out.symm))
      have HP := Lib.hid (show ∀ s, s ∈ nm :: (rs.take i).map (·.1) ↔ s ∈ (rs.take (i + 1)).map (·.1) from fun s => by rw [take_snoc HX.out, List.map_append, List.mem_append, List.mem_cons, List.map_cons, List.map_nil, List.mem_singleton]; exact Or.comm)
      have hlB2 : w.heap.size < (w1).heap.size := by omega
      have sB2 : w.heap.size ≤ (w1).heap.size := by omega
      clear hA hN HX H1 hZ HR
      go_wp2_with (first | (at_lookup; refine wpList_sset_lookg (by rfl) rfl Try.underlying146 rfl HS1.out rfl HNM.out false H2.out ?_) | (at_mapUpdate; refine wpList_sset_put rfl rfl Try.underlying146 rfl HS1.out (by unfold maxLen; omega) rfl rfl HNM.out ?_; intro w5 hS5 hg5))
      have HS5 := Lib.hid (hS5.perm HP.out)
      have hB5 : Below w.heap.size w w5 := Below.grownAt hBw1 hg5 (Nat.le_refl _) sB2
      have s5 := hg5.size
      clear hS5 HP hg5
      (try go_wp2)
      go_roundw
      case rel => exact ⟨i + 1, by omega, by go_num, HS5, HA, HN, hB5, by omega⟩
      case measure => simp [intOf]; omega
    · have hI : ¬ (i : Int) < (rs.length : Int) := by omega
      have HF := Lib.hid (show R = true by rw [HR.out]; exact areRules_end (by omega) hl hA.out hN.out)
      clear HR hA hN hS h
      go_wp2
      go_ret
      exact ⟨ret_bool HF.out.symm, hBwb⟩

/-! ### AreS -/

set_option maxRecDepth 20000 in
set_option maxHeartbeats 8000000 in
theorem areRulesS_b {z : Bool} {lo hi : Nat} (w : World) (v : Value) (rs : List Rul) (h : Rd z lo hi w [v] rs) (R : Bool) (hR : R = areRules rs) : Calls Try.prog 92 #[v] w (PostB w R) := by
  obtain ⟨ao, n, cap, rfl, rfl, hnc, hcm, -⟩ := h.shape
  unfold maxLen at hcm
  have HR := Lib.hid hR
  clear hR
  by_cases hl : rs.length ≤ 12
  rotate_left
  · have HF := Lib.hid (show R = false by rw [HR.out]; unfold areRules; rw [decide_eq_false hl]; rfl)
    have n1 : (12 : Int) < (rs.length : Int) := by omega
    clear HR h
    go_enter Try.func92, Try.ntmps92
    go_wp2
    go_ret
    exact ⟨ret_bool HF.out.symm, Below.refl _ _⟩
  have n1 : ¬ (12 : Int) < (rs.length : Int) := by omega
  have HZ := Lib.hid h
  go_enter Try.func92, Try.ntmps92
  go_wp2
  go_loopw [3, 4, 5, 11] (fun _ _ _ s12 wr => ∃ i : Nat, i ≤ rs.length ∧ s12 = .int .i64 i ∧ Hid ((rs.take i).all isRule = true) ∧ Hid (((rs.take i).map (·.1)).Nodup) ∧ Below w.heap.size w wr) (fun _ _ _ s12 _ => rs.length - (intOf s12).toNat)
  case atStart => exact ⟨0, Nat.zero_le _, rfl, Lib.hid rfl, Lib.hid List.nodup_nil, Below.refl _ _⟩
  case round =>
    obtain ⟨wb, hwb⟩ : ∃ wm : World, wm = wr := ⟨_, rfl⟩
    subst hwb
    obtain ⟨i, hi1, rfl, hA, hN, hBwb⟩ := hrel
    have swb := hBwb.size
    by_cases hli : i < rs.length
    · have hI : (i : Int) < (rs.length : Int) := by omega
      obtain ⟨b, off, nm, sx, pl, fr, tw, vfr, vtw, rfl, hx, c0, c1, c2, c3, c4, gnm, gsx, gpl, hfr, htw, hri, -, -, hbl⟩ := (h.below hBwb).dRul_at hli
      obtain ⟨fao, fn, fcap, rfl, -⟩ := hfr.shape
      obtain ⟨tao, tn, tcap, rfl, -⟩ := htw.shape
      have HNM := Lib.hid gnm
      have HX := Lib.hid hx.out
      have HRI := Lib.hid hri
      obtain ⟨r1, hlet_r1⟩ : ∃ r, r = isRule (nm, sx, pl, fr, tw) := ⟨_, rfl⟩
      have H1 := Lib.hid hlet_r1
      clear hlet_r1
      clear hx gnm gsx gpl hfr htw hri h
      obtain ⟨Wc, hWc⟩ : ∃ W : World, W = wb.alloc (.cells #[.string nm, .int .i64 sx, .int .i64 pl, .slice fao fn fcap, .slice tao tn tcap] 110) := ⟨_, rfl⟩
      have hbc : Below wb.heap.size wb Wc := by subst hWc; exact (by repeat' (first | (with_reducible exact Below.refl _ _) | (with_reducible assumption) | (with_reducible refine Below.alloc ?_ (by first | omega | (simp; omega) | simp) _) | (with_reducible refine Below.setCell ?_ (by first | omega | (simp; omega) | simp) _) | (with_reducible refine Below.drew ?_) | (with_reducible refine below_drewN ?_ _)))
      have qa0 : Wc.cell? ⟨wb.heap.size, 0, none⟩ = some (.string nm) := by subst hWc; simp [go_sem]
      have qa1 : Wc.cell? ⟨wb.heap.size, 1, none⟩ = some (.int .i64 sx) := by subst hWc; simp [go_sem]
      have qa2 : Wc.cell? ⟨wb.heap.size, 2, none⟩ = some (.int .i64 pl) := by subst hWc; simp [go_sem]
      have qa3 : Wc.cell? ⟨wb.heap.size, 3, none⟩ = some (.slice fao fn fcap) := by subst hWc; simp [go_sem]
      have qa4 : Wc.cell? ⟨wb.heap.size, 4, none⟩ = some (.slice tao tn tcap) := by subst hWc; simp [go_sem]
      have szc : Wc.heap.size = wb.heap.size + 1 := by subst hWc; simp
      go_wp2
      rw [← hWc]
      clear hWc c0 c1 c2 c3 c4
      have lc : wb.heap.size < Wc.heap.size := by omega
      have hBWc : Below w.heap.size w Wc := hBwb.trans (hbc.mono swb)
      clear szc
      go_loopw [5] (fun s5 wr => ∃ k : Nat, k ≤ i ∧ s5 = .int .i64 k ∧ Hid (∀ y ∈ (rs.take k).map (·.1), y ≠ nm) ∧ Below Wc.heap.size Wc wr) (fun s5 _ => i - (intOf s5).toNat)
      case atStart => exact ⟨0, Nat.zero_le _, rfl, Lib.hid (by simp), Below.refl _ _⟩
      case round =>
        obtain ⟨wd, hwd⟩ : ∃ wm : World, wm = wr := ⟨_, rfl⟩
        subst hwd
        obtain ⟨k, hk, rfl, hD, hcd⟩ := hrel
        have scd := hcd.size
        have q0 := oldc hcd lc qa0
        have q1 := oldc hcd lc qa1
        have q2 := oldc hcd lc qa2
        have q3 := oldc hcd lc qa3
        have q4 := oldc hcd lc qa4
        have l_d := Nat.lt_of_lt_of_le lc scd
        have hBd : Below w.heap.size w wd := hBWc.trans (hcd.mono hBWc.size)
        by_cases hki : k < i
        · have hK : (k : Int) < (i : Int) := by omega
          obtain ⟨b2, off2, nm2, sx2, pl2, fr2, tw2, vfr2, vtw2, eb, hx2, d0, -, -, -, -, -, -, -, -, -, -, -, -, hbl2⟩ := (HZ.out.below hBd).dRul_at (i := k) (show k < rs.length by omega)
          simp only [Option.some.injEq, Addr.mk.injEq, and_true] at eb
          obtain ⟨rfl, rfl⟩ := eb
          have hkl : (k : Int) < (rs.length : Int) := by omega
          by_cases he : nm2 = nm
          · subst he
            have HF := Lib.hid (show R = false by rw [HR.out]; exact areRules_dup HX.out (by rw [List.mem_map]; exact ⟨(nm2, sx2, pl2, fr2, tw2), List.mem_of_getElem? (i := k) (show (rs.take i)[k]? = some (nm2, sx2, pl2, fr2, tw2) by rw [List.getElem?_take, if_pos hki]; exact hx2.out), rfl⟩))
            have hq : (nm2.toList == nm2.toList) = true := by simp
            clear hx2 hD HX HZ HR hA hN HRI H1
            go_wp2_with fail
            go_quiet (fail)
            go_wp2
            go_ret
            exact ⟨ret_bool HF.out.symm, (by repeat' (first | (with_reducible exact Below.refl _ _) | (with_reducible assumption) | (with_reducible refine Below.alloc ?_ (by first | omega | (simp; omega) | simp) _) | (with_reducible refine Below.setCell ?_ (by first | omega | (simp; omega) | simp) _) | (with_reducible refine Below.drew ?_) | (with_reducible refine below_drewN ?_ _)))⟩
          · have hq : (nm2.toList == nm.toList) = false := by rw [text_eq]; exact decide_eq_false he
            have HD2 := Lib.hid (show ∀ y ∈ (rs.take (k + 1)).map (·.1), y ≠ nm by
              rw [take_snoc hx2.out, List.map_append]
              intro y hy
              rcases List.mem_append.1 hy with hy | hy
              · exact hD.out y hy
              · simp at hy; subst hy; exact he)
            clear hx2 hD he
            go_wp2_with fail
            go_quiet (fail)
            go_wp2
            go_roundw
            case rel => exact ⟨k + 1, by omega, by go_num, HD2, (by repeat' (first | (with_reducible exact Below.refl _ _) | (with_reducible assumption) | (with_reducible refine Below.alloc ?_ (by first | omega | (simp; omega) | simp) _) | (with_reducible refine Below.setCell ?_ (by first | omega | (simp; omega) | simp) _) | (with_reducible refine Below.drew ?_) | (with_reducible refine below_drewN ?_ _)))⟩
            case measure => simp [intOf]; omega
        · obtain rfl : k = i := by omega
          have hK : ¬ (k : Int) < (k : Int) := by omega
          have HNI := Lib.hid (show nm ∉ (rs.take k).map (·.1) from fun e => hD.out nm e rfl)
          clear hD
          go_wp2_with fail
          refine (isRuleS_b _ _ _ _ _ _ (nm, sx, pl, fr, tw) (HRI.out.below ?b1) r1 H1.out).mono ?_
          case b1 => exact hbc.trans (hcd.mono hbc.size)
          rintro e w2 ⟨rfl, hb2⟩
          have hB2 : Below w.heap.size w w2 := Below.after hBd hb2 (by omega)
          clear hb2 q0 q1 q2 q3 q4
          cases r1
          · have HF := Lib.hid (show R = false by rw [HR.out]; exact areRules_bad HX.out H1.out.symm)
            clear HR hA hN HX H1 HNI HZ HRI
            go_wp2
            go_ret
            exact ⟨ret_bool HF.out.symm, hB2⟩
          have HA := Lib.hid (take_all HX.out hA.out H1.out.symm)
          have HN := Lib.hid (take_nodup HX.out hN.out HNI.out)
          clear hA hN HX H1 HNI HRI
          go_wp2
          go_roundw
          case rel => exact ⟨k + 1, by omega, by go_num, HA, HN, hB2⟩
          case measure => simp [intOf]; omega
    · have hI : ¬ (i : Int) < (rs.length : Int) := by omega
      have HF := Lib.hid (show R = true by rw [HR.out]; exact areRules_end (by omega) hl hA.out hN.out)
      clear HR hA hN h HZ
      go_wp2
      go_ret
      exact ⟨ret_bool HF.out.symm, hBwb⟩

/-! ### RedI -/

theorem lenBy_bnd {α : Type} {cnt : α → Nat} {m : Nat} : ∀ {xs : List α}, (∀ x ∈ xs, cnt x ≤ m) → lenBy cnt xs ≤ m * xs.length
  | [], _ => by simp [lenBy]
  | x :: xs, h => by
    have h1 := h x (by simp)
    have h2 := lenBy_bnd (cnt := cnt) (m := m) (xs := xs) (fun y hy => h y (by simp [hy]))
    rw [lenBy, List.length_cons, Nat.mul_add, Nat.mul_one]; omega
theorem kins_cn {l : List Kin} {m k : Nat} (h1 : l.length ≤ m) (h2 : ∀ t ∈ l, t.2.length ≤ k) : lenBy cntKin l ≤ (1 + 2 * k) * m :=
  Nat.le_trans (lenBy_bnd fun t ht => by have := h2 t ht; unfold cntKin; dsimp only; omega) (Nat.mul_le_mul_left _ h1)
/-- One more reduct, if it is new. -/
def redStep (t : Kin) (i : Nat) (out : List Kin) (r : Rul) : List Kin := if fitsB r t i = true then (if replT r t i ∈ out then out else out ++ [replT r t i]) else out
def redIn (rs : List Rul) (t : Kin) (i : Nat) (out : List Kin) : List Kin := rs.foldl (redStep t i) out
def redTo (rs : List Rul) (t : Kin) (n : Nat) : List Kin := (List.range n).foldl (fun out i => redIn rs t i out) []
def redL (rs : List Rul) (t : Kin) : List Kin := redTo rs t t.2.length
def redV (rs : List Rul) (t : Kin) : Bool := areRules rs && isKin t
def redX (rs : List Rul) (t : Kin) : List Kin := if redV rs t = true then redL rs t else []
theorem redTo_succ (rs : List Rul) (t : Kin) (n : Nat) : redTo rs t (n + 1) = redIn rs t n (redTo rs t n) := by simp [redTo, List.range_succ]
theorem redIn_take {rs : List Rul} {t : Kin} {i k : Nat} {r : Rul} {out : List Kin} (h : rs[k]? = some r) : redIn (rs.take (k + 1)) t i out = redStep t i (redIn (rs.take k) t i out) r := by
  unfold redIn
  rw [take_snoc h, List.foldl_append]; rfl
theorem redStep_len (t : Kin) (i : Nat) (out : List Kin) (r : Rul) : (redStep t i out r).length ≤ out.length + 1 := by
  unfold redStep
  split
  · split
    · omega
    · simp
  · omega
theorem redIn_len (t : Kin) (i : Nat) : ∀ (rs : List Rul) (out : List Kin), (redIn rs t i out).length ≤ out.length + rs.length
  | [], out => by simp [redIn]
  | r :: rs, out => by
    have h1 := redIn_len t i rs (redStep t i out r)
    have h2 := redStep_len t i out r
    have e : redIn (r :: rs) t i out = redIn rs t i (redStep t i out r) := rfl
    rw [e, List.length_cons]; omega
theorem redTo_len (rs : List Rul) (t : Kin) : ∀ n, (redTo rs t n).length ≤ n * rs.length
  | 0 => by simp [redTo]
  | n + 1 => by
    rw [redTo_succ]
    have h1 := redIn_len t n rs (redTo rs t n)
    have h2 := redTo_len rs t n
    rw [Nat.add_mul, Nat.one_mul]; omega
theorem redStep_mem {P : Kin → Prop} {t : Kin} {i : Nat} {out : List Kin} {r : Rul} (h : ∀ u ∈ out, P u) (hr : fitsB r t i = true → P (replT r t i)) : ∀ u ∈ redStep t i out r, P u := by
  unfold redStep
  split
  · split
    · exact h
    · intro u hu
      rcases List.mem_append.1 hu with hu | hu
      · exact h u hu
      · simp at hu; subst hu; exact hr (by assumption)
  · exact h
theorem redIn_mem {P : Kin → Prop} {t : Kin} {i : Nat} : ∀ {rs : List Rul} {out : List Kin}, (∀ u ∈ out, P u) → (∀ r ∈ rs, fitsB r t i = true → P (replT r t i)) → ∀ u ∈ redIn rs t i out, P u
  | [], _, h, _ => h
  | r :: rs, out, h, hr => redIn_mem (rs := rs) (redStep_mem h (hr r (by simp))) (fun s hs => hr s (by simp [hs]))
theorem redTo_mem {P : Kin → Prop} {t : Kin} {rs : List Rul} (hr : ∀ i, ∀ r ∈ rs, fitsB r t i = true → P (replT r t i)) : ∀ n, ∀ u ∈ redTo rs t n, P u
  | 0 => by simp [redTo]
  | n + 1 => by rw [redTo_succ]; exact redIn_mem (redTo_mem hr n) (hr n)
theorem redL_kin {rs : List Rul} {t : Kin} (hrs : allRules rs) (ht : isKin t = true) : ∀ u ∈ redL rs t, isKin u = true :=
  redTo_mem (fun i r hr hf => (repl_ok (hrs r hr) ht hf).1) _
theorem redX_len (rs : List Rul) (t : Kin) : (redX rs t).length ≤ 96 ∧ ∀ u ∈ redX rs t, u.2.length ≤ 8 := by
  unfold redX
  split
  · rename_i h
    unfold redV at h
    rw [Bool.and_eq_true] at h
    obtain ⟨h1, h2, -⟩ := areRules_facts h.1
    have h3 := (isKin_facts h.2).2.1
    refine ⟨?_, fun u hu => (isKin_facts (redL_kin h2 h.2 u hu)).2.1⟩
    have := redTo_len rs t t.2.length
    have h4 : t.2.length * rs.length ≤ 8 * 12 := Nat.mul_le_mul h3 h1
    unfold redL; omega
  · exact ⟨by simp, fun u hu => by cases hu⟩
theorem redX_cnt (rs : List Rul) (t : Kin) : lenBy cntKin (redX rs t) ≤ 20000 :=
  Nat.le_trans (kins_cn (m := 96) (k := 8) (redX_len rs t).1 (redX_len rs t).2) (by omega)

set_option maxRecDepth 20000 in
set_option maxHeartbeats 8000000 in
theorem hasI_b {z z1 : Bool} {lo hi lo1 hi1 : Nat} (w : World) (v a b : Value) (l : List Kin) (t : Kin) (h : Rd z lo hi w [v] l) (h' : Rd z1 lo1 hi1 w [a, b] t) (R : Bool) (hR : R = decide (t ∈ l)) :
    Calls Try.prog 141 #[v, .agg #[a, b]] w (PostB w R) := by
  obtain ⟨ao, n, cap, rfl, rfl, hnc, hcm, -⟩ := h.shape
  unfold maxLen at hcm
  have HT := Lib.hid h'
  have HZ := Lib.hid h
  have HR := Lib.hid hR
  obtain ⟨rfl, -, hb⟩ := h'.kin
  obtain ⟨sao, sn, scap, rfl, -⟩ := hb.shape
  clear h' hR hb
  obtain ⟨W0, hW0⟩ : ∃ W : World, W = w.alloc (.cells #[.int .i64 t.1, .slice sao sn scap] 36) := ⟨_, rfl⟩
  have hB0 : Below w.heap.size w W0 := by subst hW0; exact (by repeat' (first | (with_reducible exact Below.refl _ _) | (with_reducible assumption) | (with_reducible refine Below.alloc ?_ (by first | omega | (simp; omega) | simp) _) | (with_reducible refine Below.setCell ?_ (by first | omega | (simp; omega) | simp) _) | (with_reducible refine Below.drew ?_) | (with_reducible refine below_drewN ?_ _)))
  have qt0 : W0.cell? ⟨w.heap.size, 0, none⟩ = some (.int .i64 t.1) := by subst hW0; simp [go_sem]
  have qt1 : W0.cell? ⟨w.heap.size, 1, none⟩ = some (.slice sao sn scap) := by subst hW0; simp [go_sem]
  have sz0 : W0.heap.size = w.heap.size + 1 := by subst hW0; simp
  go_enter Try.func141, Try.ntmps141
  go_wp2
  rw [← hW0]
  clear hW0
  go_loopw [6, 9] (fun _ s9 wr => ∃ i : Nat, i ≤ l.length ∧ s9 = .int .i64 i ∧ Hid (∀ y ∈ l.take i, t ≠ y) ∧ Below W0.heap.size W0 wr) (fun _ s9 _ => l.length - (intOf s9).toNat)
  case atStart => exact ⟨0, Nat.zero_le _, rfl, Lib.hid (by simp), Below.refl _ _⟩
  case round =>
    obtain ⟨wb, hwb⟩ : ∃ wm : World, wm = wr := ⟨_, rfl⟩
    subst hwb
    obtain ⟨i, hi1, rfl, hN, hbb⟩ := hrel
    have sbb := hbb.size
    have hBwb : Below w.heap.size w wb := hB0.trans (hbb.mono hB0.size)
    have l_t : w.heap.size < wb.heap.size := by omega
    have q_t0 := oldc hbb (by omega) qt0
    have q_t1 := oldc hbb (by omega) qt1
    by_cases hli : i < l.length
    · have hI : (i : Int) < (l.length : Int) := by omega
      obtain ⟨xb, xoff, y, yv, rfl, hy, c0, c1, -, hys, hyr, -, -, xbl⟩ := (HZ.out.below hBwb).kin_at hli
      obtain ⟨yao, yn, ycap, rfl, -⟩ := hys.shape
      have HY := Lib.hid hy.out
      have HYR := Lib.hid hyr
      obtain ⟨r1, hlet_r1⟩ : ∃ r, r = decide (y = t) := ⟨_, rfl⟩
      have H1 := Lib.hid hlet_r1
      clear hlet_r1
      clear hy hys hyr
      go_wp2_with fail
      refine (eqTypesI_b _ _ _ _ _ y t (HYR.out.below ?b1) (HT.out.below ?b2) r1 H1.out).mono ?_
      case b1 => exact (by repeat' (first | (with_reducible exact Below.refl _ _) | (with_reducible assumption) | (with_reducible refine Below.alloc ?_ (by first | omega | (simp; omega) | simp) _) | (with_reducible refine Below.setCell ?_ (by first | omega | (simp; omega) | simp) _) | (with_reducible refine Below.drew ?_) | (with_reducible refine below_drewN ?_ _)))
      case b2 => exact (by repeat' (first | (with_reducible exact Below.refl _ _) | (with_reducible assumption) | (with_reducible refine Below.alloc ?_ (by first | omega | (simp; omega) | simp) _) | (with_reducible refine Below.setCell ?_ (by first | omega | (simp; omega) | simp) _) | (with_reducible refine Below.drew ?_) | (with_reducible refine below_drewN ?_ _)))
      rintro e w2 ⟨rfl, hb2⟩
      have hbb2 : Below W0.heap.size W0 w2 := Below.after (show Below W0.heap.size W0 _ from (by repeat' (first | (with_reducible exact Below.refl _ _) | (with_reducible assumption) | (with_reducible refine Below.alloc ?_ (by first | omega | (simp; omega) | simp) _) | (with_reducible refine Below.setCell ?_ (by first | omega | (simp; omega) | simp) _) | (with_reducible refine Below.drew ?_) | (with_reducible refine below_drewN ?_ _)))) hb2 (by simp; omega)
      have hB2 : Below w.heap.size w w2 := hB0.trans (hbb2.mono hB0.size)
      clear hb2 c0 c1
      cases r1
      · have HN := Lib.hid (show ∀ y ∈ l.take (i + 1), t ≠ y by
          rw [take_snoc HY.out]
          intro x hx
          rcases List.mem_append.1 hx with hx | hx
          · exact hN.out x hx
          · simp at hx; subst hx; exact fun e => of_decide_eq_false H1.out.symm e.symm)
        clear hN HY H1 HYR HR
        go_wp2
        go_roundw
        case rel => exact ⟨i + 1, by omega, by go_num, HN, hbb2⟩
        case measure => simp [intOf]; omega
      · have HF := Lib.hid (show R = true by rw [HR.out]; refine decide_eq_true ?_; have := of_decide_eq_true H1.out.symm; rw [← this]; exact List.mem_of_getElem? HY.out)
        clear hN HY H1 HYR HR
        go_wp2
        go_ret
        exact ⟨ret_bool HF.out.symm, hB2⟩
    · have hI : ¬ (i : Int) < (l.length : Int) := by omega
      have HF := Lib.hid (show R = false by rw [HR.out]; refine decide_eq_false fun e => ?_; have := hN.out t (by rw [List.take_of_length_le (by omega)]; exact e); exact this rfl)
      clear hN HR
      go_wp2
      go_ret
      exact ⟨ret_bool HF.out.symm, hBwb⟩
set_option maxRecDepth 20000 in
set_option maxHeartbeats 16000000 in
theorem reductsI_any {z z1 : Bool} {lo hi lo1 hi1 : Nat} (w : World) (v a b : Value) (rs : List Rul) (t : Kin) (h : Rd z lo hi w [v] rs) (h' : Rd z1 lo1 hi1 w [a, b] t) (hr : allRules rs) (hrl : rs.length ≤ 12) (ht : isKin t = true) :
    Calls Try.prog 96 #[v, .agg #[a, b]] w (PostOw w (redL rs t)) := by
  obtain ⟨ao, n, cap, rfl, rfl, hnc, hcm, -⟩ := h.shape
  have HT := Lib.hid h'
  obtain ⟨rfl, hI, hb⟩ := h'.kin
  obtain ⟨e, ts⟩ := t
  dsimp only at hb hI
  obtain ⟨sao, sn, scap, rfl, hsn, hsc, hsm, -⟩ := hb.shape
  unfold maxLen at hcm hsm
  have HK := Lib.hid ht
  have HRS := Lib.hid hr
  have hs8 : ts.length ≤ 8 := (isKin_facts ht).2.1
  obtain ⟨L, hL⟩ : ∃ L, L = ts.length := ⟨_, rfl⟩
  subst hsn
  rw [← hL] at hs8 hsc HT ⊢
  have HL := Lib.hid hL
  have HZ := Lib.hid h
  obtain ⟨X, hX⟩ : ∃ X, X = redL rs (e, ts) := ⟨_, rfl⟩
  rw [← hX]
  have HX := Lib.hid (show X = redTo rs (e, ts) L by rw [hX, redL, hL])
  have HLEN := Lib.hid (show ∀ i, i < L → (redTo rs (e, ts) i).length ≤ 96 from fun i hi => by
    have h1 := redTo_len rs (e, ts) i
    have h2 : i * rs.length ≤ 8 * 12 := Nat.mul_le_mul (by omega) hrl
    omega)
  clear h' hr ht hI hb hL hX
  obtain ⟨W0, hW0⟩ : ∃ W : World, W = w.alloc (.cells #[.int .i64 e, .slice sao L scap] 36) := ⟨_, rfl⟩
  have hB0 : Below w.heap.size w W0 := by subst hW0; exact (by repeat' (first | (with_reducible exact Below.refl _ _) | (with_reducible assumption) | (with_reducible refine Below.alloc ?_ (by first | omega | (simp; omega) | simp) _) | (with_reducible refine Below.setCell ?_ (by first | omega | (simp; omega) | simp) _) | (with_reducible refine Below.drew ?_) | (with_reducible refine below_drewN ?_ _)))
  have qt0 : W0.cell? ⟨w.heap.size, 0, none⟩ = some (.int .i64 e) := by subst hW0; simp [go_sem]
  have qt1 : W0.cell? ⟨w.heap.size, 1, none⟩ = some (.slice sao L scap) := by subst hW0; simp [go_sem]
  have HSZ := Lib.hid (show W0.heap.size = w.heap.size + 1 by subst hW0; simp)
  have sz0 : w.heap.size < W0.heap.size := by have := HSZ.out; omega
  go_enter Try.func96, Try.ntmps96
  go_wp2
  rw [← hW0]
  clear hW0
  go_loopw [5, 6, 8, 9, 13] (fun s5 _ _ _ s13 wr => ∃ i : Nat, i ≤ L ∧ s13 = .int .i64 i ∧ Hid (GL true W0.heap.size W0.heap.size wr.heap.size wr 36 s5 (redTo rs (e, ts) i)) ∧ Below W0.heap.size W0 wr) (fun _ _ _ _ s13 _ => L - (intOf s13).toNat)
  case atStart => exact ⟨0, Nat.zero_le _, rfl, Lib.hid (GL.start _ _ _ _ _ _), (by repeat' (first | (with_reducible exact Below.refl _ _) | (with_reducible assumption) | (with_reducible refine Below.alloc ?_ (by first | omega | (simp; omega) | simp) _) | (with_reducible refine Below.setCell ?_ (by first | omega | (simp; omega) | simp) _) | (with_reducible refine Below.drew ?_) | (with_reducible refine below_drewN ?_ _)))⟩
  case round =>
    obtain ⟨wb, hwb⟩ : ∃ wm : World, wm = wr := ⟨_, rfl⟩
    subst hwb
    obtain ⟨i, hi1, rfl, hG, hbb⟩ := hrel
    have sbb := hbb.size
    have hBb : Below w.heap.size w wb := hB0.trans (hbb.mono hB0.size)
    have pt0 := oldc hbb (by omega) qt0
    have pt1 := oldc hbb (by omega) qt1
    by_cases hli : i < L
    · have hI : (i : Int) < (L : Int) := by omega
      have HLI := Lib.hid (HLEN.out i hli)
      go_wp2
      go_loopw [5, 8, 9, 18] (fun s5 _ _ s18 wr => ∃ k : Nat, k ≤ rs.length ∧ s18 = .int .i64 k ∧ Hid (GL true W0.heap.size W0.heap.size wr.heap.size wr 36 s5 (redIn (rs.take k) (e, ts) i (redTo rs (e, ts) i))) ∧ Below W0.heap.size W0 wr) (fun _ _ _ s18 _ => rs.length - (intOf s18).toNat)
      case atStart => exact ⟨0, Nat.zero_le _, rfl, Lib.hid hG.out, hbb⟩
      case round =>
        clear hG hbb pt0 pt1 hBb sbb
        obtain ⟨wd, hwd⟩ : ∃ wm : World, wm = wr := ⟨_, rfl⟩
        subst hwd
        obtain ⟨k, hk1, rfl, hG, hcd⟩ := hrel
        have scd := hcd.size
        have hBwd : Below w.heap.size w wd := hB0.trans (hcd.mono hB0.size)
        have mt0 := oldc hcd (by omega) qt0
        have mt1 := oldc hcd (by omega) qt1
        by_cases hlk : k < rs.length
        · have hK : (k : Int) < (rs.length : Int) := by omega
          obtain ⟨b, off, nm, sx, pl, fr, tw, vfr, vtw, rfl, hx, c0, c1, c2, c3, c4, -, -, -, hfr, htw, hri, -, -, hbl⟩ := (HZ.out.below hBwd).dRul_at hlk
          obtain ⟨fao, fn, fcap, rfl, -⟩ := hfr.shape
          obtain ⟨tao, tn, tcap, rfl, -⟩ := htw.shape
          have HX2 := Lib.hid (redIn_take (t := (e, ts)) (i := i) (out := redTo rs (e, ts) i) hx.out)
          have HRI := Lib.hid hri
          have HIR := Lib.hid (HRS.out _ (List.mem_of_getElem? hx.out))
          obtain ⟨O, hO⟩ : ∃ O, O = redIn (rs.take k) (e, ts) i (redTo rs (e, ts) i) := ⟨_, rfl⟩
          have hOl : O.length ≤ 200 := by
            rw [hO]
            have h1 := redIn_len (e, ts) i (rs.take k) (redTo rs (e, ts) i)
            have h2 := HLI.out
            have h3 : (rs.take k).length ≤ rs.length := by rw [List.length_take]; omega
            omega
          rw [← hO] at hG HX2
          have HG := Lib.hid hG.out
          obtain ⟨r1, hlet_r1⟩ : ∃ r, r = fitsB (nm, sx, pl, fr, tw) (e, ts) i := ⟨_, rfl⟩
          have HF := Lib.hid hlet_r1
          clear hlet_r1
          clear hx hfr htw hri hO hG
          obtain ⟨oao, ocap, ho5, -, -⟩ := HG.out.len
          subst ho5
          have l_t : w.heap.size < wd.heap.size := by omega
          have q_t0 := mt0
          have q_t1 := mt1
          clear mt0 mt1
          have hwd1 : Below wd.heap.size wd wd := Below.refl _ _
          have hcdx : Below W0.heap.size W0 wd := hcd
          go_wp2_with fail
          refine (fitsI_b _ _ _ _ _ _ _ _ (nm, sx, pl, fr, tw) (e, ts) (HRI.out.below (by repeat' (first | (with_reducible exact Below.refl _ _) | (with_reducible assumption) | (with_reducible refine Below.alloc ?_ (by first | omega | (simp; omega) | simp) _) | (with_reducible refine Below.setCell ?_ (by first | omega | (simp; omega) | simp) _) | (with_reducible refine Below.drew ?_) | (with_reducible refine below_drewN ?_ _)))) (HT.out.below (by repeat' (first | (with_reducible exact Below.refl _ _) | (with_reducible assumption) | (with_reducible refine Below.alloc ?_ (by first | omega | (simp; omega) | simp) _) | (with_reducible refine Below.setCell ?_ (by first | omega | (simp; omega) | simp) _) | (with_reducible refine Below.drew ?_) | (with_reducible refine below_drewN ?_ _)))) HIR.out HK.out i (show i < ts.length by rw [← HL.out]; exact hli) r1 HF.out).mono ?_
          rintro e2 w2 ⟨rfl, hbw2⟩
          have hpw2 : Below wd.heap.size wd w2 := Below.after (by repeat' (first | (with_reducible exact Below.refl _ _) | (with_reducible assumption) | (with_reducible refine Below.alloc ?_ (by first | omega | (simp; omega) | simp) _) | (with_reducible refine Below.setCell ?_ (by first | omega | (simp; omega) | simp) _) | (with_reducible refine Below.drew ?_) | (with_reducible refine below_drewN ?_ _))) hbw2 (by first | omega | (simp only [World.size_alloc, World.size_setCell, World.size_drew] at *; omega) | (simp; omega) | simp)
          have sw2 := hpw2.size
          have hBw2 : Below w.heap.size w w2 := Below.trans hBwd (Below.mono hpw2 hBwd.size)
          have q_t0 := oldc hpw2 l_t q_t0
          have q_t1 := oldc hpw2 l_t q_t1
          have l_t := Nat.lt_of_lt_of_le l_t sw2
          have l_r : wd.heap.size < w2.heap.size := by have := hbw2.size; simp at this; omega
          have q_r0 : w2.cell? ⟨wd.heap.size, 0, none⟩ = some (.string nm) := oldc hbw2 (by first | omega | (simp; omega) | (simp; done)) (by simp [go_sem])
          have q_r1 : w2.cell? ⟨wd.heap.size, 1, none⟩ = some (.int .i64 sx) := oldc hbw2 (by first | omega | (simp; omega) | (simp; done)) (by simp [go_sem])
          have q_r2 : w2.cell? ⟨wd.heap.size, 2, none⟩ = some (.int .i64 pl) := oldc hbw2 (by first | omega | (simp; omega) | (simp; done)) (by simp [go_sem])
          have q_r3 : w2.cell? ⟨wd.heap.size, 3, none⟩ = some (.slice fao fn fcap) := oldc hbw2 (by first | omega | (simp; omega) | (simp; done)) (by simp [go_sem])
          have q_r4 : w2.cell? ⟨wd.heap.size, 4, none⟩ = some (.slice tao tn tcap) := oldc hbw2 (by first | omega | (simp; omega) | (simp; done)) (by simp [go_sem])
          have hwd1 := Below.trans hwd1 (Below.mono hpw2 (by omega))
          have hcdx := Below.trans hcdx (Below.mono hpw2 (by omega))
          clear hbw2 hpw2
          clear c0 c1 c2 c3 c4
          cases r1
          · have HN := Lib.hid (show GL true W0.heap.size W0.heap.size (w2).heap.size w2 36 (.slice oao O.length ocap) (redIn (rs.take (k + 1)) (e, ts) i (redTo rs (e, ts) i)) by
              rw [HX2.out]
              unfold redStep
              rw [if_neg (by rw [← HF.out]; decide)]
              exact (HG.out.below hwd1).top)
            clear HG HX2 HRI HIR HF hcd
            go_wp2
            go_roundw
            case rel => exact ⟨k + 1, by omega, by go_num, HN, hcdx⟩
            case measure => simp [intOf]; omega
          have HFI := Lib.hid (show i + fr.length ≤ ts.length from (fits_facts HF.out.symm).1)
          go_wp2_with fail
          refine (replI_any _ _ _ _ _ _ _ _ (nm, sx, pl, fr, tw) (e, ts) (HRI.out.below hwd1) (HT.out.below hBw2) HIR.out HK.out i HFI.out).mono ?_
          rintro e3 w3 ⟨ra, rb, rfl, hoR, hbw3⟩
          have hpw3 : Below w2.heap.size w2 w3 := Below.after (by repeat' (first | (with_reducible exact Below.refl _ _) | (with_reducible assumption) | (with_reducible refine Below.alloc ?_ (by first | omega | (simp; omega) | simp) _) | (with_reducible refine Below.setCell ?_ (by first | omega | (simp; omega) | simp) _) | (with_reducible refine Below.drew ?_) | (with_reducible refine below_drewN ?_ _))) hbw3 (by first | omega | (simp only [World.size_alloc, World.size_setCell, World.size_drew] at *; omega) | (simp; omega) | simp)
          have sw3 := hpw3.size
          have hBw3 : Below w.heap.size w w3 := Below.trans hBw2 (Below.mono hpw3 hBw2.size)
          have q_t0 := oldc hpw3 l_t q_t0
          have q_t1 := oldc hpw3 l_t q_t1
          have q_r0 := oldc hpw3 l_r q_r0
          have q_r1 := oldc hpw3 l_r q_r1
          have q_r2 := oldc hpw3 l_r q_r2
          have q_r3 := oldc hpw3 l_r q_r3
          have q_r4 := oldc hpw3 l_r q_r4
          have l_r := Nat.lt_of_lt_of_le l_r sw3
          have l_t := Nat.lt_of_lt_of_le l_t sw3
          have hwd1 := Below.trans hwd1 (Below.mono hpw3 (by omega))
          have hcdx := Below.trans hcdx (Below.mono hpw3 (by omega))
          clear hbw3 hpw3
          obtain ⟨rfl, -, hrb⟩ := hoR.rd.kin
          obtain ⟨rao, rn, rcap, rfl, -⟩ := hrb.shape
          clear hrb
          obtain ⟨U, hU⟩ : ∃ U, U = replT (nm, sx, pl, fr, tw) (e, ts) i := ⟨_, rfl⟩
          rw [← hU] at hoR
          have HU := Lib.hid hU
          rw [← hU]
          clear hU
          obtain ⟨r2, hlet_r2⟩ : ∃ r, r = decide (U ∈ O) := ⟨_, rfl⟩
          have H2 := Lib.hid hlet_r2
          clear hlet_r2
          go_wp2_with fail
          refine (hasI_b _ _ _ _ O U ((HG.out.below hwd1).rd (Nat.le_refl _) (Nat.le_refl _) |>.below (by repeat' (first | (with_reducible exact Below.refl _ _) | (with_reducible assumption) | (with_reducible refine Below.alloc ?_ (by first | omega | (simp; omega) | simp) _) | (with_reducible refine Below.setCell ?_ (by first | omega | (simp; omega) | simp) _) | (with_reducible refine Below.drew ?_) | (with_reducible refine below_drewN ?_ _)))) (hoR.rd.below (by repeat' (first | (with_reducible exact Below.refl _ _) | (with_reducible assumption) | (with_reducible refine Below.alloc ?_ (by first | omega | (simp; omega) | simp) _) | (with_reducible refine Below.setCell ?_ (by first | omega | (simp; omega) | simp) _) | (with_reducible refine Below.drew ?_) | (with_reducible refine below_drewN ?_ _)))) r2 H2.out).mono ?_
          rintro e4 w4 ⟨rfl, hbw4⟩
          have hpw4 : Below w3.heap.size w3 w4 := Below.after (by repeat' (first | (with_reducible exact Below.refl _ _) | (with_reducible assumption) | (with_reducible refine Below.alloc ?_ (by first | omega | (simp; omega) | simp) _) | (with_reducible refine Below.setCell ?_ (by first | omega | (simp; omega) | simp) _) | (with_reducible refine Below.drew ?_) | (with_reducible refine below_drewN ?_ _))) hbw4 (by first | omega | (simp only [World.size_alloc, World.size_setCell, World.size_drew] at *; omega) | (simp; omega) | simp)
          have sw4 := hpw4.size
          have hBw4 : Below w.heap.size w w4 := Below.trans hBw3 (Below.mono hpw4 hBw3.size)
          have q_t0 := oldc hpw4 l_t q_t0
          have q_t1 := oldc hpw4 l_t q_t1
          have q_r0 := oldc hpw4 l_r q_r0
          have q_r1 := oldc hpw4 l_r q_r1
          have q_r2 := oldc hpw4 l_r q_r2
          have q_r3 := oldc hpw4 l_r q_r3
          have q_r4 := oldc hpw4 l_r q_r4
          have l_r := Nat.lt_of_lt_of_le l_r sw4
          have l_t := Nat.lt_of_lt_of_le l_t sw4
          have l_x : w3.heap.size < w4.heap.size := by have := hbw4.size; simp at this; omega
          have q_x0 : w4.cell? ⟨w3.heap.size, 0, none⟩ = some (.int .i64 U.1) := oldc hbw4 (by first | omega | (simp; omega) | (simp; done)) (by simp [go_sem])
          have q_x1 : w4.cell? ⟨w3.heap.size, 1, none⟩ = some (.slice rao rn rcap) := oldc hbw4 (by first | omega | (simp; omega) | (simp; done)) (by simp [go_sem])
          have hoR := Ow.below hoR hpw4
          have hwd1 := Below.trans hwd1 (Below.mono hpw4 (by omega))
          have hcdx := Below.trans hcdx (Below.mono hpw4 (by omega))
          clear hbw4 hpw4
          cases r2
          rotate_left
          · have HN := Lib.hid (show GL true W0.heap.size W0.heap.size (w4).heap.size w4 36 (.slice oao O.length ocap) (redIn (rs.take (k + 1)) (e, ts) i (redTo rs (e, ts) i)) by
              rw [HX2.out]
              unfold redStep
              rw [if_pos HF.out.symm, ← HU.out, if_pos (of_decide_eq_true H2.out.symm)]
              exact (HG.out.below hwd1).top)
            clear HG HX2 HRI HIR HF hcd hoR H2 HU
            go_wp2
            go_roundw
            case rel => exact ⟨k + 1, by omega, by go_num, HN, hcdx⟩
            case measure => simp [intOf]; omega
          have HNE := Lib.hid (show redIn (rs.take (k + 1)) (e, ts) i (redTo rs (e, ts) i) = O ++ [U] by
            rw [HX2.out]
            unfold redStep
            rw [if_pos HF.out.symm, ← HU.out, if_neg (of_decide_eq_false H2.out.symm)])
          have HG3 := Lib.hid (HG.out.below hwd1)
          have HOR := Lib.hid hoR
          clear HG HX2 HRI HIR HF hcd hoR H2 HU
          go_wp2_with (at_builtin; refine wpList_push rfl rfl slKin (by show (0 : Nat) < 2; omega) (HG3.out.alloc _) rfl (ad := ⟨(w4).heap.size, 0, none⟩) rfl (cs := [.int .i64 U.1, .slice rao rn rcap]) (y := U) ?k4 ((HOR.out.below ?k6).it) ?k7 (.inl ?k8) (by unfold maxLen; omega) (by omega) (by simp; omega) ?_)
          case k4 =>
            intro j c hj
            match j, hj with
            | 0, hj => simp at hj; subst hj; simp [Addr.add, go_sem]
            | 1, hj => simp at hj; subst hj; simp [Addr.add, go_sem]
          case k6 => exact (by repeat' (first | (with_reducible exact Below.refl _ _) | (with_reducible assumption) | (with_reducible refine Below.alloc ?_ (by first | omega | (simp; omega) | simp) _) | (with_reducible refine Below.setCell ?_ (by first | omega | (simp; omega) | simp) _) | (with_reducible refine Below.drew ?_) | (with_reducible refine below_drewN ?_ _)))
          case k7 => omega
          case k8 => omega
          rintro v5 w5 hG5 _ hb5
          have HN := Lib.hid (show GL true W0.heap.size W0.heap.size w5.heap.size w5 36 v5 (redIn (rs.take (k + 1)) (e, ts) i (redTo rs (e, ts) i)) by rw [HNE.out]; exact hG5)
          have hc5 : Below W0.heap.size W0 w5 := Below.trans (show Below W0.heap.size W0 _ from (by repeat' (first | (with_reducible exact Below.refl _ _) | (with_reducible assumption) | (with_reducible refine Below.alloc ?_ (by first | omega | (simp; omega) | simp) _) | (with_reducible refine Below.setCell ?_ (by first | omega | (simp; omega) | simp) _) | (with_reducible refine Below.drew ?_) | (with_reducible refine below_drewN ?_ _)))) hb5
          clear hG5 hb5 HG3 HOR HNE
          go_wp2
          go_roundw
          case rel => exact ⟨k + 1, by omega, by go_num, HN, hc5⟩
          case measure => simp [intOf]; omega
        · have hK : ¬ (k : Int) < (rs.length : Int) := by omega
          have HN := Lib.hid (show GL true W0.heap.size W0.heap.size wd.heap.size wd 36 _ (redTo rs (e, ts) (i + 1)) by
            have e1 := hG.out
            rw [List.take_of_length_le (by omega)] at e1
            rw [redTo_succ]; exact e1)
          clear hG
          go_wp2
          go_roundw
          case rel => exact ⟨i + 1, by omega, by go_num, HN, hcd⟩
          case measure => simp [intOf]; omega
    · obtain rfl : i = L := by omega
      have hI : ¬ (i : Int) < (i : Int) := by omega
      have HOW := Lib.hid ((hG.out.ow (l0 := W0.heap.size) (Nat.le_refl _) (Nat.le_refl _)).mono hB0.size (Nat.le_refl _))
      clear hG
      go_wp2
      go_ret
      exact ⟨_, rfl, by rw [HX.out]; exact HOW.out, hBb⟩
set_option maxRecDepth 20000 in
set_option maxHeartbeats 8000000 in
theorem reductsOfI_any {z z1 : Bool} {lo hi lo1 hi1 : Nat} (w : World) (v a b : Value) (rs : List Rul) (t : Kin) (h : Rd z lo hi w [v] rs) (h' : Rd z1 lo1 hi1 w [a, b] t) :
    Calls Try.prog 38 #[v, .agg #[a, b]] w (PostOw w (redX rs t)) := by
  obtain ⟨ao, n, cap, rfl, rfl, hnc, hcm, -⟩ := h.shape
  have HT := Lib.hid h'
  obtain ⟨rfl, -, hb⟩ := h'.kin
  obtain ⟨sao, sn, scap, rfl, -⟩ := hb.shape
  obtain ⟨r1, hlet_r1⟩ : ∃ r, r = areRules rs := ⟨_, rfl⟩
  have H1 := Lib.hid hlet_r1
  clear hlet_r1
  obtain ⟨r2, hlet_r2⟩ : ∃ r, r = isKin t := ⟨_, rfl⟩
  have H2 := Lib.hid hlet_r2
  clear hlet_r2
  obtain ⟨X, hX⟩ : ∃ X, X = redX rs t := ⟨_, rfl⟩
  rw [← hX]
  have HX := Lib.hid (show X = if (r1 && r2) = true then redL rs t else [] by rw [hX, redX, redV, H1.out, H2.out])
  clear hX h' hb
  go_enter Try.func38, Try.ntmps38
  go_wp2_with fail
  refine (areRulesI_b _ _ rs (h.below (by repeat' (first | (with_reducible exact Below.refl _ _) | (with_reducible assumption) | (with_reducible refine Below.alloc ?_ (by first | omega | (simp; omega) | simp) _) | (with_reducible refine Below.setCell ?_ (by first | omega | (simp; omega) | simp) _) | (with_reducible refine Below.drew ?_) | (with_reducible refine below_drewN ?_ _)))) r1 H1.out).mono ?_
  rintro e5 w5 ⟨rfl, hbw5⟩
  have hpw5 : Below w.heap.size w w5 := Below.after (by repeat' (first | (with_reducible exact Below.refl _ _) | (with_reducible assumption) | (with_reducible refine Below.alloc ?_ (by first | omega | (simp; omega) | simp) _) | (with_reducible refine Below.setCell ?_ (by first | omega | (simp; omega) | simp) _) | (with_reducible refine Below.drew ?_) | (with_reducible refine below_drewN ?_ _))) hbw5 (by first | omega | (simp only [World.size_alloc, World.size_setCell, World.size_drew] at *; omega) | (simp; omega) | simp)
  have sw5 := hpw5.size
  have hBw5 : Below w.heap.size w w5 := hpw5
  have l_t : w.heap.size < w5.heap.size := by have := hbw5.size; simp at this; omega
  have q_t0 : w5.cell? ⟨w.heap.size, 0, none⟩ = some (.int .i64 t.1) := oldc hbw5 (by first | omega | (simp; omega) | (simp; done)) (by simp [go_sem])
  have q_t1 : w5.cell? ⟨w.heap.size, 1, none⟩ = some (.slice sao sn scap) := oldc hbw5 (by first | omega | (simp; omega) | (simp; done)) (by simp [go_sem])
  clear hbw5 hpw5
  cases r1
  · obtain rfl : X = [] := by rw [HX.out]; rfl
    clear HX H1 H2 h
    go_wp2
    go_ret
    exact ⟨_, rfl, Ow.nil _ _ _, hBw5⟩
  go_wp2_with fail
  refine (isTypeI_b _ _ _ t (HT.out.below (by repeat' (first | (with_reducible exact Below.refl _ _) | (with_reducible assumption) | (with_reducible refine Below.alloc ?_ (by first | omega | (simp; omega) | simp) _) | (with_reducible refine Below.setCell ?_ (by first | omega | (simp; omega) | simp) _) | (with_reducible refine Below.drew ?_) | (with_reducible refine below_drewN ?_ _)))) r2 H2.out).mono ?_
  rintro e6 w6 ⟨rfl, hbw6⟩
  have hpw6 : Below w5.heap.size w5 w6 := Below.after (by repeat' (first | (with_reducible exact Below.refl _ _) | (with_reducible assumption) | (with_reducible refine Below.alloc ?_ (by first | omega | (simp; omega) | simp) _) | (with_reducible refine Below.setCell ?_ (by first | omega | (simp; omega) | simp) _) | (with_reducible refine Below.drew ?_) | (with_reducible refine below_drewN ?_ _))) hbw6 (by first | omega | (simp only [World.size_alloc, World.size_setCell, World.size_drew] at *; omega) | (simp; omega) | simp)
  have sw6 := hpw6.size
  have hBw6 : Below w.heap.size w w6 := Below.trans hBw5 (Below.mono hpw6 hBw5.size)
  have q_t0 := oldc hpw6 l_t q_t0
  have q_t1 := oldc hpw6 l_t q_t1
  have l_t := Nat.lt_of_lt_of_le l_t sw6
  clear hbw6 hpw6
  cases r2
  · obtain rfl : X = [] := by rw [HX.out]; rfl
    clear HX H1 H2 h
    go_wp2
    go_ret
    exact ⟨_, rfl, Ow.nil _ _ _, hBw6⟩
  have HF := areRules_facts H1.out.symm
  have HRS := Lib.hid HF.2.1
  have hrl : rs.length ≤ 12 := HF.1
  clear HF
  go_wp2_with fail
  refine (reductsI_any _ _ _ _ rs t (h.below (by repeat' (first | (with_reducible exact Below.refl _ _) | (with_reducible assumption) | (with_reducible refine Below.alloc ?_ (by first | omega | (simp; omega) | simp) _) | (with_reducible refine Below.setCell ?_ (by first | omega | (simp; omega) | simp) _) | (with_reducible refine Below.drew ?_) | (with_reducible refine below_drewN ?_ _)))) (HT.out.below (by repeat' (first | (with_reducible exact Below.refl _ _) | (with_reducible assumption) | (with_reducible refine Below.alloc ?_ (by first | omega | (simp; omega) | simp) _) | (with_reducible refine Below.setCell ?_ (by first | omega | (simp; omega) | simp) _) | (with_reducible refine Below.drew ?_) | (with_reducible refine below_drewN ?_ _)))) HRS.out hrl H2.out.symm).mono ?_
  rintro e7 w7 ⟨u, rfl, ho, hbw7⟩
  have hpw7 : Below w6.heap.size w6 w7 := Below.after (by repeat' (first | (with_reducible exact Below.refl _ _) | (with_reducible assumption) | (with_reducible refine Below.alloc ?_ (by first | omega | (simp; omega) | simp) _) | (with_reducible refine Below.setCell ?_ (by first | omega | (simp; omega) | simp) _) | (with_reducible refine Below.drew ?_) | (with_reducible refine below_drewN ?_ _))) hbw7 (by first | omega | (simp only [World.size_alloc, World.size_setCell, World.size_drew] at *; omega) | (simp; omega) | simp)
  have sw7 := hpw7.size
  have hBw7 : Below w.heap.size w w7 := Below.trans hBw6 (Below.mono hpw7 hBw6.size)
  have q_t0 := oldc hpw7 l_t q_t0
  have q_t1 := oldc hpw7 l_t q_t1
  have l_t := Nat.lt_of_lt_of_le l_t sw7
  clear hbw7 hpw7
  have HF := Lib.hid (show redL rs t = X by rw [HX.out]; rfl)
  have HO := Lib.hid ho
  clear HX H1 H2 h HRS ho
  go_wp2
  go_ret
  exact ⟨_, rfl, by rw [← HF.out]; exact HO.out.mono (by omega) (Nat.le_refl _), hBw7⟩

/-! ### RedS -/

set_option maxRecDepth 20000 in
set_option maxHeartbeats 8000000 in
theorem hasS_b {z z1 : Bool} {lo hi lo1 hi1 : Nat} (w : World) (v a b : Value) (l : List Kin) (t : Kin) (h : Rd z lo hi w [v] l) (h' : Rd z1 lo1 hi1 w [a, b] t) (R : Bool) (hR : R = decide (t ∈ l)) :
    Calls Try.prog 137 #[v, .agg #[a, b]] w (PostB w R) := by
  obtain ⟨ao, n, cap, rfl, rfl, hnc, hcm, -⟩ := h.shape
  unfold maxLen at hcm
  have HT := Lib.hid h'
  have HZ := Lib.hid h
  have HR := Lib.hid hR
  obtain ⟨rfl, -, hb⟩ := h'.kin
  obtain ⟨sao, sn, scap, rfl, -⟩ := hb.shape
  clear h' hR hb
  obtain ⟨W0, hW0⟩ : ∃ W : World, W = w.alloc (.cells #[.int .i64 t.1, .slice sao sn scap] 36) := ⟨_, rfl⟩
  have hB0 : Below w.heap.size w W0 := by subst hW0; exact (by repeat' (first | (with_reducible exact Below.refl _ _) | (with_reducible assumption) | (with_reducible refine Below.alloc ?_ (by first | omega | (simp; omega) | simp) _) | (with_reducible refine Below.setCell ?_ (by first | omega | (simp; omega) | simp) _) | (with_reducible refine Below.drew ?_) | (with_reducible refine below_drewN ?_ _)))
  have qt0 : W0.cell? ⟨w.heap.size, 0, none⟩ = some (.int .i64 t.1) := by subst hW0; simp [go_sem]
  have qt1 : W0.cell? ⟨w.heap.size, 1, none⟩ = some (.slice sao sn scap) := by subst hW0; simp [go_sem]
  have sz0 : W0.heap.size = w.heap.size + 1 := by subst hW0; simp
  go_enter Try.func137, Try.ntmps137
  go_wp2
  rw [← hW0]
  clear hW0
  go_loopw [6, 9] (fun _ s9 wr => ∃ i : Nat, i ≤ l.length ∧ s9 = .int .i64 i ∧ Hid (∀ y ∈ l.take i, t ≠ y) ∧ Below W0.heap.size W0 wr) (fun _ s9 _ => l.length - (intOf s9).toNat)
  case atStart => exact ⟨0, Nat.zero_le _, rfl, Lib.hid (by simp), Below.refl _ _⟩
  case round =>
    obtain ⟨wb, hwb⟩ : ∃ wm : World, wm = wr := ⟨_, rfl⟩
    subst hwb
    obtain ⟨i, hi1, rfl, hN, hbb⟩ := hrel
    have sbb := hbb.size
    have hBwb : Below w.heap.size w wb := hB0.trans (hbb.mono hB0.size)
    have l_t : w.heap.size < wb.heap.size := by omega
    have q_t0 := oldc hbb (by omega) qt0
    have q_t1 := oldc hbb (by omega) qt1
    by_cases hli : i < l.length
    · have hI : (i : Int) < (l.length : Int) := by omega
      obtain ⟨xb, xoff, y, yv, rfl, hy, c0, c1, -, hys, hyr, -, -, xbl⟩ := (HZ.out.below hBwb).kin_at hli
      obtain ⟨yao, yn, ycap, rfl, -⟩ := hys.shape
      have HY := Lib.hid hy.out
      have HYR := Lib.hid hyr
      obtain ⟨r1, hlet_r1⟩ : ∃ r, r = decide (t = y) := ⟨_, rfl⟩
      have H1 := Lib.hid hlet_r1
      clear hlet_r1
      clear hy hys hyr
      go_wp2_with fail
      refine (eqTypesS_b _ _ _ _ _ t y (HT.out.below ?b1) (HYR.out.below ?b2) r1 H1.out).mono ?_
      case b1 => exact (by repeat' (first | (with_reducible exact Below.refl _ _) | (with_reducible assumption) | (with_reducible refine Below.alloc ?_ (by first | omega | (simp; omega) | simp) _) | (with_reducible refine Below.setCell ?_ (by first | omega | (simp; omega) | simp) _) | (with_reducible refine Below.drew ?_) | (with_reducible refine below_drewN ?_ _)))
      case b2 => exact (by repeat' (first | (with_reducible exact Below.refl _ _) | (with_reducible assumption) | (with_reducible refine Below.alloc ?_ (by first | omega | (simp; omega) | simp) _) | (with_reducible refine Below.setCell ?_ (by first | omega | (simp; omega) | simp) _) | (with_reducible refine Below.drew ?_) | (with_reducible refine below_drewN ?_ _)))
      rintro e w2 ⟨rfl, hb2⟩
      have hbb2 : Below W0.heap.size W0 w2 := Below.after (show Below W0.heap.size W0 _ from (by repeat' (first | (with_reducible exact Below.refl _ _) | (with_reducible assumption) | (with_reducible refine Below.alloc ?_ (by first | omega | (simp; omega) | simp) _) | (with_reducible refine Below.setCell ?_ (by first | omega | (simp; omega) | simp) _) | (with_reducible refine Below.drew ?_) | (with_reducible refine below_drewN ?_ _)))) hb2 (by simp; omega)
      have hB2 : Below w.heap.size w w2 := hB0.trans (hbb2.mono hB0.size)
      clear hb2 c0 c1
      cases r1
      · have HN := Lib.hid (show ∀ y ∈ l.take (i + 1), t ≠ y by
          rw [take_snoc HY.out]
          intro x hx
          rcases List.mem_append.1 hx with hx | hx
          · exact hN.out x hx
          · simp at hx; subst hx; exact of_decide_eq_false H1.out.symm)
        clear hN HY H1 HYR HR
        go_wp2
        go_roundw
        case rel => exact ⟨i + 1, by omega, by go_num, HN, hbb2⟩
        case measure => simp [intOf]; omega
      · have HF := Lib.hid (show R = true by rw [HR.out]; refine decide_eq_true ?_; have := of_decide_eq_true H1.out.symm; rw [this]; exact List.mem_of_getElem? HY.out)
        clear hN HY H1 HYR HR
        go_wp2
        go_ret
        exact ⟨ret_bool HF.out.symm, hB2⟩
    · have hI : ¬ (i : Int) < (l.length : Int) := by omega
      have HF := Lib.hid (show R = false by rw [HR.out]; refine decide_eq_false fun e => ?_; have := hN.out t (by rw [List.take_of_length_le (by omega)]; exact e); exact this rfl)
      clear hN HR
      go_wp2
      go_ret
      exact ⟨ret_bool HF.out.symm, hBwb⟩
set_option maxRecDepth 20000 in
set_option maxHeartbeats 16000000 in
theorem reductsS_any {z z1 : Bool} {lo hi lo1 hi1 : Nat} (w : World) (v a b : Value) (rs : List Rul) (t : Kin) (h : Rd z lo hi w [v] rs) (h' : Rd z1 lo1 hi1 w [a, b] t) (hr : allRules rs) (hrl : rs.length ≤ 12) (ht : isKin t = true) :
    Calls Try.prog 93 #[v, .agg #[a, b]] w (PostOw w (redL rs t)) := by
  obtain ⟨ao, n, cap, rfl, rfl, hnc, hcm, -⟩ := h.shape
  have HT := Lib.hid h'
  obtain ⟨rfl, hI, hb⟩ := h'.kin
  obtain ⟨e, ts⟩ := t
  dsimp only at hb hI
  obtain ⟨sao, sn, scap, rfl, hsn, hsc, hsm, -⟩ := hb.shape
  unfold maxLen at hcm hsm
  have HK := Lib.hid ht
  have HRS := Lib.hid hr
  have hs8 : ts.length ≤ 8 := (isKin_facts ht).2.1
  obtain ⟨L, hL⟩ : ∃ L, L = ts.length := ⟨_, rfl⟩
  subst hsn
  rw [← hL] at hs8 hsc HT ⊢
  have HL := Lib.hid hL
  have HZ := Lib.hid h
  obtain ⟨X, hX⟩ : ∃ X, X = redL rs (e, ts) := ⟨_, rfl⟩
  rw [← hX]
  have HX := Lib.hid (show X = redTo rs (e, ts) L by rw [hX, redL, hL])
  have HLEN := Lib.hid (show ∀ i, i < L → (redTo rs (e, ts) i).length ≤ 96 from fun i hi => by
    have h1 := redTo_len rs (e, ts) i
    have h2 : i * rs.length ≤ 8 * 12 := Nat.mul_le_mul (by omega) hrl
    omega)
  clear h' hr ht hI hb hL hX
  obtain ⟨W0, hW0⟩ : ∃ W : World, W = w.alloc (.cells #[.int .i64 e, .slice sao L scap] 36) := ⟨_, rfl⟩
  have hB0 : Below w.heap.size w W0 := by subst hW0; exact (by repeat' (first | (with_reducible exact Below.refl _ _) | (with_reducible assumption) | (with_reducible refine Below.alloc ?_ (by first | omega | (simp; omega) | simp) _) | (with_reducible refine Below.setCell ?_ (by first | omega | (simp; omega) | simp) _) | (with_reducible refine Below.drew ?_) | (with_reducible refine below_drewN ?_ _)))
  have qt0 : W0.cell? ⟨w.heap.size, 0, none⟩ = some (.int .i64 e) := by subst hW0; simp [go_sem]
  have qt1 : W0.cell? ⟨w.heap.size, 1, none⟩ = some (.slice sao L scap) := by subst hW0; simp [go_sem]
  have HSZ := Lib.hid (show W0.heap.size = w.heap.size + 1 by subst hW0; simp)
  have sz0 : w.heap.size < W0.heap.size := by have := HSZ.out; omega
  have HG0 := Lib.hid (GL.lit0 (α := Kin) true W0.heap.size W0.heap.size W0 36 (Nat.le_refl _)).top
  go_enter Try.func93, Try.ntmps93
  go_wp2
  rw [← hW0]
  clear hW0
  go_loopw [5, 6, 8, 9, 14] (fun s5 _ _ _ s14 wr => ∃ i : Nat, i ≤ L ∧ s14 = .int .i64 i ∧ Hid (GL true W0.heap.size W0.heap.size wr.heap.size wr 36 s5 (redTo rs (e, ts) i)) ∧ Below W0.heap.size W0 wr) (fun _ _ _ _ s14 _ => L - (intOf s14).toNat)
  case atStart => exact ⟨0, Nat.zero_le _, rfl, Lib.hid (by rw [show w.heap.size + 1 = W0.heap.size from HSZ.out.symm]; exact HG0.out), (by repeat' (first | (with_reducible exact Below.refl _ _) | (with_reducible assumption) | (with_reducible refine Below.alloc ?_ (by first | omega | (simp; omega) | simp) _) | (with_reducible refine Below.setCell ?_ (by first | omega | (simp; omega) | simp) _) | (with_reducible refine Below.drew ?_) | (with_reducible refine below_drewN ?_ _)))⟩
  case round =>
    obtain ⟨wb, hwb⟩ : ∃ wm : World, wm = wr := ⟨_, rfl⟩
    subst hwb
    obtain ⟨i, hi1, rfl, hG, hbb⟩ := hrel
    clear HG0
    have sbb := hbb.size
    have hBb : Below w.heap.size w wb := hB0.trans (hbb.mono hB0.size)
    have pt0 := oldc hbb (by omega) qt0
    have pt1 := oldc hbb (by omega) qt1
    by_cases hli : i < L
    · have hI : (i : Int) < (L : Int) := by omega
      have HLI := Lib.hid (HLEN.out i hli)
      go_wp2
      go_loopw [5, 8, 9, 19] (fun s5 _ _ s19 wr => ∃ k : Nat, k ≤ rs.length ∧ s19 = .int .i64 k ∧ Hid (GL true W0.heap.size W0.heap.size wr.heap.size wr 36 s5 (redIn (rs.take k) (e, ts) i (redTo rs (e, ts) i))) ∧ Below W0.heap.size W0 wr) (fun _ _ _ s19 _ => rs.length - (intOf s19).toNat)
      case atStart => exact ⟨0, Nat.zero_le _, rfl, Lib.hid hG.out, hbb⟩
      case round =>
        clear hG hbb pt0 pt1 hBb sbb
        obtain ⟨wd, hwd⟩ : ∃ wm : World, wm = wr := ⟨_, rfl⟩
        subst hwd
        obtain ⟨k, hk1, rfl, hG, hcd⟩ := hrel
        have scd := hcd.size
        have hBwd : Below w.heap.size w wd := hB0.trans (hcd.mono hB0.size)
        have mt0 := oldc hcd (by omega) qt0
        have mt1 := oldc hcd (by omega) qt1
        by_cases hlk : k < rs.length
        · have hK : (k : Int) < (rs.length : Int) := by omega
          obtain ⟨b, off, nm, sx, pl, fr, tw, vfr, vtw, rfl, hx, c0, c1, c2, c3, c4, -, -, -, hfr, htw, hri, -, -, hbl⟩ := (HZ.out.below hBwd).dRul_at hlk
          obtain ⟨fao, fn, fcap, rfl, -⟩ := hfr.shape
          obtain ⟨tao, tn, tcap, rfl, -⟩ := htw.shape
          have HX2 := Lib.hid (redIn_take (t := (e, ts)) (i := i) (out := redTo rs (e, ts) i) hx.out)
          have HRI := Lib.hid hri
          have HIR := Lib.hid (HRS.out _ (List.mem_of_getElem? hx.out))
          obtain ⟨O, hO⟩ : ∃ O, O = redIn (rs.take k) (e, ts) i (redTo rs (e, ts) i) := ⟨_, rfl⟩
          have hOl : O.length ≤ 200 := by
            rw [hO]
            have h1 := redIn_len (e, ts) i (rs.take k) (redTo rs (e, ts) i)
            have h2 := HLI.out
            have h3 : (rs.take k).length ≤ rs.length := by rw [List.length_take]; omega
            omega
          rw [← hO] at hG HX2
          have HG := Lib.hid hG.out
          obtain ⟨r1, hlet_r1⟩ : ∃ r, r = fitsB (nm, sx, pl, fr, tw) (e, ts) i := ⟨_, rfl⟩
          have HF := Lib.hid hlet_r1
          clear hlet_r1
          clear hx hfr htw hri hO hG
          obtain ⟨oao, ocap, ho5, -, -⟩ := HG.out.len
          subst ho5
          have l_t : w.heap.size < wd.heap.size := by omega
          have q_t0 := mt0
          have q_t1 := mt1
          clear mt0 mt1
          have hwd1 : Below wd.heap.size wd wd := Below.refl _ _
          have hcdx : Below W0.heap.size W0 wd := hcd
          go_wp2_with fail
          refine (fitsS_b _ _ _ _ _ _ _ _ (nm, sx, pl, fr, tw) (e, ts) (HRI.out.below (by repeat' (first | (with_reducible exact Below.refl _ _) | (with_reducible assumption) | (with_reducible refine Below.alloc ?_ (by first | omega | (simp; omega) | simp) _) | (with_reducible refine Below.setCell ?_ (by first | omega | (simp; omega) | simp) _) | (with_reducible refine Below.drew ?_) | (with_reducible refine below_drewN ?_ _)))) (HT.out.below (by repeat' (first | (with_reducible exact Below.refl _ _) | (with_reducible assumption) | (with_reducible refine Below.alloc ?_ (by first | omega | (simp; omega) | simp) _) | (with_reducible refine Below.setCell ?_ (by first | omega | (simp; omega) | simp) _) | (with_reducible refine Below.drew ?_) | (with_reducible refine below_drewN ?_ _)))) HIR.out HK.out i (show i < ts.length by rw [← HL.out]; exact hli) r1 HF.out).mono ?_
          rintro e8 w8 ⟨rfl, hbw8⟩
          have hpw8 : Below wd.heap.size wd w8 := Below.after (by repeat' (first | (with_reducible exact Below.refl _ _) | (with_reducible assumption) | (with_reducible refine Below.alloc ?_ (by first | omega | (simp; omega) | simp) _) | (with_reducible refine Below.setCell ?_ (by first | omega | (simp; omega) | simp) _) | (with_reducible refine Below.drew ?_) | (with_reducible refine below_drewN ?_ _))) hbw8 (by first | omega | (simp only [World.size_alloc, World.size_setCell, World.size_drew] at *; omega) | (simp; omega) | simp)
          have sw8 := hpw8.size
          have hBw8 : Below w.heap.size w w8 := Below.trans hBwd (Below.mono hpw8 hBwd.size)
          have q_t0 := oldc hpw8 l_t q_t0
          have q_t1 := oldc hpw8 l_t q_t1
          have l_t := Nat.lt_of_lt_of_le l_t sw8
          have l_r : wd.heap.size < w8.heap.size := by have := hbw8.size; simp at this; omega
          have q_r0 : w8.cell? ⟨wd.heap.size, 0, none⟩ = some (.string nm) := oldc hbw8 (by first | omega | (simp; omega) | (simp; done)) (by simp [go_sem])
          have q_r1 : w8.cell? ⟨wd.heap.size, 1, none⟩ = some (.int .i64 sx) := oldc hbw8 (by first | omega | (simp; omega) | (simp; done)) (by simp [go_sem])
          have q_r2 : w8.cell? ⟨wd.heap.size, 2, none⟩ = some (.int .i64 pl) := oldc hbw8 (by first | omega | (simp; omega) | (simp; done)) (by simp [go_sem])
          have q_r3 : w8.cell? ⟨wd.heap.size, 3, none⟩ = some (.slice fao fn fcap) := oldc hbw8 (by first | omega | (simp; omega) | (simp; done)) (by simp [go_sem])
          have q_r4 : w8.cell? ⟨wd.heap.size, 4, none⟩ = some (.slice tao tn tcap) := oldc hbw8 (by first | omega | (simp; omega) | (simp; done)) (by simp [go_sem])
          have hwd1 := Below.trans hwd1 (Below.mono hpw8 (by omega))
          have hcdx := Below.trans hcdx (Below.mono hpw8 (by omega))
          clear hbw8 hpw8
          clear c0 c1 c2 c3 c4
          cases r1
          · have HN := Lib.hid (show GL true W0.heap.size W0.heap.size (w8).heap.size w8 36 (.slice oao O.length ocap) (redIn (rs.take (k + 1)) (e, ts) i (redTo rs (e, ts) i)) by
              rw [HX2.out]
              unfold redStep
              rw [if_neg (by rw [← HF.out]; decide)]
              exact (HG.out.below hwd1).top)
            clear HG HX2 HRI HIR HF hcd
            go_wp2
            go_roundw
            case rel => exact ⟨k + 1, by omega, by go_num, HN, hcdx⟩
            case measure => simp [intOf]; omega
          have HFI := Lib.hid (show i + fr.length ≤ ts.length from (fits_facts HF.out.symm).1)
          go_wp2_with fail
          refine (replS_any _ _ _ _ _ _ _ _ (nm, sx, pl, fr, tw) (e, ts) (HRI.out.below hwd1) (HT.out.below hBw8) HIR.out HK.out i HFI.out).mono ?_
          rintro e9 w9 ⟨ra, rb, rfl, hoR, hbw9⟩
          have hpw9 : Below w8.heap.size w8 w9 := Below.after (by repeat' (first | (with_reducible exact Below.refl _ _) | (with_reducible assumption) | (with_reducible refine Below.alloc ?_ (by first | omega | (simp; omega) | simp) _) | (with_reducible refine Below.setCell ?_ (by first | omega | (simp; omega) | simp) _) | (with_reducible refine Below.drew ?_) | (with_reducible refine below_drewN ?_ _))) hbw9 (by first | omega | (simp only [World.size_alloc, World.size_setCell, World.size_drew] at *; omega) | (simp; omega) | simp)
          have sw9 := hpw9.size
          have hBw9 : Below w.heap.size w w9 := Below.trans hBw8 (Below.mono hpw9 hBw8.size)
          have q_t0 := oldc hpw9 l_t q_t0
          have q_t1 := oldc hpw9 l_t q_t1
          have q_r0 := oldc hpw9 l_r q_r0
          have q_r1 := oldc hpw9 l_r q_r1
          have q_r2 := oldc hpw9 l_r q_r2
          have q_r3 := oldc hpw9 l_r q_r3
          have q_r4 := oldc hpw9 l_r q_r4
          have l_r := Nat.lt_of_lt_of_le l_r sw9
          have l_t := Nat.lt_of_lt_of_le l_t sw9
          have hwd1 := Below.trans hwd1 (Below.mono hpw9 (by omega))
          have hcdx := Below.trans hcdx (Below.mono hpw9 (by omega))
          clear hbw9 hpw9
          obtain ⟨rfl, -, hrb⟩ := hoR.rd.kin
          obtain ⟨rao, rn, rcap, rfl, -⟩ := hrb.shape
          clear hrb
          obtain ⟨U, hU⟩ : ∃ U, U = replT (nm, sx, pl, fr, tw) (e, ts) i := ⟨_, rfl⟩
          rw [← hU] at hoR
          have HU := Lib.hid hU
          rw [← hU]
          clear hU
          obtain ⟨r2, hlet_r2⟩ : ∃ r, r = decide (U ∈ O) := ⟨_, rfl⟩
          have H2 := Lib.hid hlet_r2
          clear hlet_r2
          go_wp2_with fail
          refine (hasS_b _ _ _ _ O U ((HG.out.below hwd1).rd (Nat.le_refl _) (Nat.le_refl _) |>.below (by repeat' (first | (with_reducible exact Below.refl _ _) | (with_reducible assumption) | (with_reducible refine Below.alloc ?_ (by first | omega | (simp; omega) | simp) _) | (with_reducible refine Below.setCell ?_ (by first | omega | (simp; omega) | simp) _) | (with_reducible refine Below.drew ?_) | (with_reducible refine below_drewN ?_ _)))) (hoR.rd.below (by repeat' (first | (with_reducible exact Below.refl _ _) | (with_reducible assumption) | (with_reducible refine Below.alloc ?_ (by first | omega | (simp; omega) | simp) _) | (with_reducible refine Below.setCell ?_ (by first | omega | (simp; omega) | simp) _) | (with_reducible refine Below.drew ?_) | (with_reducible refine below_drewN ?_ _)))) r2 H2.out).mono ?_
          rintro e10 w10 ⟨rfl, hbw10⟩
          have hpw10 : Below w9.heap.size w9 w10 := Below.after (by repeat' (first | (with_reducible exact Below.refl _ _) | (with_reducible assumption) | (with_reducible refine Below.alloc ?_ (by first | omega | (simp; omega) | simp) _) | (with_reducible refine Below.setCell ?_ (by first | omega | (simp; omega) | simp) _) | (with_reducible refine Below.drew ?_) | (with_reducible refine below_drewN ?_ _))) hbw10 (by first | omega | (simp only [World.size_alloc, World.size_setCell, World.size_drew] at *; omega) | (simp; omega) | simp)
          have sw10 := hpw10.size
          have hBw10 : Below w.heap.size w w10 := Below.trans hBw9 (Below.mono hpw10 hBw9.size)
          have q_t0 := oldc hpw10 l_t q_t0
          have q_t1 := oldc hpw10 l_t q_t1
          have q_r0 := oldc hpw10 l_r q_r0
          have q_r1 := oldc hpw10 l_r q_r1
          have q_r2 := oldc hpw10 l_r q_r2
          have q_r3 := oldc hpw10 l_r q_r3
          have q_r4 := oldc hpw10 l_r q_r4
          have l_r := Nat.lt_of_lt_of_le l_r sw10
          have l_t := Nat.lt_of_lt_of_le l_t sw10
          have l_x : w9.heap.size < w10.heap.size := by have := hbw10.size; simp at this; omega
          have q_x0 : w10.cell? ⟨w9.heap.size, 0, none⟩ = some (.int .i64 U.1) := oldc hbw10 (by first | omega | (simp; omega) | (simp; done)) (by simp [go_sem])
          have q_x1 : w10.cell? ⟨w9.heap.size, 1, none⟩ = some (.slice rao rn rcap) := oldc hbw10 (by first | omega | (simp; omega) | (simp; done)) (by simp [go_sem])
          have hoR := Ow.below hoR hpw10
          have hwd1 := Below.trans hwd1 (Below.mono hpw10 (by omega))
          have hcdx := Below.trans hcdx (Below.mono hpw10 (by omega))
          clear hbw10 hpw10
          cases r2
          rotate_left
          · have HN := Lib.hid (show GL true W0.heap.size W0.heap.size (w10).heap.size w10 36 (.slice oao O.length ocap) (redIn (rs.take (k + 1)) (e, ts) i (redTo rs (e, ts) i)) by
              rw [HX2.out]
              unfold redStep
              rw [if_pos HF.out.symm, ← HU.out, if_pos (of_decide_eq_true H2.out.symm)]
              exact (HG.out.below hwd1).top)
            clear HG HX2 HRI HIR HF hcd hoR H2 HU
            go_wp2
            go_roundw
            case rel => exact ⟨k + 1, by omega, by go_num, HN, hcdx⟩
            case measure => simp [intOf]; omega
          have HNE := Lib.hid (show redIn (rs.take (k + 1)) (e, ts) i (redTo rs (e, ts) i) = O ++ [U] by
            rw [HX2.out]
            unfold redStep
            rw [if_pos HF.out.symm, ← HU.out, if_neg (of_decide_eq_false H2.out.symm)])
          have HG3 := Lib.hid (HG.out.below hwd1)
          have HOR := Lib.hid hoR
          clear HG HX2 HRI HIR HF hcd hoR H2 HU
          go_wp2_with (at_builtin; refine wpList_push rfl rfl slKin (by show (0 : Nat) < 2; omega) (HG3.out.alloc _) rfl (ad := ⟨(w10).heap.size, 0, none⟩) rfl (cs := [.int .i64 U.1, .slice rao rn rcap]) (y := U) ?k4 ((HOR.out.below ?k6).it) ?k7 (.inl ?k8) (by unfold maxLen; omega) (by omega) (by simp; omega) ?_)
          case k4 =>
            intro j c hj
            match j, hj with
            | 0, hj => simp at hj; subst hj; simp [Addr.add, go_sem]
            | 1, hj => simp at hj; subst hj; simp [Addr.add, go_sem]
          case k6 => exact (by repeat' (first | (with_reducible exact Below.refl _ _) | (with_reducible assumption) | (with_reducible refine Below.alloc ?_ (by first | omega | (simp; omega) | simp) _) | (with_reducible refine Below.setCell ?_ (by first | omega | (simp; omega) | simp) _) | (with_reducible refine Below.drew ?_) | (with_reducible refine below_drewN ?_ _)))
          case k7 => omega
          case k8 => omega
          rintro v5 w5 hG5 _ hb5
          have HN := Lib.hid (show GL true W0.heap.size W0.heap.size w5.heap.size w5 36 v5 (redIn (rs.take (k + 1)) (e, ts) i (redTo rs (e, ts) i)) by rw [HNE.out]; exact hG5)
          have hc5 : Below W0.heap.size W0 w5 := Below.trans (show Below W0.heap.size W0 _ from (by repeat' (first | (with_reducible exact Below.refl _ _) | (with_reducible assumption) | (with_reducible refine Below.alloc ?_ (by first | omega | (simp; omega) | simp) _) | (with_reducible refine Below.setCell ?_ (by first | omega | (simp; omega) | simp) _) | (with_reducible refine Below.drew ?_) | (with_reducible refine below_drewN ?_ _)))) hb5
          clear hG5 hb5 HG3 HOR HNE
          go_wp2
          go_roundw
          case rel => exact ⟨k + 1, by omega, by go_num, HN, hc5⟩
          case measure => simp [intOf]; omega
        · have hK : ¬ (k : Int) < (rs.length : Int) := by omega
          have HN := Lib.hid (show GL true W0.heap.size W0.heap.size wd.heap.size wd 36 _ (redTo rs (e, ts) (i + 1)) by
            have e1 := hG.out
            rw [List.take_of_length_le (by omega)] at e1
            rw [redTo_succ]; exact e1)
          clear hG
          go_wp2
          go_roundw
          case rel => exact ⟨i + 1, by omega, by go_num, HN, hcd⟩
          case measure => simp [intOf]; omega
    · obtain rfl : i = L := by omega
      have hI : ¬ (i : Int) < (i : Int) := by omega
      have HOW := Lib.hid ((hG.out.ow (l0 := W0.heap.size) (Nat.le_refl _) (Nat.le_refl _)).mono hB0.size (Nat.le_refl _))
      clear hG
      go_wp2
      go_ret
      exact ⟨_, rfl, by rw [HX.out]; exact HOW.out, hBb⟩
set_option maxRecDepth 20000 in
set_option maxHeartbeats 8000000 in
theorem reductsOfS_any {z z1 : Bool} {lo hi lo1 hi1 : Nat} (w : World) (v a b : Value) (rs : List Rul) (t : Kin) (h : Rd z lo hi w [v] rs) (h' : Rd z1 lo1 hi1 w [a, b] t) :
    Calls Try.prog 36 #[v, .agg #[a, b]] w (PostOw w (redX rs t)) := by
  obtain ⟨ao, n, cap, rfl, rfl, hnc, hcm, -⟩ := h.shape
  have HT := Lib.hid h'
  obtain ⟨rfl, -, hb⟩ := h'.kin
  obtain ⟨sao, sn, scap, rfl, -⟩ := hb.shape
  obtain ⟨r1, hlet_r1⟩ : ∃ r, r = areRules rs := ⟨_, rfl⟩
  have H1 := Lib.hid hlet_r1
  clear hlet_r1
  obtain ⟨r2, hlet_r2⟩ : ∃ r, r = isKin t := ⟨_, rfl⟩
  have H2 := Lib.hid hlet_r2
  clear hlet_r2
  obtain ⟨X, hX⟩ : ∃ X, X = redX rs t := ⟨_, rfl⟩
  rw [← hX]
  have HX := Lib.hid (show X = if (r1 && r2) = true then redL rs t else [] by rw [hX, redX, redV, H1.out, H2.out])
  clear hX h' hb
  go_enter Try.func36, Try.ntmps36
  go_wp2_with fail
  refine (areRulesS_b _ _ rs (h.below (by repeat' (first | (with_reducible exact Below.refl _ _) | (with_reducible assumption) | (with_reducible refine Below.alloc ?_ (by first | omega | (simp; omega) | simp) _) | (with_reducible refine Below.setCell ?_ (by first | omega | (simp; omega) | simp) _) | (with_reducible refine Below.drew ?_) | (with_reducible refine below_drewN ?_ _)))) r1 H1.out).mono ?_
  rintro e11 w11 ⟨rfl, hbw11⟩
  have hpw11 : Below w.heap.size w w11 := Below.after (by repeat' (first | (with_reducible exact Below.refl _ _) | (with_reducible assumption) | (with_reducible refine Below.alloc ?_ (by first | omega | (simp; omega) | simp) _) | (with_reducible refine Below.setCell ?_ (by first | omega | (simp; omega) | simp) _) | (with_reducible refine Below.drew ?_) | (with_reducible refine below_drewN ?_ _))) hbw11 (by first | omega | (simp only [World.size_alloc, World.size_setCell, World.size_drew] at *; omega) | (simp; omega) | simp)
  have sw11 := hpw11.size
  have hBw11 : Below w.heap.size w w11 := hpw11
  have l_t : w.heap.size < w11.heap.size := by have := hbw11.size; simp at this; omega
  have q_t0 : w11.cell? ⟨w.heap.size, 0, none⟩ = some (.int .i64 t.1) := oldc hbw11 (by first | omega | (simp; omega) | (simp; done)) (by simp [go_sem])
  have q_t1 : w11.cell? ⟨w.heap.size, 1, none⟩ = some (.slice sao sn scap) := oldc hbw11 (by first | omega | (simp; omega) | (simp; done)) (by simp [go_sem])
  clear hbw11 hpw11
  cases r1
  · obtain rfl : X = [] := by rw [HX.out]; rfl
    clear HX H1 H2 h
    go_wp2
    go_ret
    exact ⟨_, rfl, Ow.nil _ _ _, hBw11⟩
  go_wp2_with fail
  refine (isTypeS_b _ _ _ t (HT.out.below (by repeat' (first | (with_reducible exact Below.refl _ _) | (with_reducible assumption) | (with_reducible refine Below.alloc ?_ (by first | omega | (simp; omega) | simp) _) | (with_reducible refine Below.setCell ?_ (by first | omega | (simp; omega) | simp) _) | (with_reducible refine Below.drew ?_) | (with_reducible refine below_drewN ?_ _)))) r2 H2.out).mono ?_
  rintro e12 w12 ⟨rfl, hbw12⟩
  have hpw12 : Below w11.heap.size w11 w12 := Below.after (by repeat' (first | (with_reducible exact Below.refl _ _) | (with_reducible assumption) | (with_reducible refine Below.alloc ?_ (by first | omega | (simp; omega) | simp) _) | (with_reducible refine Below.setCell ?_ (by first | omega | (simp; omega) | simp) _) | (with_reducible refine Below.drew ?_) | (with_reducible refine below_drewN ?_ _))) hbw12 (by first | omega | (simp only [World.size_alloc, World.size_setCell, World.size_drew] at *; omega) | (simp; omega) | simp)
  have sw12 := hpw12.size
  have hBw12 : Below w.heap.size w w12 := Below.trans hBw11 (Below.mono hpw12 hBw11.size)
  have q_t0 := oldc hpw12 l_t q_t0
  have q_t1 := oldc hpw12 l_t q_t1
  have l_t := Nat.lt_of_lt_of_le l_t sw12
  clear hbw12 hpw12
  cases r2
  · obtain rfl : X = [] := by rw [HX.out]; rfl
    clear HX H1 H2 h
    go_wp2
    go_ret
    exact ⟨_, rfl, Ow.nil _ _ _, hBw12⟩
  have HF := areRules_facts H1.out.symm
  have HRS := Lib.hid HF.2.1
  have hrl : rs.length ≤ 12 := HF.1
  clear HF
  go_wp2_with fail
  refine (reductsS_any _ _ _ _ rs t (h.below (by repeat' (first | (with_reducible exact Below.refl _ _) | (with_reducible assumption) | (with_reducible refine Below.alloc ?_ (by first | omega | (simp; omega) | simp) _) | (with_reducible refine Below.setCell ?_ (by first | omega | (simp; omega) | simp) _) | (with_reducible refine Below.drew ?_) | (with_reducible refine below_drewN ?_ _)))) (HT.out.below (by repeat' (first | (with_reducible exact Below.refl _ _) | (with_reducible assumption) | (with_reducible refine Below.alloc ?_ (by first | omega | (simp; omega) | simp) _) | (with_reducible refine Below.setCell ?_ (by first | omega | (simp; omega) | simp) _) | (with_reducible refine Below.drew ?_) | (with_reducible refine below_drewN ?_ _)))) HRS.out hrl H2.out.symm).mono ?_
  rintro e13 w13 ⟨u, rfl, ho, hbw13⟩
  have hpw13 : Below w12.heap.size w12 w13 := Below.after (by repeat' (first | (with_reducible exact Below.refl _ _) | (with_reducible assumption) | (with_reducible refine Below.alloc ?_ (by first | omega | (simp; omega) | simp) _) | (with_reducible refine Below.setCell ?_ (by first | omega | (simp; omega) | simp) _) | (with_reducible refine Below.drew ?_) | (with_reducible refine below_drewN ?_ _))) hbw13 (by first | omega | (simp only [World.size_alloc, World.size_setCell, World.size_drew] at *; omega) | (simp; omega) | simp)
  have sw13 := hpw13.size
  have hBw13 : Below w.heap.size w w13 := Below.trans hBw12 (Below.mono hpw13 hBw12.size)
  have q_t0 := oldc hpw13 l_t q_t0
  have q_t1 := oldc hpw13 l_t q_t1
  have l_t := Nat.lt_of_lt_of_le l_t sw13
  clear hbw13 hpw13
  have HF := Lib.hid (show redL rs t = X by rw [HX.out]; rfl)
  have HO := Lib.hid ho
  clear HX H1 H2 h HRS ho
  go_wp2
  go_ret
  exact ⟨_, rfl, by rw [← HF.out]; exact HO.out.mono (by omega) (Nat.le_refl _), hBw13⟩

end Go.Proofs.Ytdjnogcljmaapaa
