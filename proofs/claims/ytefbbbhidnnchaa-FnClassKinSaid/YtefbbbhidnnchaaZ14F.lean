/- Texts laid one behind the other (merge.py): FamH, FamS, ExoS, Mkf. -/
import Derived.Test.YtefbbbhidnnchaaZ14B
import Derived.Test.YtefbbbhidnnchaaZ14E
import Derived.Test.YtefbbbhidnnchaaZ14A
namespace Go.Proofs.Ytefbbbhidnnchaa
set_option linter.unusedVariables false
set_option linter.unusedSimpArgs false
open Go.RowKit

/-! ### FamH -/
section

def nmSum : List Per → Nat
  | [] => 0
  | p :: ps => p.1.size + nmSum ps
instance decEqPers : DecidableEq (List Per) := fun a b => instDecidableEqList a b
instance decEqUnis : DecidableEq (List Uni) := fun a b => instDecidableEqList a b
instance decEqFam : DecidableEq (List Per × List Uni) := instDecidableEqProd
def famSz (f : Fam) : Nat := f.1.length + nmSum f.1 + f.2.length

theorem Rd.fam {z : Bool} {lo hi : Nat} {w : World} {a b : Value} {f : Fam} (h : Rd z lo hi w [a, b] f) : Rd z lo hi w [a] f.1 ∧ Rd z lo hi w [b] f.2 := h.two rfl
theorem shapeFam {z : Bool} {lo hi : Nat} {w : World} {a b : Value} {f : Fam} (h : Rd z lo hi w [a, b] f) : ∃ ao n cap bo m dap, a = .slice ao n cap ∧ b = .slice bo m dap := by
  obtain ⟨h1, h2⟩ := h.fam
  obtain ⟨ao, n, cap, rfl, -⟩ := h1.shape
  obtain ⟨bo, m, dap, rfl, -⟩ := h2.shape
  exact ⟨ao, n, cap, bo, m, dap, rfl, rfl⟩




end

/-! ### FamS -/
section

theorem PplTo.snoc {ps : List Per} {k : Nat} (h : PplTo ps k) (hk : perOk ps k = true) : PplTo ps (k + 1) := by
  intro i hi
  by_cases e : i = k
  · subst e; exact hk
  · exact h i (by omega)
theorem famB_ppl {f : Fam} {k : Nat} (hk : k < f.1.length) (h : perOk f.1 k = false) : famB f = false := by
  unfold famB; rw [all_range_false hk h]; simp
theorem famB_dep {f : Fam} (h : depOk f.1 = false) : famB f = false := by unfold famB; rw [h]; simp
theorem famB_uni {f : Fam} {k : Nat} (hk : k < f.2.length) (h : uniOk f k = false) : famB f = false := by
  unfold famB; rw [all_range_false hk h]; simp
theorem famB_true {f : Fam} (h1 : f.1.length ≤ 40) (h2 : f.2.length ≤ 60) (hp : PplTo f.1 f.1.length) (hd : depOk f.1 = true) (hu : ∀ k, k < f.2.length → uniOk f k = true) : famB f = true := by
  unfold famB; rw [all_range.2 hp, all_range.2 hu, hd]; simp [h1, h2]
theorem deps_step {L : List Int} {k : Nat} {d : Int} (h : L[k]? = some d) : (L.drop k).all (fun d => decide (d ≤ 10)) = (decide (d ≤ 10) && (L.drop (k + 1)).all fun d => decide (d ≤ 10)) := by
  rw [drop_cons h, List.all_cons]

set_option maxRecDepth 20000 in
set_option maxHeartbeats 4000000 in
theorem isFamS_b {z : Bool} {lo hi : Nat} (w : World) (v v2 : Value) (f : Fam) (h : Rd z lo hi w [v, v2] f) (r : Bool) (hr : r = famB f) :
    Calls Try.prog 36 #[.agg #[v, v2]] w (PostB w r) := by
  obtain ⟨ha, hb⟩ := h.fam
  obtain ⟨ao, n, cap, rfl, hn, hnc, hcm, hnone⟩ := ha.shape
  obtain ⟨bo, n2, dap, rfl, hn2, hnc', hcm', hnone'⟩ := hb.shape
  subst hn hn2
  unfold maxLen at *
  have HR := Lib.hid hr
  clear hr h
  by_cases h1 : f.1.length ≤ 40
  rotate_left
  · have HX := Lib.hid (show false = r by rw [HR.out]; unfold famB; simp [h1])
    have h1' : (40 : Int) < (f.1.length : Int) := by omega
    clear ha hb
    go_enter Try.func36, Try.ntmps36
    go_wp2
    go_ret
    exact ⟨ret_bool HX.out, bwT⟩
  have h1' : ¬ (40 : Int) < (f.1.length : Int) := by omega
  by_cases h2 : f.2.length ≤ 60
  rotate_left
  · have HX := Lib.hid (show false = r by rw [HR.out]; unfold famB; simp [h2])
    have h2' : (60 : Int) < (f.2.length : Int) := by omega
    clear ha hb
    go_enter Try.func36, Try.ntmps36
    go_wp2
    go_ret
    exact ⟨ret_bool HX.out, bwT⟩
  have h2' : ¬ (60 : Int) < (f.2.length : Int) := by omega
  go_enter Try.func36, Try.ntmps36
  go_wp2
  go_loopw [3, 20] (fun _ s20 wr => ∃ k : Nat, k ≤ f.1.length ∧ s20 = .int .i64 k ∧ Hid (PplTo f.1 k) ∧ Below (w.heap.size + 1) (w.alloc (.cells #[.slice ao f.1.length cap, .slice bo f.2.length dap] 26)) wr) (fun _ s20 _ => f.1.length - (intOf s20).toNat)
  case atStart => exact ⟨0, Nat.zero_le _, rfl, Lib.hid (fun i hi => absurd hi (by omega)), Below.refl _ _⟩
  case round =>
    rename_i wr
    obtain ⟨k, hk, rfl, hP, hbb⟩ := hrel
    have sW := hbb.size
    simp only [World.size_alloc] at sW
    have hbw : Below w.heap.size w wr := Below.trans ((Below.refl _ _).alloc (Nat.le_refl _) _) (hbb.mono (by omega))
    have q_f0 : wr.cell? ⟨w.heap.size, 0, none⟩ = some (.slice ao f.1.length cap) := oldc hbb (by omega) (by simp [go_sem])
    have q_f1 : wr.cell? ⟨w.heap.size, 1, none⟩ = some (.slice bo f.2.length dap) := oldc hbb (by omega) (by simp [go_sem])
    by_cases hlt : k < f.1.length
    · have hI : (k : Int) < (f.1.length : Int) := by omega
      obtain ⟨r1, hlet_r1⟩ : ∃ r, r = perOk f.1 k := ⟨_, rfl⟩
      have H1 := Lib.hid hlet_r1
      clear hlet_r1
      go_wp2_with fail
      refine (perS_b _ _ _ f.1 (ha.below bwT) k hlt hP.out r1 H1.out).mono ?_
      rintro e w1 ⟨rfl, hb1⟩
      have hB1 : Below (w.heap.size + 1) (w.alloc (.cells #[.slice ao f.1.length cap, .slice bo f.2.length dap] 26)) w1 := Below.trans hbb (hb1.mono (by omega))
      have hB1w : Below w.heap.size w w1 := Below.after hbw hb1 hbw.size
      cases r1
      · have HX := Lib.hid (show false = r by rw [HR.out, famB_ppl hlt H1.out.symm])
        go_wp2
        go_ret
        exact ⟨ret_bool HX.out, hB1w⟩
      · have HN := Lib.hid (hP.out.snoc H1.out.symm)
        clear hP
        go_wp2
        go_roundw
        case rel => exact ⟨k + 1, by omega, by go_num, HN, hB1⟩
        case measure => simp [intOf]; omega
    · obtain rfl : k = f.1.length := by omega
      obtain ⟨W0, hW0⟩ : ∃ W : World, W = wr := ⟨_, rfl⟩
      subst hW0
      have l_f : w.heap.size < W0.heap.size := by omega
      go_wp2_with fail
      refine (depS_any _ _ _ f.1 (ha.below bwT) hP.out h1).mono ?_
      rintro e w2 ⟨u, rfl, hod, hb2⟩
      have s2 := hb2.size
      have q_f0 := oldc hb2 l_f q_f0
      have q_f1 := oldc hb2 l_f q_f1
      have l_f := Nat.lt_of_lt_of_le l_f s2
      have hB2 : Below w.heap.size w w2 := Below.after hbw hb2 hbw.size
      have hdl := deps_len f.1
      obtain ⟨D, hD⟩ : ∃ D, D = deps f.1 := ⟨_, rfl⟩
      rw [← hD] at hod hdl
      have HDp := Lib.hid (show depOk f.1 = (D.drop 0).all fun d => decide (d ≤ 10) by rw [hD]; rfl)
      clear hD hbb hb2
      obtain ⟨dao, dn, dcap, rfl, rfl, -, hdcm, -⟩ := hod.rd.shape
      unfold maxLen at hdcm
      have hdI : (D.length : Int) = (f.1.length : Int) := by omega
      go_wp2
      go_loopw [5, 31] (fun _ s31 wr => ∃ k : Nat, k ≤ D.length ∧ s31 = .int .i64 k ∧ Hid (depOk f.1 = (D.drop k).all fun d => decide (d ≤ 10)) ∧ Below w2.heap.size w2 wr) (fun _ s31 _ => D.length - (intOf s31).toNat)
      case atStart => exact ⟨0, Nat.zero_le _, rfl, HDp, Below.refl _ _⟩
      case round =>
        clear HDp
        obtain ⟨k, hkd, rfl, hd, hb3⟩ := hrel
        have hB3 : Below w.heap.size w wr := Below.trans hB2 (hb3.mono hB2.size)
        by_cases hltd : k < D.length
        · obtain ⟨db, doff, d, rfl, hx, hc, hd1, hd2, _⟩ := (hod.rd.below hb3).int_at hltd
          have hI2 : (k : Int) < (D.length : Int) := by omega
          have HS := Lib.hid (deps_step hx.out)
          clear hx
          by_cases h10 : d ≤ 10
          · have h10' : ¬ 10 < d := by omega
            have HN := Lib.hid (show depOk f.1 = (D.drop (k + 1)).all fun d => decide (d ≤ 10) by rw [hd.out, HS.out]; simp [h10])
            clear hd HS
            go_wp2
            go_roundw
            case rel => exact ⟨k + 1, by omega, by go_num, HN, hb3⟩
            case measure => simp [intOf]; omega
          · have h10' : 10 < d := by omega
            have HX := Lib.hid (show false = r by rw [HR.out, famB_dep (by rw [hd.out, HS.out]; simp [h10])])
            clear hd HS
            go_wp2
            go_ret
            exact ⟨ret_bool HX.out, hB3⟩
        · have HD := Lib.hid (show depOk f.1 = true by rw [hd.out, List.drop_eq_nil_of_le (by omega)]; rfl)
          have hI2 : ¬ (k : Int) < (D.length : Int) := by omega
          have q_f0 := oldc hb3 l_f q_f0
          have q_f1 := oldc hb3 l_f q_f1
          have l_f := Nat.lt_of_lt_of_le l_f hb3.size
          obtain ⟨W3, hW3⟩ : ∃ W : World, W = wr := ⟨_, rfl⟩
          subst hW3
          clear hd hod
          go_wp2
          go_loopw [6, 41] (fun _ s41 wr => ∃ k : Nat, k ≤ f.2.length ∧ s41 = .int .i64 k ∧ Hid (∀ i, i < k → uniOk f i = true) ∧ Below W3.heap.size W3 wr) (fun _ s41 _ => f.2.length - (intOf s41).toNat)
          case atStart => exact ⟨0, Nat.zero_le _, rfl, Lib.hid (fun i hi => absurd hi (by omega)), Below.refl _ _⟩
          case round =>
            obtain ⟨k, hku, rfl, hU, hb4⟩ := hrel
            have hB4 : Below w.heap.size w wr := Below.trans hB3 (hb4.mono hB3.size)
            have q_f0 := oldc hb4 l_f q_f0
            have q_f1 := oldc hb4 l_f q_f1
            by_cases hltu : k < f.2.length
            · have hI3 : (k : Int) < (f.2.length : Int) := by omega
              obtain ⟨r5, hlet_r5⟩ : ∃ r, r = uniOk f k := ⟨_, rfl⟩
              have H5 := Lib.hid hlet_r5
              clear hlet_r5
              go_wp2_with fail
              refine (uniS_b _ _ _ f (ha.below bwT) (hb.below bwT) h1 hP.out k hltu h2 r5 H5.out).mono ?_
              rintro e w5 ⟨rfl, hb5⟩
              have hb45 : Below W3.heap.size W3 w5 := Below.after hb4 hb5 hb4.size
              have hB5 : Below w.heap.size w w5 := Below.after hB4 hb5 hB4.size
              cases r5
              · have HX := Lib.hid (show false = r by rw [HR.out, famB_uni hltu H5.out.symm])
                go_wp2
                go_ret
                exact ⟨ret_bool HX.out, hB5⟩
              · have HN := Lib.hid (show ∀ i, i < k + 1 → uniOk f i = true by
                  intro i hi
                  by_cases e : i = k
                  · subst e; exact H5.out.symm
                  · exact hU.out i (by omega))
                clear hU
                go_wp2
                go_roundw
                case rel => exact ⟨k + 1, by omega, by go_num, HN, hb45⟩
                case measure => simp [intOf]; omega
            · have HX := Lib.hid (show true = r by rw [HR.out, famB_true h1 h2 hP.out HD.out (fun i hi => hU.out i (by omega))])
              have hI3 : ¬ (k : Int) < (f.2.length : Int) := by omega
              clear hU
              go_wp2
              go_ret
              exact ⟨ret_bool HX.out, hB4⟩

end

/-! ### ExoS -/
section

def exoU (g : List Int) (u : Uni) : Bool := !decide (g.getD u.1.toNat 0 = g.getD u.2.1.toNat 0)
def exoB (f : Fam) (g : List Int) : Bool := famB f && (decide (g.length = f.1.length) && f.2.all (exoU g))

theorem famB_facts {f : Fam} (h : famB f = true) : f.1.length ≤ 40 ∧ f.2.length ≤ 60 ∧ PplTo f.1 f.1.length ∧ ∀ k, k < f.2.length → uniOk f k = true := by
  simp only [famB, Bool.and_eq_true, decide_eq_true_eq] at h
  exact ⟨h.1.1, h.1.2, all_range.1 h.2.1, all_range.1 h.2.2.2⟩
theorem uniOk_facts {f : Fam} {k : Nat} {m wo fr tl : Int} (h : uniOk f k = true) (hu : f.2[k]? = some (m, wo, fr, tl)) : (0 ≤ m ∧ m < f.1.length) ∧ (0 ≤ wo ∧ wo < f.1.length) := by
  unfold uniOk at h
  rw [hu] at h
  simp only [uniC, Bool.and_eq_true, decide_eq_true_eq] at h
  exact h.1
end

/-! ### Mkf -/
section

def abc : ByteArray := ⟨#[97, 98, 99, 100, 101, 102, 103, 104, 105, 106, 107, 108, 109, 110, 111, 112, 113, 114, 115, 116, 117, 118, 119, 120, 121, 122]⟩
def vow : ByteArray := ⟨#[97, 101, 105, 111, 117]⟩
/-- The name of a number. -/
def nmOf (i : Nat) : ByteArray := ⟨#[abc[i % 26]!, vow[i / 26 % 5]!]⟩
theorem nm_ok : (List.range 40).all (fun i => nameOk (nmOf i)) = true := by decide +kernel
theorem nm_nd : ((List.range 40).map nmOf).Nodup := by decide +kernel
theorem nmOf_ok {i : Nat} (h : i < 40) : nameOk (nmOf i) = true := List.all_eq_true.1 nm_ok i (List.mem_range.2 h)
theorem nmOf_inj {i j : Nat} (hi : i < 40) (hj : j < 40) (h : nmOf i = nmOf j) : i = j := by
  have h1 : ((List.range 40).map nmOf)[i]'(by simpa using hi) = ((List.range 40).map nmOf)[j]'(by simpa using hj) := by simpa using h
  exact (List.getElem_inj nm_nd).1 h1

theorem upC_app {ps l : List Per} {born q sex late : Int} (h : upC ps born q sex late = true) : upC (ps ++ l) born q sex late = true := by
  unfold upC at h ⊢
  cases e : ps[q.toNat]? with
  | none => rw [e] at h; cases h
  | some p =>
    rw [List.getElem?_append_left (List.getElem?_eq_some_iff.1 e).1, e]
    rw [e] at h; exact h
theorem upOk_app {ps l : List Per} {i : Nat} {born q sex late : Int} (h : upOk ps i born q sex late = true) : upOk (ps ++ l) i born q sex late = true := by
  unfold upOk at h ⊢
  rw [Bool.or_eq_true] at h ⊢
  rcases h with h | h
  · exact .inl h
  · rw [Bool.and_eq_true] at h
    exact .inr (by rw [Bool.and_eq_true]; exact ⟨h.1, upC_app h.2⟩)
theorem perC_app {ps l : List Per} {i : Nat} (hi : i ≤ ps.length) {p : Per} (h : perC ps i p = true) : perC (ps ++ l) i p = true := by
  obtain ⟨nm, sx, fa, mo, bo, di⟩ := p
  simp only [perC, Bool.and_eq_true] at h ⊢
  rw [List.take_append_of_le_length hi]
  exact ⟨h.1, h.2.1, h.2.2.1, h.2.2.2.1, h.2.2.2.2.1, upOk_app h.2.2.2.2.2.1, upOk_app h.2.2.2.2.2.2⟩
theorem ppl_snoc {ps : List Per} {p : Per} (h : PplTo ps ps.length) (hp : perC ps ps.length p = true) : PplTo (ps ++ [p]) (ps ++ [p]).length := by
  intro k hk
  rw [List.length_append, List.length_singleton] at hk
  by_cases e : k < ps.length
  · have h1 : ps[k]? = some ps[k] := List.getElem?_eq_getElem e
    have h2 : (ps ++ [p])[k]? = some ps[k] := by rw [List.getElem?_append_left e, h1]
    rw [perOk_at h2]
    have h3 := h k e
    rw [perOk_at h1] at h3
    exact perC_app (by omega) h3
  · obtain rfl : k = ps.length := by omega
    have h2 : (ps ++ [p])[ps.length]? = some p := by simp
    rw [perOk_at h2]
    exact perC_app (Nat.le_refl _) hp
/-- A family as it grows. -/
structure Grown (ps : List Per) : Prop where
  ppl : PplTo ps ps.length
  dep : depOk ps = true
  nam : ∀ i p, ps[i]? = some p → p.1 = nmOf i
  len : ps.length ≤ 40
/-- One who may be a parent. -/
def MayUp (ps : List Per) (q sex born : Int) : Prop := q = -1 ∨ ∃ (k : Nat) (nm : ByteArray) (fa mo bo : Int), q = k ∧ ps[k]? = some (nm, sex, fa, mo, bo, -1) ∧ bo < born ∧ (deps ps).getD k 0 < 10
theorem MayUp.ok {ps : List Per} {q sex born late : Int} (h : MayUp ps q sex born) : upOk ps ps.length born q sex late = true ∧ dep1 (deps ps) q ≤ 10 := by
  rcases h with rfl | ⟨k, nm, fa, mo, bo, rfl, h1, h2, h3⟩
  · exact ⟨by simp [upOk], by simp [dep1]⟩
  · have hk := (List.getElem?_eq_some_iff.1 h1).1
    refine ⟨?_, ?_⟩
    · unfold upOk upC
      rw [Int.toNat_natCast, h1]
      simp
      exact ⟨hk, h2⟩
    · unfold dep1
      rw [if_pos (Int.natCast_nonneg k), Int.toNat_natCast]
      omega
theorem Grown.nil : Grown [] := ⟨fun k hk => by simp at hk, by decide, fun i p h => by simp at h, by simp⟩
theorem Grown.add {ps : List Per} (h : Grown ps) (hl : ps.length < 40) {sx fa mo bo : Int} (hs : sx = 1 ∨ sx = 2) (hb : 0 ≤ bo ∧ bo ≤ 9999) (hf : MayUp ps fa 1 bo) (hm : MayUp ps mo 2 bo) : Grown (ps ++ [(nmOf ps.length, sx, fa, mo, bo, -1)]) := by
  refine ⟨ppl_snoc h.ppl ?_, ?_, fun i p hp => ?_, by simp; omega⟩
  · simp only [perC, Bool.and_eq_true]
    refine ⟨nmOf_ok hl, decide_eq_true hs, decide_eq_true hb, by simp, ?_, hf.ok.1, hm.ok.1⟩
    rw [Bool.not_eq_true', decide_eq_false_iff_not]
    intro hn
    rw [List.take_length] at hn
    obtain ⟨p, hp1, hp2⟩ := List.mem_map.1 hn
    obtain ⟨j, hj, e⟩ := List.getElem_of_mem hp1
    have := h.nam j p (by rw [List.getElem?_eq_getElem hj, e])
    rw [hp2] at this
    have := nmOf_inj hl (by omega) this
    omega
  · unfold depOk
    rw [deps_snoc, List.all_append]
    have h1 := hf.ok (late := 0)
    have h2 := hm.ok (late := 0)
    have h3 := h.dep
    unfold depOk at h3
    rw [h3]
    simp only [List.all_cons, List.all_nil, Bool.and_true, Bool.true_and, decide_eq_true_eq]
    unfold depOf
    omega
  · by_cases e : i < ps.length
    · rw [List.getElem?_append_left e] at hp; exact h.nam i p hp
    · rw [List.getElem?_append_right (by omega)] at hp
      by_cases e2 : i = ps.length
      · subst e2; rw [Nat.sub_self] at hp; simp at hp; rw [← hp]
      · rw [show i - ps.length = (i - ps.length - 1) + 1 by omega] at hp; simp at hp
/-- The depth of one who is met before. -/
theorem deps_pre (ps : List Per) (p : Per) {k : Nat} (hk : k < ps.length) : (deps (ps ++ [p])).getD k 0 = (deps ps).getD k 0 := by
  rw [deps_snoc, List.getD_eq_getElem?_getD, List.getD_eq_getElem?_getD, List.getElem?_append_left (by rw [deps_len]; exact hk)]
theorem deps_new (ps : List Per) (p : Per) : (deps (ps ++ [p])).getD ps.length 0 = depOf (deps ps) p.2.2.1 p.2.2.2.1 := by
  rw [deps_snoc, List.getD_eq_getElem?_getD, List.getElem?_append_right (by rw [deps_len]; exact Nat.le_refl _), deps_len, Nat.sub_self]; rfl
/-- The year of death of one person is set. -/
def setDie (ps : List Per) (i : Nat) (d : Int) : List Per := match ps[i]? with
  | some (nm, sx, fa, mo, bo, _) => ps.set i (nm, sx, fa, mo, bo, d)
  | none => ps
theorem setDie_at {ps : List Per} {i : Nat} {d : Int} {nm : ByteArray} {sx fa mo bo di : Int} (h : ps[i]? = some (nm, sx, fa, mo, bo, di)) : setDie ps i d = ps.set i (nm, sx, fa, mo, bo, d) := by unfold setDie; rw [h]
theorem setDie_len (ps : List Per) (i : Nat) (d : Int) : (setDie ps i d).length = ps.length := by unfold setDie; split <;> simp
theorem deps_congr : ∀ (ps qs : List Per) (o : List Int), ps.map (fun p => (p.2.2.1, p.2.2.2.1)) = qs.map (fun p => (p.2.2.1, p.2.2.2.1)) → ps.foldl (fun out p => out ++ [depOf out p.2.2.1 p.2.2.2.1]) o = qs.foldl (fun out p => out ++ [depOf out p.2.2.1 p.2.2.2.1]) o
  | [], [], _, _ => rfl
  | [], _ :: _, _, h => by simp at h
  | _ :: _, [], _, h => by simp at h
  | p :: ps, q :: qs, o, h => by
    rw [List.map_cons, List.map_cons, List.cons.injEq, Prod.mk.injEq] at h
    rw [List.foldl_cons, List.foldl_cons, h.1.1, h.1.2]
    exact deps_congr ps qs _ h.2
theorem map_set_same {β : Type} (g : Per → β) {ps : List Per} {i : Nat} {p q : Per} (h : ps[i]? = some p) (e : g q = g p) : (ps.set i q).map g = ps.map g := by
  rw [List.map_set, e]
  have hi := (List.getElem?_eq_some_iff.1 h).1
  apply List.ext_getElem?
  intro k
  rw [List.getElem?_set]
  split
  · rename_i hk; subst hk
    rw [if_pos (by rw [List.length_map]; exact hi), List.getElem?_map, h]; rfl
  · rfl
/-- He who dies when he and all his children are born leaves the family valid. -/
theorem die_ok {ps : List Per} {i : Nat} {d : Int} {nm : ByteArray} {sx fa mo bo di : Int} (h : PplTo ps ps.length) (hd : depOk ps = true) (hi : ps[i]? = some (nm, sx, fa, mo, bo, di)) (hb : bo ≤ d) (h9 : d ≤ 9999)
    (hc : ∀ (k : Nat) (p : Per), ps[k]? = some p → (p.2.2.1 = i ∨ p.2.2.2.1 = i) → p.2.2.2.2.1 ≤ d) : PplTo (setDie ps i d) (setDie ps i d).length ∧ depOk (setDie ps i d) = true := by
  rw [setDie_at hi]
  have hil := (List.getElem?_eq_some_iff.1 hi).1
  have hup : ∀ (k : Nat) (born q sex late : Int), 0 ≤ late → (q = i → born ≤ d) → upOk ps k born q sex late = true → upOk (ps.set i (nm, sx, fa, mo, bo, d)) k born q sex late = true := by
    intro k born q sex late hl hq hu
    unfold upOk at hu ⊢
    rw [Bool.or_eq_true] at hu ⊢
    rcases hu with hu | hu
    · exact .inl hu
    · rw [Bool.and_eq_true] at hu
      refine .inr (by
        rw [Bool.and_eq_true]
        refine ⟨hu.1, ?_⟩
        have h0 := hu.2
        have hq0 := of_decide_eq_true hu.1
        unfold upC at h0 ⊢
        rw [List.getElem?_set]
        by_cases e : i = q.toNat
        · rw [if_pos e, if_pos hil]
          rw [← e, hi] at h0
          simp only [Bool.and_eq_true, decide_eq_true_eq] at h0 ⊢
          have := hq (by omega)
          exact ⟨h0.1, h0.2.1, .inr (by omega)⟩
        · rw [if_neg e]; exact h0)
  refine ⟨fun k hk => ?_, ?_⟩
  · rw [List.length_set] at hk
    have hk1 : ps[k]? = some ps[k] := List.getElem?_eq_getElem hk
    have h1 := h k hk
    rw [perOk_at hk1] at h1
    have hcc := hc k _ hk1
    by_cases e : i = k
    · subst e
      have h2 : (ps.set i (nm, sx, fa, mo, bo, d))[i]? = some (nm, sx, fa, mo, bo, d) := by rw [List.getElem?_set_self hil]
      rw [perOk_at h2]
      rw [hi] at hk1
      rw [← Option.some.inj hk1] at h1 hcc
      simp only [perC, Bool.and_eq_true] at h1 ⊢
      rw [List.map_take, map_set_same (q := (nm, sx, fa, mo, bo, d)) (·.1) hi rfl, ← List.map_take]
      exact ⟨h1.1, h1.2.1, h1.2.2.1, by simp; omega, h1.2.2.2.2.1, hup _ _ _ _ _ (by omega) (fun e => hcc (.inl e)) h1.2.2.2.2.2.1, hup _ _ _ _ _ (by omega) (fun e => hcc (.inr e)) h1.2.2.2.2.2.2⟩
    · have h2 : (ps.set i (nm, sx, fa, mo, bo, d))[k]? = some ps[k] := by rw [List.getElem?_set_ne e, hk1]
      rw [perOk_at h2]
      generalize ps[k] = x at h1 hcc
      obtain ⟨nm', sx', fa', mo', bo', di'⟩ := x
      simp only [perC, Bool.and_eq_true] at h1 ⊢
      rw [List.map_take, map_set_same (q := (nm, sx, fa, mo, bo, d)) (·.1) hi rfl, ← List.map_take]
      exact ⟨h1.1, h1.2.1, h1.2.2.1, h1.2.2.2.1, h1.2.2.2.2.1, hup _ _ _ _ _ (by omega) (fun e => hcc (.inl e)) h1.2.2.2.2.2.1, hup _ _ _ _ _ (by omega) (fun e => hcc (.inr e)) h1.2.2.2.2.2.2⟩
  · unfold depOk deps at hd ⊢
    rw [deps_congr _ ps [] (map_set_same (q := (nm, sx, fa, mo, bo, d)) (fun p => (p.2.2.1, p.2.2.2.1)) hi rfl)]
    exact hd
theorem fam_ppl {ps : List Per} (hl : ps.length ≤ 40) (h : PplTo ps ps.length) (hd : depOk ps = true) : famB (ps, []) = true := famB_true hl (by simp) h hd (fun k hk => by simp at hk)

end

end Go.Proofs.Ytefbbbhidnnchaa
