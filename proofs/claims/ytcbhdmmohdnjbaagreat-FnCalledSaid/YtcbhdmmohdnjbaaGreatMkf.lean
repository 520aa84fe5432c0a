/- Plain: families that are drawn are valid. -/
import Derived.Test.YtcbhdmmohdnjbaaGreatFamM
namespace Go.Proofs.YtcbhdmmohdnjbaaGreat
set_option linter.unusedVariables false
set_option linter.unusedSimpArgs false
open Go.RowKit
def abc : ByteArray := ⟨#[97, 98, 99, 100, 101, 102, 103, 104, 105, 106, 107, 108, 109, 110, 111, 112, 113, 114, 115, 116, 117, 118, 119, 120, 121, 122]⟩
def vow : ByteArray := ⟨#[97, 101, 105, 111, 117]⟩
def nmOf (i : Nat) : ByteArray := ⟨#[abc[i % 26]!, vow[i / 26 % 5]!]⟩
theorem nm_ok : (List.range 40).all (fun i => nameOk (nmOf i)) = true := by decide +kernel
theorem nm_nd : ((List.range 40).map nmOf).Nodup := by decide +kernel
theorem nmOf_ok {i : Nat} (h : i < 40) : nameOk (nmOf i) = true := List.all_eq_true.1 nm_ok i (List.mem_range.2 h)
theorem nmOf_inj {i j : Nat} (hi : i < 40) (hj : j < 40) (h : nmOf i = nmOf j) : i = j := by
 have h1 : ((List.range 40).map nmOf)[i]'(by simpa using hi) = ((List.range 40).map nmOf)[j]'(by simpa using hj) := by simpa using h
 exact (List.getElem_inj nm_nd).1 h1
theorem upC_app {ps l : List Per} {born q sex late : Int} (h : upC ps born q sex late = true) : upC (ps ++ l) born q sex late = true := by
 unfold upC at h ⊢
 cases e : ps[q.toNat]? with
 | none => rw [e] at h; cases h
 | some p =>
   rw [List.getElem?_append_left (List.getElem?_eq_some_iff.1 e).1, e]
   rw [e] at h; exact h
theorem upOk_app {ps l : List Per} {i : Nat} {born q sex late : Int} (h : upOk ps i born q sex late = true) : upOk (ps ++ l) i born q sex late = true := by
 unfold upOk at h ⊢
 rw [Bool.or_eq_true] at h ⊢
 rcases h with h | h
 ·exact .inl h
 ·rw [Bool.and_eq_true] at h
  exact .inr (by rw [Bool.and_eq_true]; exact ⟨h.1, upC_app h.2⟩)
theorem perC_app {ps l : List Per} {i : Nat} (hi : i ≤ ps.length) {p : Per} (h : perC ps i p = true) : perC (ps ++ l) i p = true := by
 obtain ⟨nm, sx, fa, mo, bo, di⟩ := p
 simp only [perC, Bool.and_eq_true] at h ⊢
 rw [List.take_append_of_le_length hi]
 exact ⟨h.1, h.2.1, h.2.2.1, h.2.2.2.1, h.2.2.2.2.1, upOk_app h.2.2.2.2.2.1, upOk_app h.2.2.2.2.2.2⟩
theorem ppl_snoc {ps : List Per} {p : Per} (h : PplTo ps ps.length) (hp : perC ps ps.length p = true) : PplTo (ps ++ [p]) (ps ++ [p]).length := by
 intro k hk
 rw [List.length_append, List.length_singleton] at hk
 by_cases e : k < ps.length
 ·have h1 : ps[k]? = some ps[k] := List.getElem?_eq_getElem e
  have h2 : (ps ++ [p])[k]? = some ps[k] := by rw [List.getElem?_append_left e, h1]
  rw [perOk_at h2]
  have h3 := h k e
  rw [perOk_at h1] at h3
  exact perC_app omT h3
 ·obtain rfl : k = ps.length := by omega
  have h2 : (ps ++ [p])[ps.length]? = some p := by simp
  rw [perOk_at h2]
  exact perC_app (Nat.le_refl _) hp
structure Grown (ps : List Per) : Prop where
 ppl : PplTo ps ps.length
 dep : depOk ps = true
 nam : ∀ i p, ps[i]? = some p → p.1 = nmOf i
 len : ps.length ≤ 40
def MayUp (ps : List Per) (q sex born : Int) : Prop := q = -1 ∨ ∃ (k : Nat) (nm : ByteArray) (fa mo bo : Int), q = k ∧ ps[k]? = some (nm, sex, fa, mo, bo, -1) ∧ bo < born ∧ (deps ps).getD k 0 < 10
theorem MayUp.ok {ps : List Per} {q sex born late : Int} (h : MayUp ps q sex born) : upOk ps ps.length born q sex late = true ∧ dep1 (deps ps) q ≤ 10 := by
 rcases h with rfl | ⟨k, nm, fa, mo, bo, rfl, h1, h2, h3⟩
 ·exact ⟨by simp [upOk], by simp [dep1]⟩
 ·have hk := (List.getElem?_eq_some_iff.1 h1).1
  refine ⟨?_, ?_⟩
  ·unfold upOk upC
   rw [Int.toNat_natCast, h1]
   simp
   exact ⟨hk, h2⟩
  ·unfold dep1
   rw [if_pos (Int.natCast_nonneg k), Int.toNat_natCast]
   omega
theorem Grown.nil : Grown [] := ⟨fun k hk => by simp at hk, by decide, fun i p h => by simp at h, by simp⟩
theorem Grown.add {ps : List Per} (h : Grown ps) (hl : ps.length < 40) {sx fa mo bo : Int} (hs : sx = 1 ∨ sx = 2) (hb : 0 ≤ bo ∧ bo ≤ 9999) (hf : MayUp ps fa 1 bo) (hm : MayUp ps mo 2 bo) : Grown (ps ++ [(nmOf ps.length, sx, fa, mo, bo, -1)]) := by
 refine ⟨ppl_snoc h.ppl ?_, ?_, fun i p hp => ?_, by simp; omega⟩
 ·simp only [perC, Bool.and_eq_true]
  refine ⟨nmOf_ok hl, decide_eq_true hs, decide_eq_true hb, by simp, ?_, hf.ok.1, hm.ok.1⟩
  rw [Bool.not_eq_true', decide_eq_false_iff_not]
  intro hn
  rw [List.take_length] at hn
  obtain ⟨p, hp1, hp2⟩ := List.mem_map.1 hn
  obtain ⟨j, hj, e⟩ := List.getElem_of_mem hp1
  have := h.nam j p (by rw [List.getElem?_eq_getElem hj, e])
  rw [hp2] at this
  have := nmOf_inj hl omT this
  omega
 ·unfold depOk
  rw [deps_snoc, List.all_append]
  have h1 := hf.ok (late := 0)
  have h2 := hm.ok (late := 0)
  have h3 := h.dep
  unfold depOk at h3
  rw [h3]
  simp only [List.all_cons, List.all_nil, Bool.and_true, Bool.true_and, decide_eq_true_eq]
  unfold depOf
  omega
 ·by_cases e : i < ps.length
  ·rw [List.getElem?_append_left e] at hp; exact h.nam i p hp
  ·rw [List.getElem?_append_right omT] at hp
   by_cases e2 : i = ps.length
   ·subst e2; rw [Nat.sub_self] at hp; simp at hp; rw [← hp]
   ·rw [show i - ps.length = (i - ps.length - 1) + 1 by omega] at hp; simp at hp
theorem deps_pre (ps : List Per) (p : Per) {k : Nat} (hk : k < ps.length) : (deps (ps ++ [p])).getD k 0 = (deps ps).getD k 0 := by
 rw [deps_snoc, List.getD_eq_getElem?_getD, List.getD_eq_getElem?_getD, List.getElem?_append_left (by rw [deps_len]; exact hk)]
theorem deps_new (ps : List Per) (p : Per) : (deps (ps ++ [p])).getD ps.length 0 = depOf (deps ps) p.2.2.1 p.2.2.2.1 := by
 rw [deps_snoc, List.getD_eq_getElem?_getD, List.getElem?_append_right (by rw [deps_len]; exact Nat.le_refl _), deps_len, Nat.sub_self]; rfl
def setDie (ps : List Per) (i : Nat) (d : Int) : List Per := match ps[i]? with
 | some (nm, sx, fa, mo, bo, _) => ps.set i (nm, sx, fa, mo, bo, d)
 | none => ps
theorem setDie_at {ps : List Per} {i : Nat} {d : Int} {nm : ByteArray} {sx fa mo bo di : Int} (h : ps[i]? = some (nm, sx, fa, mo, bo, di)) : setDie ps i d = ps.set i (nm, sx, fa, mo, bo, d) := by unfold setDie; rw [h]
theorem setDie_len (ps : List Per) (i : Nat) (d : Int) : (setDie ps i d).length = ps.length := by unfold setDie; split <;> simp
theorem deps_congr : ∀ (ps qs : List Per) (o : List Int), ps.map (fun p => (p.2.2.1, p.2.2.2.1)) = qs.map (fun p => (p.2.2.1, p.2.2.2.1)) → ps.foldl (fun out p => out ++ [depOf out p.2.2.1 p.2.2.2.1]) o = qs.foldl (fun out p => out ++ [depOf out p.2.2.1 p.2.2.2.1]) o
 | [], [], _, _ => rfl
 | [], _ :: _, _, h => by simp at h
 | _ :: _, [], _, h => by simp at h
 | p :: ps, q :: qs, o, h => by
   rw [List.map_cons, List.map_cons, List.cons.injEq, Prod.mk.injEq] at h
   rw [List.foldl_cons, List.foldl_cons, h.1.1, h.1.2]
   exact deps_congr ps qs _ h.2
theorem map_set_same {β : Type} (g : Per → β) {ps : List Per} {i : Nat} {p q : Per} (h : ps[i]? = some p) (e : g q = g p) : (ps.set i q).map g = ps.map g := by
 rw [List.map_set, e]
 have hi := (List.getElem?_eq_some_iff.1 h).1
 apply List.ext_getElem?
 intro k
 rw [List.getElem?_set]
 split
 ·rename_i hk; subst hk
  rw [if_pos (by rw [List.length_map]; exact hi), List.getElem?_map, h]; rfl
 ·rfl
theorem die_ok {ps : List Per} {i : Nat} {d : Int} {nm : ByteArray} {sx fa mo bo di : Int} (h : PplTo ps ps.length) (hd : depOk ps = true) (hi : ps[i]? = some (nm, sx, fa, mo, bo, di)) (hb : bo ≤ d) (h9 : d ≤ 9999)
  (hc : ∀ (k : Nat) (p : Per), ps[k]? = some p → (p.2.2.1 = i ∨ p.2.2.2.1 = i) → p.2.2.2.2.1 ≤ d) : PplTo (setDie ps i d) (setDie ps i d).length ∧ depOk (setDie ps i d) = true := by
 rw [setDie_at hi]
 have hil := (List.getElem?_eq_some_iff.1 hi).1
 have hup : ∀ (k : Nat) (born q sex late : Int), 0 ≤ late → (q = i → born ≤ d) → upOk ps k born q sex late = true → upOk (ps.set i (nm, sx, fa, mo, bo, d)) k born q sex late = true := by
  intro k born q sex late hl hq hu
  unfold upOk at hu ⊢
  rw [Bool.or_eq_true] at hu ⊢
  rcases hu with hu | hu
  ·exact .inl hu
  ·rw [Bool.and_eq_true] at hu
   refine .inr (by
    rw [Bool.and_eq_true]
    refine ⟨hu.1, ?_⟩
    have h0 := hu.2
    have hq0 := of_decide_eq_true hu.1
    unfold upC at h0 ⊢
    rw [List.getElem?_set]
    by_cases e : i = q.toNat
    ·rw [if_pos e, if_pos hil]
     rw [← e, hi] at h0
     simp only [Bool.and_eq_true, decide_eq_true_eq] at h0 ⊢
     have := hq omT
     exact ⟨h0.1, h0.2.1, .inr omT⟩
    ·rw [if_neg e]; exact h0)
 refine ⟨fun k hk => ?_, ?_⟩
 ·rw [List.length_set] at hk
  have hk1 : ps[k]? = some ps[k] := List.getElem?_eq_getElem hk
  have h1 := h k hk
  rw [perOk_at hk1] at h1
  have hcc := hc k _ hk1
  by_cases e : i = k
  ·subst e
   have h2 : (ps.set i (nm, sx, fa, mo, bo, d))[i]? = some (nm, sx, fa, mo, bo, d) := by rw [List.getElem?_set_self hil]
   rw [perOk_at h2]
   rw [hi] at hk1
   rw [← Option.some.inj hk1] at h1 hcc
   simp only [perC, Bool.and_eq_true] at h1 ⊢
   rw [List.map_take, map_set_same (q := (nm, sx, fa, mo, bo, d)) (·.1) hi rfl, ← List.map_take]
   exact ⟨h1.1, h1.2.1, h1.2.2.1, by simp; omega, h1.2.2.2.2.1, hup _ _ _ _ _ omT (fun e => hcc (.inl e)) h1.2.2.2.2.2.1, hup _ _ _ _ _ omT (fun e => hcc (.inr e)) h1.2.2.2.2.2.2⟩
  ·have h2 : (ps.set i (nm, sx, fa, mo, bo, d))[k]? = some ps[k] := by rw [List.getElem?_set_ne e, hk1]
   rw [perOk_at h2]
   generalize ps[k] = x at h1 hcc
   obtain ⟨nm', sx', fa', mo', bo', di'⟩ := x
   simp only [perC, Bool.and_eq_true] at h1 ⊢
   rw [List.map_take, map_set_same (q := (nm, sx, fa, mo, bo, d)) (·.1) hi rfl, ← List.map_take]
   exact ⟨h1.1, h1.2.1, h1.2.2.1, h1.2.2.2.1, h1.2.2.2.2.1, hup _ _ _ _ _ omT (fun e => hcc (.inl e)) h1.2.2.2.2.2.1, hup _ _ _ _ _ omT (fun e => hcc (.inr e)) h1.2.2.2.2.2.2⟩
 ·unfold depOk deps at hd ⊢
  rw [deps_congr _ ps [] (map_set_same (q := (nm, sx, fa, mo, bo, d)) (fun p => (p.2.2.1, p.2.2.2.1)) hi rfl)]
  exact hd
theorem fam_ppl {ps : List Per} (hl : ps.length ≤ 40) (h : PplTo ps ps.length) (hd : depOk ps = true) : famB (ps, []) = true := famB_true hl spT h hd (fun k hk => by simp at hk)
end Go.Proofs.YtcbhdmmohdnjbaaGreat
