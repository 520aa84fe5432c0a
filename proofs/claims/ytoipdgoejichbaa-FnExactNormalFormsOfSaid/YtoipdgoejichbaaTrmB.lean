/- Texts laid one behind the other (merge.py): IstI, IstS, TmI, TmS, TFor. -/
import Derived.Test.YtoipdgoejichbaaTrmA
import Derived.Test.YtoipdgoejichbaaDEntry
namespace Go.Proofs.Ytoipdgoejichbaa
set_option linter.unusedVariables false
set_option linter.unusedSimpArgs false
open Go.RowKit

/-! ### IstI -/

theorem isTerm_bad {rs : List Rul} {es : List Ent} {i : Nat} {e : Ent} (h : es[i]? = some e) (hr : entOk rs e = false) : isTerm (rs, es) = false := by
  rw [Bool.eq_false_iff]
  intro q
  unfold isTerm at q
  simp only [Bool.and_eq_true, List.all_eq_true] at q
  have := q.2.2.1 e (List.mem_of_getElem? h)
  rw [hr] at this; cases this
theorem isTerm_dup {rs : List Rul} {es : List Ent} {i : Nat} {e : Ent} (h : es[i]? = some e) (hr : e.1 ∈ (es.take i).map (·.1)) : isTerm (rs, es) = false := by
  rw [Bool.eq_false_iff]
  intro q
  have hn := (isTerm_facts q).2.2.2
  dsimp only at hn
  rw [← List.take_append_drop i es, drop_cons h, List.map_append, List.map_cons, List.nodup_append] at hn
  exact hn.2.2 _ hr _ (by simp) rfl
theorem isTerm_end {rs : List Rul} {es : List Ent} {i : Nat} (hi : es.length ≤ i) (h0 : areRules rs = true) (hl : es.length ≤ 60) (h1 : (es.take i).all (entOk rs) = true) (h2 : ((es.take i).map (·.1)).Nodup) : isTerm (rs, es) = true := by
  rw [List.take_of_length_le hi] at h1 h2
  unfold isTerm
  dsimp only
  rw [h0, decide_eq_true hl, h1, decide_eq_true h2]; rfl
theorem take_nodupE {xs : List Ent} {i : Nat} {x : Ent} (h : xs[i]? = some x) (h1 : ((xs.take i).map (·.1)).Nodup) (h2 : ∀ y ∈ xs.take i, y.1 ≠ x.1) : ((xs.take (i + 1)).map (·.1)).Nodup := by
  rw [take_snoc h, List.map_append, List.nodup_append]
  refine ⟨h1, by simp, fun a ha b hb e => ?_⟩
  simp at hb; subst hb
  rw [List.mem_map] at ha
  obtain ⟨y, hy, rfl⟩ := ha
  exact h2 y hy e

/-! ### IstS -/


/-! ### TmI -/

theorem find_at {α : Type} {p : α → Bool} {xs : List α} {i : Nat} {x : α} (h : xs[i]? = some x) (hp : p x = true) (hn : ∀ y ∈ xs.take i, p y = false) : xs.find? p = some x := by
  rw [← List.take_append_drop i xs, drop_cons h, List.find?_append, List.find?_eq_none.2 (fun y hy => by rw [hn y hy]; decide), List.find?_cons_of_pos hp]; rfl
theorem find_none {α : Type} {p : α → Bool} {xs : List α} {i : Nat} (hi : xs.length ≤ i) (hn : ∀ y ∈ xs.take i, p y = false) : xs.find? p = none := by
  rw [List.take_of_length_le hi] at hn
  exact List.find?_eq_none.2 (fun y hy => by rw [hn y hy]; decide)
def tmText (o : Option ByteArray) : ByteArray := match o with | some s => s | none => ByteArray.empty

/-! ### TmS -/


/-! ### TFor -/

def tmO (y : Trm) (t : Kin) : Option ByteArray := if (isTerm y && isKin t) = true then termOf y t else none
theorem tmO_none1 {y : Trm} {t : Kin} (h : false = isTerm y) : tmO y t = none := by unfold tmO; rw [← h]; rfl
theorem tmO_none2 {y : Trm} {t : Kin} (h : false = isKin t) : tmO y t = none := by unfold tmO; rw [← h, Bool.and_false]; rfl
theorem tmO_some {y : Trm} {t : Kin} (h : true = isTerm y) (h' : true = isKin t) : tmO y t = termOf y t := by unfold tmO; rw [← h, ← h']; rfl
theorem tmText_ne {y : Trm} {t : Kin} (h : true = isTerm y) : (!(tmText (termOf y t)).toList.isEmpty) = (termOf y t).isSome := by
  cases e : termOf y t with
  | none =>
    show (!ByteArray.empty.toList.isEmpty) = false
    rw [ByteArray.toList_eq]; rfl
  | some s =>
    have := termOf_ne h.symm e
    show (!s.toList.isEmpty) = true
    have hs : s ≠ ByteArray.empty := by
      rintro rfl
      exact absurd this (by decide)
    rw [ByteArray.toList_eq]
    cases e : s.data.toList with
    | nil => exact absurd (by cases s with | mk d => cases d with | mk l => simp at e; subst e; rfl) hs
    | cons x xs => rfl



end Go.Proofs.Ytoipdgoejichbaa
