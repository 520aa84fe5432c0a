/- Plain: the texts of valid types are one to one. -/
import Derived.Test.YtoipdgoejichbaaFmt
namespace Go.Proofs.Ytoipdgoejichbaa
set_option linter.unusedVariables false
set_option linter.unusedSimpArgs false
open Go.RowKit

def bL (s : ByteArray) : List UInt8 := s.data.toList
theorem bL_app (a b : ByteArray) : bL (a ++ b) = bL a ++ bL b := by
  unfold bL
  rw [ByteArray.data_append, Array.toList_append]
theorem bL_inj {a b : ByteArray} (h : bL a = bL b) : a = b := by
  unfold bL at h
  exact ByteArray.ext (Array.toList_inj.1 h)
theorem bL_nil : bL ⟨#[]⟩ = [] := rfl
/-- The kind of a letter. -/
def letK (k : UInt8) : Int := if k = 70 then 1 else if k = 77 then 2 else if k = 66 then 3 else if k = 90 then 4 else if k = 83 then 5 else if k = 68 then 6 else if k = 72 then 7 else 8
/-- The first step of a text, and what follows. -/
def decS : List UInt8 → Option (Stp × List UInt8)
  | [] => none
  | c :: r => if c = 101 then (match r with | k :: r => some ((letK k, 1), r) | [] => none) else if c = 121 then (match r with | k :: r => some ((letK k, 2), r) | [] => none) else some ((letK c, 0), r)
theorem stTxt_dec {s : Stp} (h : (1 ≤ s.1 ∧ s.1 ≤ 8) ∧ (0 ≤ s.2 ∧ s.2 ≤ 2)) (r : List UInt8) : decS (bL (stTxt s) ++ r) = some (s, r) ∧ (bL (stTxt s)).head? ≠ none ∧ (bL (stTxt s)).head? ≠ some 46 ∧ (bL (stTxt s)).head? ≠ some 109 ∧ (bL (stTxt s)).head? ≠ some 119 := by
  obtain ⟨k, a⟩ := s
  have hk : k = 1 ∨ k = 2 ∨ k = 3 ∨ k = 4 ∨ k = 5 ∨ k = 6 ∨ k = 7 ∨ k = 8 := by have := h.1; dsimp only at this; omega
  have ha : a = 0 ∨ a = 1 ∨ a = 2 := by have := h.2; dsimp only at this; omega
  rcases hk with rfl | rfl | rfl | rfl | rfl | rfl | rfl | rfl <;> rcases ha with rfl | rfl | rfl <;> exact ⟨rfl, by decide, by decide, by decide, by decide⟩
theorem foldT_app : ∀ (l : List Stp) (o : ByteArray), l.foldl (fun o s => o ++ stTxt s) o = o ++ stepsT l
  | [], o => by unfold stepsT; exact (ByteArray.append_empty).symm
  | s :: l, o => by
    unfold stepsT
    simp only [List.foldl_cons]
    rw [foldT_app l, foldT_app l, ByteArray.append_assoc]
    congr 2
theorem stepsT_cons (s : Stp) (l : List Stp) : bL (stepsT (s :: l)) = bL (stTxt s) ++ bL (stepsT l) := by
  have : stepsT (s :: l) = (⟨#[]⟩ ++ stTxt s) ++ stepsT l := by
    show List.foldl _ _ (s :: l) = _
    rw [List.foldl_cons, foldT_app]
  rw [this, bL_app, bL_app, bL_nil, List.nil_append]
theorem stepsT_inj : ∀ {l m : List Stp}, SOk l → SOk m → bL (stepsT l) = bL (stepsT m) → l = m
  | [], [], _, _, _ => rfl
  | [], s :: m, _, hm, h => by
    rw [stepsT_cons] at h
    have h2 := (stTxt_dec (hm s (by simp)) []).2.1
    cases e : bL (stTxt s) with
    | nil => rw [e] at h2; simp at h2
    | cons c t => rw [e] at h; cases h
  | s :: l, [], hl, _, h => by
    rw [stepsT_cons] at h
    have h2 := (stTxt_dec (hl s (by simp)) []).2.1
    cases e : bL (stTxt s) with
    | nil => rw [e] at h2; simp at h2
    | cons c t => rw [e] at h; cases h
  | s :: l, u :: m, hl, hm, h => by
    rw [stepsT_cons, stepsT_cons] at h
    have h1 := (stTxt_dec (hl s (by simp)) (bL (stepsT l))).1
    rw [h, (stTxt_dec (hm u (by simp)) (bL (stepsT m))).1] at h1
    simp only [Option.some.injEq, Prod.mk.injEq] at h1
    obtain ⟨rfl, h2⟩ := h1
    rw [stepsT_inj hl.cons hm.cons h2.symm]
/-- The body of a type's text: no colon's prefix, and one to one. -/
theorem body_head {l : List Stp} (h : SOk l) : (bL (dotT (stepsT l))).head? ≠ some 109 ∧ (bL (dotT (stepsT l))).head? ≠ some 119 := by
  cases l with
  | nil => decide
  | cons s l =>
    have h2 := stTxt_dec (h s (by simp)) (bL (stepsT l))
    have e := stepsT_cons s l
    have hne : stepsT (s :: l) ≠ ⟨#[]⟩ := by
      intro h0
      rw [h0, bL_nil] at e
      cases e2 : bL (stTxt s) with
      | nil => rw [e2] at h2; simp at h2
      | cons c t => rw [e2] at e; cases e
    unfold dotT
    rw [if_neg hne, e]
    cases e2 : bL (stTxt s) with
    | nil => rw [e2] at h2; simp at h2
    | cons c t => rw [e2] at h2; exact ⟨h2.2.2.2.1, h2.2.2.2.2⟩
theorem body_inj {l m : List Stp} (hl : SOk l) (hm : SOk m) (h : bL (dotT (stepsT l)) = bL (dotT (stepsT m))) : l = m := by
  have cons_ne : ∀ (s : Stp) (l : List Stp), SOk (s :: l) → stepsT (s :: l) ≠ ⟨#[]⟩ ∧ (bL (stepsT (s :: l))).head? ≠ some 46 := by
    intro s l hs
    have h2 := stTxt_dec (hs s (by simp)) (bL (stepsT l))
    have e := stepsT_cons s l
    refine ⟨fun h0 => ?_, ?_⟩
    · rw [h0, bL_nil] at e
      cases e2 : bL (stTxt s) with
      | nil => rw [e2] at h2; simp at h2
      | cons c t => rw [e2] at e; cases e
    · rw [e]
      cases e2 : bL (stTxt s) with
      | nil => rw [e2] at h2; simp at h2
      | cons c t => rw [e2] at h2; simpa using h2.2.2.1
  cases l with
  | nil =>
    cases m with
    | nil => rfl
    | cons s m =>
      have h1 := cons_ne s m hm
      have e : dotT (stepsT (s :: m)) = stepsT (s :: m) := by unfold dotT; rw [if_neg h1.1]
      rw [e] at h
      exact absurd (by rw [← h]; rfl) h1.2
  | cons s l =>
    have h1 := cons_ne s l hl
    have e : dotT (stepsT (s :: l)) = stepsT (s :: l) := by unfold dotT; rw [if_neg h1.1]
    cases m with
    | nil =>
      rw [e] at h
      exact absurd (by rw [h]; rfl) h1.2
    | cons u m =>
      have h3 := cons_ne u m hm
      have e2 : dotT (stepsT (u :: m)) = stepsT (u :: m) := by unfold dotT; rw [if_neg h3.1]
      rw [e, e2] at h
      exact stepsT_inj hl hm h
theorem kinTxt_inj {t u : Kin} (ht : isKin t = true) (hu : isKin u = true) (h : kinTxt t = kinTxt u) : t = u := by
  obtain ⟨e, l⟩ := t
  obtain ⟨e', m⟩ := u
  have h1 := isKin_facts ht
  have h2 := isKin_facts hu
  unfold kinTxt at h
  rw [if_pos ht, if_pos hu] at h
  have hb := congrArg bL h
  dsimp only at hb
  rw [bL_app, bL_app] at hb
  have b1 := body_head (l := l) h1.2.2.2
  have b2 := body_head (l := m) h2.2.2.2
  have hE : e = 0 ∨ e = 1 ∨ e = 2 := by have := h1.1; dsimp only at this; omega
  have hE' : e' = 0 ∨ e' = 1 ∨ e' = 2 := by have := h2.1; dsimp only at this; omega
  have E0 : bL (egoTxt 0) = [] := rfl
  have E1 : bL (egoTxt 1) = [109, 58] := rfl
  have E2 : bL (egoTxt 2) = [119, 58] := rfl
  rcases hE with rfl | rfl | rfl <;> rcases hE' with rfl | rfl | rfl <;> simp only [E0, E1, E2, List.nil_append, List.cons_append] at hb
  · exact congrArg _ (body_inj h1.2.2.2 h2.2.2.2 hb)
  · rw [hb] at b1; simp at b1
  · rw [hb] at b1; simp at b1
  · rw [← hb] at b2; simp at b2
  · simp only [List.cons.injEq, true_and] at hb
    exact congrArg _ (body_inj h1.2.2.2 h2.2.2.2 hb)
  · simp at hb
  · rw [← hb] at b2; simp at b2
  · simp at hb
  · simp only [List.cons.injEq, true_and] at hb
    exact congrArg _ (body_inj h1.2.2.2 h2.2.2.2 hb)
end Go.Proofs.Ytoipdgoejichbaa
