/- Texts laid one behind the other (merge.py): Rul, Cmp, DRule. -/
import Derived.Test.YtdpkldapobbnpaaGreatDoorBase
namespace Go.Proofs.YtdpkldapobbnpaaGreatDoor
set_option linter.unusedVariables false
set_option linter.unusedSimpArgs false
open Go.RowKit
section
abbrev Rul := ByteArray × Int × Int × List Stp × List Stp
def cmpI (a b : Int) : Int := if a < b then -1 else if b < a then 1 else 0
def cmpS : List Stp → List Stp → Int
 | [], [] => 0
 | [], _ :: _ => -1
 | _ :: _, [] => 1
 | x :: a, y :: b => if x.1 = y.1 then (if x.2 = y.2 then cmpS a b else cmpI x.2 y.2) else cmpI x.1 y.1
def beforeS (a b : List Stp) : Bool := if a.length = b.length then decide (cmpS a b < 0) else decide (a.length < b.length)
def ruleSx (r : Rul) (s : Int) : Bool := decide (r.2.1 = 0 ∨ r.2.1 = s) && isKin (s, r.2.2.2.1)
def ruleFn (r : Rul) (s : Int) : Bool := isKin (s, r.2.2.2.2) && decide (sexOf (s, r.2.2.2.1) = sexOf (s, r.2.2.2.2))
def ruleHd (r : Rul) : Bool := nameOk r.1 && (decide (0 ≤ r.2.1 ∧ r.2.1 ≤ 2) && (decide (0 ≤ r.2.2.1 ∧ r.2.2.1 ≤ 2) && (decide (1 ≤ r.2.2.2.1.length ∧ r.2.2.2.1.length ≤ 4) && beforeS r.2.2.2.2 r.2.2.2.1)))
def isRule (r : Rul) : Bool := ruleHd r && (((ruleSx r 1 || ruleSx r 2) && (!ruleSx r 1 || ruleFn r 1)) && (!ruleSx r 2 || ruleFn r 2))
def areRules (rs : List Rul) : Bool := decide (rs.length ≤ 12) && (rs.all isRule && decide ((rs.map (·.1)).Nodup))
def matchS : List Stp → List Stp → Bool
 | [], _ => true
 | _ :: _, [] => false
 | p :: ps, x :: xs => (decide (x.1 = p.1) && decide (p.2 = 0 ∨ p.2 = x.2)) && matchS ps xs
def fitsB (r : Rul) (t : Kin) (i : Nat) : Bool :=
 decide (i + r.2.2.2.1.length ≤ t.2.length) && (matchS r.2.2.2.1 (t.2.drop i) && (decide (r.2.1 = 0 ∨ r.2.1 = sexAt t i) && (decide (r.2.2.1 = 1 → i = 0) && decide (r.2.2.1 = 2 → i + r.2.2.2.1.length = t.2.length))))
def replT (r : Rul) (t : Kin) (i : Nat) : Kin := (egoOf t, t.2.take i ++ r.2.2.2.2 ++ t.2.drop (i + r.2.2.2.1.length))
def ruleAt (rs : List Rul) (t : Kin) (i : Nat) : Option Nat := rs.findIdx? fun r => fitsB r t i
def placeOf (rs : List Rul) (t : Kin) : Option (Nat × Nat) := (List.range t.2.length).findSome? fun i => (ruleAt rs t i).map fun k => (k, i)
def rewr (rs : List Rul) (t : Kin) : Option (Kin × Nat × Nat) := (placeOf rs t).bind fun p => (rs[p.1]?).map fun r => (replT r t p.2, p.1, p.2)
def nfN : Nat → List Rul → Kin → Kin
 | 0, _, t => t
 | n + 1, rs, t => match rewr rs t with | some (u, _, _) => nfN n rs u | none => t
def dig (s : Stp) : Nat := (3 * s.1 + s.2).toNat + 1
def enc : List Stp → Nat
 | [] => 0
 | s :: l => dig s * 32 ^ l.length + enc l
def nf (rs : List Rul) (t : Kin) : Kin := nfN (enc t.2) rs t
def SOk (l : List Stp) : Prop := ∀ s ∈ l, (1 ≤ s.1 ∧ s.1 ≤ 8) ∧ (0 ≤ s.2 ∧ s.2 ≤ 2)
theorem SOk.cons {s : Stp} {l : List Stp} (h : SOk (s :: l)) : SOk l := fun x hx => h x (List.mem_cons_of_mem _ hx)
theorem SOk.app {a b : List Stp} (h : SOk (a ++ b)) : SOk a ∧ SOk b := ⟨fun x hx => h x (List.mem_append_left _ hx), fun x hx => h x (List.mem_append_right _ hx)⟩
theorem SOk.mk {a b : List Stp} (ha : SOk a) (hb : SOk b) : SOk (a ++ b) := fun x hx => by
 rcases List.mem_append.1 hx with h | h
 ·exact ha x h
 ·exact hb x h
theorem dig_lt {s : Stp} (h : (1 ≤ s.1 ∧ s.1 ≤ 8) ∧ (0 ≤ s.2 ∧ s.2 ≤ 2)) : 1 ≤ dig s ∧ dig s < 32 := by unfold dig; omega
theorem enc_lt : ∀ {l : List Stp}, SOk l → enc l < 32 ^ l.length
 | [], _ => by simp [enc]
 | s :: l, h => by
   have h1 := enc_lt h.cons
   have h2 := (dig_lt (h s (by simp))).2
   rw [enc, List.length_cons, Nat.pow_succ]
   have h3 : dig s * 32 ^ l.length ≤ 31 * 32 ^ l.length := Nat.mul_le_mul_right _ (by omega)
   omega
theorem enc_ge : ∀ {l : List Stp}, SOk l → l ≠ [] → 32 ^ (l.length - 1) ≤ enc l
 | [], _, h => absurd rfl h
 | s :: l, h, _ => by
   have h2 := (dig_lt (h s (by simp))).1
   rw [enc, List.length_cons, Nat.add_sub_cancel]
   have h3 : 1 * 32 ^ l.length ≤ dig s * 32 ^ l.length := Nat.mul_le_mul_right _ h2
   omega
theorem enc_app : ∀ a b : List Stp, enc (a ++ b) = enc a * 32 ^ b.length + enc b
 | [], b => by simp [enc]
 | s :: a, b => by
   rw [List.cons_append, enc, enc_app a b, enc, List.length_append, Nat.pow_add, Nat.add_mul, Nat.mul_assoc, Nat.add_assoc]
theorem cmpI_neg {a b : Int} : cmpI a b < 0 ↔ a < b := by
 unfold cmpI
 split
 ·simp_all
 ·split <;> simp_all <;> omega
theorem enc_less : ∀ {a b : List Stp}, SOk a → SOk b → a.length = b.length → cmpS a b < 0 → enc a < enc b
 | [], [], _, _, _, h => by simp [cmpS] at h
 | [], _ :: _, _, _, h, _ => by simp at h
 | _ :: _, [], _, _, h, _ => by simp at h
 | x :: a, y :: b, ha, hb, hl, h => by
   have hl' : a.length = b.length := by simpa using hl
   have hx := ha x (by simp)
   have hy := hb y (by simp)
   have h1 := enc_lt ha.cons
   rw [enc, enc, hl']
   rw [hl'] at h1
   have key : dig x < dig y → dig x * 32 ^ b.length + enc a < dig y * 32 ^ b.length + enc b := by
    intro hd
    have h3 : (dig x + 1) * 32 ^ b.length ≤ dig y * 32 ^ b.length := Nat.mul_le_mul_right _ hd
    rw [Nat.add_mul, Nat.one_mul] at h3
    omega
   unfold cmpS at h
   split at h
   ·split at h
    ·rename_i e1 e2
     have := enc_less ha.cons hb.cons hl' h
     have e : x = y := Prod.ext e1 e2
     rw [e]; omega
    ·rename_i e1 e2
     refine key ?_
     have := cmpI_neg.1 h
     unfold dig; omega
   ·refine key ?_
    have := cmpI_neg.1 h
    unfold dig; omega
theorem enc_match : ∀ {p x : List Stp}, SOk p → SOk x → p.length = x.length → matchS p x = true → enc p ≤ enc x
 | [], [], _, _, _, _ => Nat.le_refl _
 | [], _ :: _, _, _, h, _ => by simp at h
 | _ :: _, [], _, _, h, _ => by simp at h
 | p :: ps, x :: xs, hp, hx, hl, h => by
   simp only [matchS, Bool.and_eq_true, decide_eq_true_eq] at h
   have hl' : ps.length = xs.length := by simpa using hl
   have ih := enc_match hp.cons hx.cons hl' h.2
   have h1 := hp p (by simp)
   have h2 := hx x (by simp)
   have hd : dig p ≤ dig x := by unfold dig; rcases h.1.2 with e | e <;> omega
   rw [enc, enc, hl']
   have := Nat.mul_le_mul_right (32 ^ xs.length) hd
   omega
theorem isRule_facts {r : Rul} (h : isRule r = true) : nameOk r.1 = true ∧ (0 ≤ r.2.1 ∧ r.2.1 ≤ 2) ∧ (0 ≤ r.2.2.1 ∧ r.2.2.1 ≤ 2) ∧ (1 ≤ r.2.2.2.1.length ∧ r.2.2.2.1.length ≤ 4) ∧ beforeS r.2.2.2.2 r.2.2.2.1 = true ∧
  (ruleSx r 1 = true ∨ ruleSx r 2 = true) ∧ (ruleSx r 1 = true → ruleFn r 1 = true) ∧ (ruleSx r 2 = true → ruleFn r 2 = true) := by
 unfold isRule ruleHd at h
 simp only [Bool.and_eq_true, decide_eq_true_eq, Bool.or_eq_true, Bool.not_eq_true'] at h
 obtain ⟨⟨h1, h2, h3, h4, h5⟩, ⟨h6, h7⟩, h8⟩ := h
 refine ⟨h1, h2, h3, h4, h5, h6, fun e => ?_, fun e => ?_⟩
 ·rcases h7 with h | h
  ·rw [h] at e; cases e
  ·exact h
 ·rcases h8 with h | h
  ·rw [h] at e; cases e
  ·exact h
theorem before_len {a b : List Stp} (h : beforeS a b = true) : a.length ≤ b.length := by
 unfold beforeS at h
 split at h
 ·omega
 ·simp at h; omega
theorem rule_steps {r : Rul} (h : isRule r = true) : SOk r.2.2.2.1 ∧ SOk r.2.2.2.2 ∧ r.2.2.2.2.length ≤ 4 := by
 obtain ⟨-, -, -, h4, h5, h6, h7, h8⟩ := isRule_facts h
 have hl := before_len h5
 have key : ∀ s, ruleSx r s = true → ruleFn r s = true → SOk r.2.2.2.1 ∧ SOk r.2.2.2.2 := by
  intro s a b
  unfold ruleSx at a
  unfold ruleFn at b
  simp only [Bool.and_eq_true] at a b
  exact ⟨(isKin_facts a.2).2.2.2, (isKin_facts b.1).2.2.2⟩
 rcases h6 with h6 | h6
 ·exact ⟨(key 1 h6 (h7 h6)).1, (key 1 h6 (h7 h6)).2, by omega⟩
 ·exact ⟨(key 2 h6 (h8 h6)).1, (key 2 h6 (h8 h6)).2, by omega⟩
theorem fits_facts {r : Rul} {t : Kin} {i : Nat} (h : fitsB r t i = true) : i + r.2.2.2.1.length ≤ t.2.length ∧ matchS r.2.2.2.1 (t.2.drop i) = true ∧ (r.2.1 = 0 ∨ r.2.1 = sexAt t i) ∧ (r.2.2.1 = 1 → i = 0) ∧ (r.2.2.1 = 2 → i + r.2.2.2.1.length = t.2.length) := by
 simpa only [fitsB, Bool.and_eq_true, decide_eq_true_eq] using h
def sexEnd (sex : Int) (l : List Stp) : Int := match l.getLast? with | some s => stSex s.1 | none => sex
theorem sexOf_end (sex : Int) (l : List Stp) : sexOf (sex, l) = sexEnd sex l := rfl
theorem sexEnd_cons (sex : Int) (s : Stp) (l : List Stp) : sexEnd sex (s :: l) = sexEnd (stSex s.1) l := by
 unfold sexEnd
 cases l with
 | nil => rfl
 | cons y l =>
   rw [List.getLast?_cons_cons]
   cases h : (y :: l).getLast? with
   | none => simp at h
   | some z => rfl
theorem kinGo_app : ∀ (a b : List Stp) (sex : Int), kinGo sex (a ++ b) = (kinGo sex a && kinGo (sexEnd sex a) b)
 | [], b, sex => by simp [kinGo, sexEnd]
 | s :: a, b, sex => by rw [List.cons_append, kinGo, kinGo, kinGo_app a b, sexEnd_cons, Bool.and_assoc]
theorem sexAt_end {t : Kin} {i : Nat} (hi : i ≤ t.2.length) (h0 : 0 < i) (sex : Int) : sexAt t i = sexEnd sex (t.2.take i) := by
 obtain ⟨m, rfl⟩ : ∃ m, i = m + 1 := ⟨i - 1, by omega⟩
 have hx : t.2[m]? = some t.2[m] := List.getElem?_eq_getElem (by omega)
 rw [take_snoc hx, sexAt, hx, sexEnd, List.getLast?_append]
 simp
theorem match_kinGo : ∀ {p x : List Stp} {sex : Int}, SOk p → matchS p x = true → kinGo sex x = true → kinGo sex p = true
 | [], _, _, _, _, _ => rfl
 | p :: ps, [], _, _, h, _ => by simp [matchS] at h
 | p :: ps, x :: xs, sex, hp, h, hk => by
   simp only [matchS, Bool.and_eq_true, decide_eq_true_eq] at h
   rw [kinGo, Bool.and_eq_true] at hk ⊢
   have h1 := stFits_facts hk.1
   have hb := hp p (by simp)
   refine ⟨?_, ?_⟩
   ·simp only [stFits, Bool.and_eq_true, decide_eq_true_eq, Bool.not_eq_true', decide_eq_false_iff_not]
    refine ⟨hb.1, hb.2, ?_, ?_⟩
    ·rcases h.1.2 with e | e
     ·exact .inl e
     ·rcases h1.2.2.1 with e2 | e2
      ·left; omega
      ·right; omega
    ·rw [← h.1.1]; exact h1.2.2.2
   ·rw [← h.1.1]; exact match_kinGo hp.cons h.2 hk.2
theorem match_take : ∀ {p x : List Stp}, matchS p x = true → matchS p (x.take p.length) = true
 | [], _, _ => rfl
 | p :: ps, [], h => by simp [matchS] at h
 | p :: ps, x :: xs, h => by
   simp only [matchS, Bool.and_eq_true] at h
   rw [List.length_cons, List.take_succ_cons, matchS]
   simp only [Bool.and_eq_true]
   exact ⟨h.1, match_take h.2⟩
theorem match_end : ∀ {p x : List Stp} (sex : Int), matchS p x = true → p.length = x.length → sexEnd sex p = sexEnd sex x
 | [], [], _, _, _ => rfl
 | [], _ :: _, _, _, h => by simp at h
 | p :: ps, [], _, h, _ => by simp [matchS] at h
 | p :: ps, x :: xs, sex, h, hl => by
   simp only [matchS, Bool.and_eq_true, decide_eq_true_eq] at h
   rw [sexEnd_cons, sexEnd_cons, h.1.1]
   exact match_end _ h.2 (by simpa using hl)
theorem kinGo_ego {t : Kin} (h : isKin t = true) : kinGo (egoOf t) t.2 = true := by
 obtain ⟨h1, -, h3, -⟩ := isKin_facts h
 unfold egoOf
 split
 ·rename_i e
  rw [e] at h3
  cases hl : t.2 with
  | nil => simp [kinGo]
  | cons s l =>
    rw [hl] at h3
    dsimp only
    rw [kinGo, Bool.and_eq_true] at h3
    have hf := stFits_facts h3.1
    have : ∀ x : Int, ¬ (s.1 = 7 ∧ x = 1 ∨ s.1 = 8 ∧ x = 2) → kinGo x (s :: l) = true := by
     intro x hx
     rw [kinGo, Bool.and_eq_true]
     refine ⟨?_, h3.2⟩
     simp only [stFits, Bool.and_eq_true, decide_eq_true_eq, Bool.not_eq_true', decide_eq_false_iff_not]
     exact ⟨hf.1, hf.2.1, hf.2.2.1, hx⟩
    split
    ·exact this _ (by omega)
    ·split
     ·exact this _ (by omega)
     ·exact this _ (by omega)
 ·exact h3
theorem egoOf_in {t : Kin} (h : isKin t = true) : 0 ≤ egoOf t ∧ egoOf t ≤ 2 := by
 obtain ⟨h1, -⟩ := isKin_facts h
 unfold egoOf
 split
 ·split
  ·split
   ·omega
   ·split <;> omega
  ·omega
 ·omega
theorem kinGo_zero {l : List Stp} {a : Int} (h : kinGo a l = true) (h' : a = 0 ∨ ∀ s ∈ l.head?, s.1 ≠ 7 ∧ s.1 ≠ 8) (b : Int) : (∀ s ∈ l.head?, s.1 ≠ 7 ∧ s.1 ≠ 8) ∨ b = 0 → kinGo b l = true := by
 intro hb
 cases l with
 | nil => rfl
 | cons s l =>
   rw [kinGo, Bool.and_eq_true] at h ⊢
   refine ⟨?_, h.2⟩
   have hf := stFits_facts h.1
   simp only [stFits, Bool.and_eq_true, decide_eq_true_eq, Bool.not_eq_true', decide_eq_false_iff_not]
   refine ⟨hf.1, hf.2.1, hf.2.2.1, ?_⟩
   rcases hb with hb | hb
   ·have := hb s (by simp); omega
   ·omega
theorem rule_seg {r : Rul} (hr : isRule r = true) {sex : Int} (hs : 0 ≤ sex ∧ sex ≤ 2) (hsx : r.2.1 = 0 ∨ r.2.1 = sex) {x : List Stp} (hm : matchS r.2.2.2.1 x = true) (hk : kinGo sex x = true) (h0 : sex = 0 → ∀ s ∈ x.head?, s.1 ≠ 7 ∧ s.1 ≠ 8) :
  kinGo sex r.2.2.2.2 = true ∧ sexEnd sex r.2.2.2.2 = sexEnd sex r.2.2.2.1 ∧ (sex = 0 → r.2.2.2.2 ≠ [] ∧ ∀ s ∈ r.2.2.2.2.head?, s.1 ≠ 7 ∧ s.1 ≠ 8) := by
 obtain ⟨-, g2, -, h4, h5, -, h7, h8⟩ := isRule_facts hr
 obtain ⟨hf, ht, htl⟩ := rule_steps hr
 have hkf := match_kinGo hf hm hk
 have key : ∀ s : Int, (s = 1 ∨ s = 2) → (r.2.1 = 0 ∨ r.2.1 = s) → kinGo s r.2.2.2.1 = true → kinGo s r.2.2.2.2 = true ∧ sexEnd s r.2.2.2.1 = sexEnd s r.2.2.2.2 := by
  intro s hs h1 h2
  have hx : ruleSx r s = true := by
   unfold ruleSx isKin
   simp only [Bool.and_eq_true, decide_eq_true_eq]
   exact ⟨h1, by omega, by omega, h2⟩
  have hfn : ruleFn r s = true := by
   rcases hs with rfl | rfl
   ·exact h7 hx
   ·exact h8 hx
  unfold ruleFn at hfn
  simp only [Bool.and_eq_true, decide_eq_true_eq] at hfn
  exact ⟨(isKin_facts hfn.1).2.2.1, hfn.2⟩
 by_cases hz : sex = 0
 ·subst hz
  have hr0 : r.2.1 = 0 := by rcases hsx with h | h <;> exact h
  -- the rule's first step is none of husband, wife
  have hhead : ∀ s ∈ r.2.2.2.1.head?, s.1 ≠ 7 ∧ s.1 ≠ 8 := by
   intro s hs
   cases hfr : r.2.2.2.1 with
   | nil => rw [hfr] at hs; simp at hs
   | cons p ps =>
     rw [hfr] at hs hm
     simp at hs; subst hs
     cases x with
     | nil => simp [matchS] at hm
     | cons y ys =>
       simp only [matchS, Bool.and_eq_true, decide_eq_true_eq] at hm
       rw [← hm.1.1]
       exact h0 rfl y (by simp)
  have k1 := key 1 (.inl rfl) (.inl hr0) (kinGo_zero hkf (.inl rfl) 1 (.inl hhead))
  have k2 := key 2 (.inr rfl) (.inl hr0) (kinGo_zero hkf (.inl rfl) 2 (.inl hhead))
  have hne : r.2.2.2.1 ≠ [] := by intro e; rw [e] at h4; simp at h4
  have hend : ∀ (l : List Stp), l ≠ [] → ∀ a b : Int, sexEnd a l = sexEnd b l := by
   intro l hl a b
   unfold sexEnd
   cases h : l.getLast? with
   | none => exact absurd (List.getLast?_eq_none_iff.1 h) hl
   | some z => rfl
  have hto : r.2.2.2.2 ≠ [] := by
   intro e
   have e1 := k1.2
   have e2 := k2.2
   rw [e] at e1 e2
   have := hend _ hne 1 2
   simp [sexEnd] at e1 e2 this
   rw [e1, e2] at this
   omega
  have hth : ∀ s ∈ r.2.2.2.2.head?, s.1 ≠ 7 ∧ s.1 ≠ 8 := by
   intro s hs
   cases hfr : r.2.2.2.2 with
   | nil => exact absurd hfr hto
   | cons p ps =>
     rw [hfr] at hs
     simp at hs; subst hs
     have e1 := k1.1
     have e2 := k2.1
     rw [hfr, kinGo, Bool.and_eq_true] at e1 e2
     have f1 := (stFits_facts e1.1).2.2.2
     have f2 := (stFits_facts e2.1).2.2.2
     omega
  refine ⟨kinGo_zero k1.1 (.inr hth) 0 (.inr rfl), ?_, fun _ => ⟨hto, hth⟩⟩
  rw [hend _ hto 0 1, hend _ hne 0 1]
  exact k1.2.symm
 ·have := key sex (by omega) hsx hkf
  exact ⟨this.1, this.2.symm, fun e => absurd e hz⟩
theorem egoZero {t : Kin} (h : egoOf t = 0) : ∀ s ∈ t.2.head?, s.1 ≠ 7 ∧ s.1 ≠ 8 := by
 intro s hs
 unfold egoOf at h
 split at h
 ·cases hl : t.2 with
  | nil => rw [hl] at hs; simp at hs
  | cons y ys =>
    rw [hl] at hs h
    simp at hs; subst hs
    dsimp only at h
    split at h
    ·omega
    ·split at h
     ·omega
     ·exact ⟨by assumption, by assumption⟩
 ·omega
theorem egoOf_keep {e : Int} {l : List Stp} (h : e = 0 → ∀ s ∈ l.head?, s.1 ≠ 7 ∧ s.1 ≠ 8) : egoOf (e, l) = e := by
 unfold egoOf
 dsimp only
 split
 ·rename_i h0
  cases l with
  | nil => exact h0.symm
  | cons y ys =>
    have := h h0 y (by simp)
    simp only
    rw [if_neg this.1, if_neg this.2, h0]
 ·rfl
theorem drop_parts {l : List Stp} {i n : Nat} (h : i + n ≤ l.length) : l = l.take i ++ ((l.drop i).take n ++ l.drop (i + n)) := by
 rw [← List.drop_drop, List.take_append_drop, List.take_append_drop]
theorem repl_ok {r : Rul} {t : Kin} {i : Nat} (hr : isRule r = true) (ht : isKin t = true) (hf : fitsB r t i = true) : isKin (replT r t i) = true ∧ sexOf (replT r t i) = sexOf t ∧ egoOf (replT r t i) = egoOf t ∧ (replT r t i).2.length ≤ t.2.length := by
 obtain ⟨f1, f2, f3, -, -⟩ := fits_facts hf
 obtain ⟨h1, h2, h3, -⟩ := isKin_facts ht
 obtain ⟨-, -, -, g4, g5, -⟩ := isRule_facts hr
 have hlen := before_len g5
 have hgo := kinGo_ego ht
 have hego := egoOf_in ht
 obtain ⟨F, hF⟩ : ∃ F, F = r.2.2.2.1 := ⟨_, rfl⟩
 obtain ⟨T, hT⟩ : ∃ T, T = r.2.2.2.2 := ⟨_, rfl⟩
 rw [← hF] at f1 f2 g4 g5 hlen
 rw [← hT] at g5 hlen
 have hp : t.2 = t.2.take i ++ ((t.2.drop i).take F.length ++ t.2.drop (i + F.length)) := drop_parts f1
 have hseg : ((t.2.drop i).take F.length).length = F.length := by simp; omega
 have hms := match_take f2
 obtain ⟨A, hA⟩ : ∃ A, A = t.2.take i := ⟨_, rfl⟩
 obtain ⟨X, hX⟩ : ∃ X, X = (t.2.drop i).take F.length := ⟨_, rfl⟩
 obtain ⟨B, hB⟩ : ∃ B, B = t.2.drop (i + F.length) := ⟨_, rfl⟩
 rw [← hA, ← hX, ← hB] at hp
 rw [← hX] at hseg hms
 have hgo' := hgo
 rw [hp, kinGo_app, kinGo_app, Bool.and_eq_true, Bool.and_eq_true] at hgo'
 obtain ⟨k1, k2, k3⟩ := hgo'
 -- the sex at the place
 have hsx : sexEnd (egoOf t) A = sexAt t i := by
  rcases Nat.eq_zero_or_pos i with h0 | h0
  ·subst h0; rw [hA]; simp [sexEnd, sexAt]
  ·rw [sexAt_end (by omega) h0 (egoOf t), hA]
 have hs2 : 0 ≤ sexAt t i ∧ sexAt t i ≤ 2 := by
  cases i with
  | zero => exact hego
  | succ m =>
    rw [sexAt]
    split
    ·have := stSex_in (by assumption : Stp).1
     rcases stSex_in ‹Stp›.1 with h | h <;> rw [h] <;> omega
    ·omega
 have h0 : sexAt t i = 0 → ∀ s ∈ X.head?, s.1 ≠ 7 ∧ s.1 ≠ 8 := by
  intro e
  have hi0 : i = 0 := by
   rcases Nat.eq_zero_or_pos i with h0 | h0
   ·exact h0
   ·obtain ⟨m, rfl⟩ : ∃ m, i = m + 1 := ⟨i - 1, by omega⟩
    have hx : t.2[m]? = some t.2[m] := List.getElem?_eq_getElem (by omega)
    rw [sexAt, hx] at e
    dsimp only at e
    rcases stSex_in t.2[m].1 with h | h <;> rw [h] at e <;> omega
  subst hi0
  have := egoZero (show egoOf t = 0 from e)
  intro s hs
  refine this s ?_
  have hA0 : A = [] := by rw [hA]; simp
  rw [hp, hA0, List.nil_append]
  cases X with
  | nil => simp at hs
  | cons y ys => simpa using hs
 have hmx : matchS r.2.2.2.1 X = true := by rw [← hF]; exact hms
 obtain ⟨m1, m2, m3⟩ := rule_seg hr hs2 f3 hmx (by rw [← hsx]; exact k2) h0
 rw [← hT] at m1 m2 m3
 rw [← hF] at m2
 have hendX : sexEnd (sexAt t i) F = sexEnd (sexAt t i) X := match_end _ hms hseg.symm
 have hrep : replT r t i = (egoOf t, A ++ (T ++ B)) := by
  unfold replT
  rw [← hF, ← hT, ← hA, ← hB, List.append_assoc]
 have hgoN : kinGo (egoOf t) (A ++ (T ++ B)) = true := by
  rw [kinGo_app, kinGo_app, Bool.and_eq_true, Bool.and_eq_true, hsx]
  refine ⟨k1, m1, ?_⟩
  rw [m2, hendX, ← hsx]; exact k3
 have hlN : (A ++ (T ++ B)).length ≤ t.2.length := by
  have e := congrArg List.length hp
  simp only [List.length_append] at e ⊢
  omega
 have end_app : ∀ (s : Int) (a b : List Stp), sexEnd s (a ++ b) = sexEnd (sexEnd s a) b := by
  intro s a b
  unfold sexEnd
  rw [List.getLast?_append]
  cases b.getLast? <;> simp
 refine ⟨?_, ?_, ?_, by rw [hrep]; exact hlN⟩
 ·rw [hrep]
  unfold isKin
  simp only [Bool.and_eq_true, decide_eq_true_eq]
  exact ⟨hego, by omega, hgoN⟩
 ·rw [hrep, sexOf_end, end_app, end_app, hsx, m2, hendX, ← hsx, ← end_app, ← end_app, ← hp]
  have hne : t.2 ≠ [] := by intro e; have : t.2.length = 0 := by { rw [e]; rfl }; omega
  unfold sexEnd sexOf
  cases h : t.2.getLast? with
  | none => exact absurd (List.getLast?_eq_none_iff.1 h) hne
  | some z => rfl
 ·rw [hrep]
  by_cases he : egoOf t = 0
  · -- the new type begins with no husband, wife
   have : ∀ s ∈ (A ++ (T ++ B)).head?, s.1 ≠ 7 ∧ s.1 ≠ 8 := by
    by_cases hA0 : A = []
    ·have hi0 : i = 0 := by
      have := congrArg List.length hA
      rw [hA0] at this
      simp at this; omega
     subst hi0
     obtain ⟨hto, hth⟩ := m3 he
     rw [hA0, List.nil_append]
     intro s hs
     cases hTT : T with
     | nil => exact absurd hTT hto
     | cons y ys => rw [hTT] at hs hth; exact hth s (by simpa using hs)
    ·cases hAA : A with
     | nil => exact absurd hAA hA0
     | cons y ys =>
       intro s hs
       refine egoZero he s ?_
       rw [hp, hAA]
       simpa using hs
   exact egoOf_keep fun _ => this
  ·exact egoOf_keep fun e => absurd e he
theorem enc_repl {r : Rul} {t : Kin} {i : Nat} (hr : isRule r = true) (ht : isKin t = true) (hf : fitsB r t i = true) : enc (replT r t i).2 < enc t.2 := by
 obtain ⟨f1, f2, -, -, -⟩ := fits_facts hf
 obtain ⟨-, -, -, g4, g5, -⟩ := isRule_facts hr
 obtain ⟨hof, hot, -⟩ := rule_steps hr
 have hst : SOk t.2 := (isKin_facts ht).2.2.2
 have hp := drop_parts f1
 have hms := match_take f2
 unfold replT
 obtain ⟨F, hF⟩ : ∃ F, F = r.2.2.2.1 := ⟨_, rfl⟩
 obtain ⟨T, hT⟩ : ∃ T, T = r.2.2.2.2 := ⟨_, rfl⟩
 rw [← hF] at f1 g4 g5 hof hp hms
 rw [← hT] at g5 hot
 rw [← hF, ← hT]
 obtain ⟨A, hA⟩ : ∃ A, A = t.2.take i := ⟨_, rfl⟩
 obtain ⟨X, hX⟩ : ∃ X, X = (t.2.drop i).take F.length := ⟨_, rfl⟩
 obtain ⟨B, hB⟩ : ∃ B, B = t.2.drop (i + F.length) := ⟨_, rfl⟩
 have hxl : X.length = F.length := by rw [hX]; simp; omega
 rw [← hX] at hms
 rw [← hA, ← hX, ← hB] at hp
 rw [← hA, ← hB]
 rw [hp] at hst ⊢
 obtain ⟨sA, sXB⟩ := hst.app
 obtain ⟨sX, sB⟩ := sXB.app
 have hlt : T.length < F.length ∨ (T.length = F.length ∧ cmpS T F < 0) := by
  unfold beforeS at g5
  split at g5
  ·exact .inr ⟨by assumption, by simpa using g5⟩
  ·exact .inl (by simpa using g5)
 have hX1 := enc_match hof sX hxl.symm hms
 dsimp only
 rcases hlt with hlt | ⟨hl, hc⟩
 ·have h1 : SOk (A ++ T ++ B) := (sA.mk hot).mk sB
  have h2 : SOk (A ++ (X ++ B)) := sA.mk (sX.mk sB)
  have l1 := enc_lt h1
  have hne : A ++ (X ++ B) ≠ [] := by
   intro e
   have := congrArg List.length e
   simp only [List.length_append, List.length_nil] at this; omega
  have l2 := enc_ge h2 hne
  have l3 : 32 ^ (A ++ T ++ B).length ≤ 32 ^ ((A ++ (X ++ B)).length - 1) := Nat.pow_le_pow_right (by omega) (by simp only [List.length_append]; omega)
  exact Nat.lt_of_lt_of_le l1 (Nat.le_trans l3 l2)
 ·have h3 := enc_less hot hof hl hc
  rw [enc_app, enc_app A T, enc_app A, enc_app X B, List.length_append, Nat.pow_add, hl, hxl, Nat.add_mul, Nat.mul_assoc]
  have h4 : (enc T + 1) * 32 ^ B.length ≤ enc X * 32 ^ B.length := Nat.mul_le_mul_right _ (by omega)
  have h5 : 0 < 32 ^ B.length := Nat.pow_pos (by omega)
  rw [Nat.add_mul, Nat.one_mul] at h4
  omega
theorem placeOf_some {rs : List Rul} {t : Kin} {k i : Nat} (h : placeOf rs t = some (k, i)) : ∃ r, rs[k]? = some r ∧ i < t.2.length ∧ fitsB r t i = true := by
 unfold placeOf at h
 obtain ⟨j, hj, he⟩ := List.exists_of_findSome?_eq_some h
 rw [Option.map_eq_some_iff] at he
 obtain ⟨q, hq, he⟩ := he
 simp only [Prod.mk.injEq] at he
 obtain ⟨rfl, rfl⟩ := he
 unfold ruleAt at hq
 rw [List.findIdx?_eq_some_iff_getElem] at hq
 obtain ⟨hl, hfit, -⟩ := hq
 exact ⟨rs[q], List.getElem?_eq_getElem hl, by simpa using hj, hfit⟩
def allRules (rs : List Rul) : Prop := ∀ r ∈ rs, isRule r = true
theorem rewr_some {rs : List Rul} {t u : Kin} {k i : Nat} (hrs : allRules rs) (ht : isKin t = true) (h : rewr rs t = some (u, k, i)) : ∃ r, rs[k]? = some r ∧ i < t.2.length ∧ fitsB r t i = true ∧ u = replT r t i ∧ isKin u = true ∧ enc u.2 < enc t.2 := by
 unfold rewr at h
 rw [Option.bind_eq_some_iff] at h
 obtain ⟨⟨a, b⟩, hp, h⟩ := h
 rw [Option.map_eq_some_iff] at h
 obtain ⟨r, hr, h⟩ := h
 simp only [Prod.mk.injEq] at h
 obtain ⟨rfl, rfl, rfl⟩ := h
 obtain ⟨r', hr', h1, h2⟩ := placeOf_some hp
 dsimp only at hr
 obtain rfl : r = r' := Option.some.inj (hr.symm.trans hr')
 have hrule := hrs r (List.mem_of_getElem? hr)
 exact ⟨r, hr, h1, h2, rfl, (repl_ok hrule ht h2).1, enc_repl hrule ht h2⟩
theorem nfN_eq {rs : List Rul} (hrs : allRules rs) : ∀ {n m : Nat} {t : Kin}, isKin t = true → enc t.2 ≤ n → enc t.2 ≤ m → nfN n rs t = nfN m rs t
 | 0, 0, t, _, _, _ => rfl
 | 0, m + 1, t, ht, h, _ => by
   rw [nfN, nfN]
   cases hr : rewr rs t with
   | none => rfl
   | some p =>
     obtain ⟨u, k, i⟩ := p
     obtain ⟨r, -, -, -, -, -, he⟩ := rewr_some hrs ht hr
     omega
 | n + 1, 0, t, ht, _, h => by
   rw [nfN, nfN]
   cases hr : rewr rs t with
   | none => rfl
   | some p =>
     obtain ⟨u, k, i⟩ := p
     obtain ⟨r, -, -, -, -, -, he⟩ := rewr_some hrs ht hr
     omega
 | n + 1, m + 1, t, ht, h1, h2 => by
   rw [nfN, nfN]
   cases hr : rewr rs t with
   | none => rfl
   | some p =>
     obtain ⟨u, k, i⟩ := p
     obtain ⟨r, -, -, -, -, hu, he⟩ := rewr_some hrs ht hr
     exact nfN_eq hrs hu (by omega) (by omega)
theorem nf_none {rs : List Rul} {t : Kin} (h : rewr rs t = none) : nf rs t = t := by
 unfold nf
 cases enc t.2 with
 | zero => rfl
 | succ n => rw [nfN, h]
theorem nf_some {rs : List Rul} {t u : Kin} {k i : Nat} (hrs : allRules rs) (ht : isKin t = true) (h : rewr rs t = some (u, k, i)) : nf rs t = nf rs u := by
 obtain ⟨r, -, -, -, -, hu, he⟩ := rewr_some hrs ht h
 unfold nf
 obtain ⟨n, hn⟩ : ∃ n, enc t.2 = n + 1 := ⟨enc t.2 - 1, by omega⟩
 rw [hn, nfN, h]
 exact nfN_eq hrs hu (by omega) (Nat.le_refl _)
theorem nf_ok {rs : List Rul} (hrs : allRules rs) : ∀ (n : Nat) {t : Kin}, enc t.2 ≤ n → isKin t = true → isKin (nf rs t) = true ∧ rewr rs (nf rs t) = none := by
 intro n
 induction n with
 | zero =>
   intro t hn ht
   cases hr : rewr rs t with
   | none => rw [nf_none hr]; exact ⟨ht, hr⟩
   | some p =>
     obtain ⟨u, k, i⟩ := p
     obtain ⟨r, -, -, -, -, -, he⟩ := rewr_some hrs ht hr
     omega
 | succ n ih =>
   intro t hn ht
   cases hr : rewr rs t with
   | none => rw [nf_none hr]; exact ⟨ht, hr⟩
   | some p =>
     obtain ⟨u, k, i⟩ := p
     obtain ⟨r, -, -, -, -, hu, he⟩ := rewr_some hrs ht hr
     rw [nf_some hrs ht hr]
     exact ih (by omega) hu
theorem nf_kin {rs : List Rul} (hrs : allRules rs) {t : Kin} (ht : isKin t = true) : isKin (nf rs t) = true := (nf_ok hrs _ (Nat.le_refl _) ht).1
theorem areRules_facts {rs : List Rul} (h : areRules rs = true) : rs.length ≤ 12 ∧ allRules rs ∧ (rs.map (·.1)).Nodup := by
 unfold areRules at h
 simp only [Bool.and_eq_true, decide_eq_true_eq, List.all_eq_true] at h
 exact ⟨h.1, h.2.1, h.2.2⟩
end
section
theorem cmpS_step {a b : List Stp} {k : Nat} {x : Stp} (h : a[k]? = some x) (h' : b[k]? = some x) : cmpS (a.drop k) (b.drop k) = cmpS (a.drop (k + 1)) (b.drop (k + 1)) := by
 rw [drop_cons h, drop_cons h', cmpS, if_pos rfl, if_pos rfl]
theorem cmpS_kind {a b : List Stp} {k : Nat} {x y : Stp} (h : a[k]? = some x) (h' : b[k]? = some y) (hne : x.1 ≠ y.1) : cmpS (a.drop k) (b.drop k) = cmpI x.1 y.1 := by
 rw [drop_cons h, drop_cons h', cmpS, if_neg hne]
theorem cmpS_age {a b : List Stp} {k : Nat} {x y : Stp} (h : a[k]? = some x) (h' : b[k]? = some y) (he : x.1 = y.1) (hne : x.2 ≠ y.2) : cmpS (a.drop k) (b.drop k) = cmpI x.2 y.2 := by
 rw [drop_cons h, drop_cons h', cmpS, if_pos he, if_neg hne]
theorem cmpS_end {a b : List Stp} {k : Nat} (h1 : k ≤ a.length) (h2 : k ≤ b.length) (h : a.length ≤ k ∨ b.length ≤ k) : cmpS (a.drop k) (b.drop k) = cmpI a.length b.length := by
 rcases Nat.lt_or_ge k a.length with ha | ha
 ·have hb : b.length = k := by omega
  rw [List.drop_eq_getElem_cons ha, List.drop_eq_nil_of_le (show b.length ≤ k by omega), cmpS, cmpI, if_neg (by omega), if_pos (by omega)]
 ·rcases Nat.lt_or_ge k b.length with hb | hb
  ·rw [List.drop_eq_nil_of_le ha, List.drop_eq_getElem_cons hb, cmpS, cmpI, if_pos (by omega)]
  ·rw [List.drop_eq_nil_of_le ha, List.drop_eq_nil_of_le hb, cmpS, cmpI, if_neg (by omega), if_neg (by omega)]
theorem neqStep (w : World) (a b c d : Int) : (binOp .neq 106 (.agg #[.int .i64 a, .int .i64 b]) (.agg #[.int .i64 c, .int .i64 d])).run Tryz.prog w = .ok (.bool (!(decide (a = c) && decide (b = d)))) w := by
 have h1 : Tryz.prog.underlying 106 = some (.struct (Tryz.prog.fieldsOf 106)) := by kernel_rfl
 have h2 : Tryz.prog.stoodInHeld 106 = false := by kernel_rfl
 rw [run_neq_struct, run_equalIn_agg _ _ _ _ _ h1 h2]
 simp only [Program.fieldsOf, Tryz.underlying106]
 by_cases e1 : a = c
 ·by_cases e2 : b = d
  ·subst e1 e2; simp [go_sem, Op.eqFields]
  ·subst e1; simp [go_sem, Op.eqFields, e2]
 ·simp [go_sem, Op.eqFields, e1]
theorem compareInts_any (w : World) (a b R : Int) (hR : R = cmpI a b) : Calls Tryz.prog 123 #[.int .i64 a, .int .i64 b] w (PostI w R) := by
 unfold cmpI at hR
 have HR := Lib.hid hR
 clear hR
 by_cases h1 : a < b
 ·have HF := Lib.hid (show R = -1 by rw [HR.out, if_pos h1])
  clear HR
  go_enter Tryz.func123, Tryz.ntmps123
  go_wp2
  go_ret
  exact ⟨ret_int HF.out.symm, Below.refl _ _⟩
 ·by_cases h2 : b < a
  ·have HF := Lib.hid (show R = 1 by rw [HR.out, if_neg h1, if_pos h2])
   clear HR
   go_enter Tryz.func123, Tryz.ntmps123
   go_wp2
   go_ret
   exact ⟨ret_int HF.out.symm, Below.refl _ _⟩
  ·have HF := Lib.hid (show R = 0 by rw [HR.out, if_neg h1, if_neg h2])
   clear HR
   go_enter Tryz.func123, Tryz.ntmps123
   go_wp2
   go_ret
   exact ⟨ret_int HF.out.symm, Below.refl _ _⟩
set_option maxRecDepth 20000 in
set_option maxHeartbeats 4000000 in
theorem compareSteps_any {z z' : Bool} {lo hi lo' hi' : Nat} (w : World) (u v : Value) (xs ys : List Stp) (h : Rd z lo hi w [u] xs) (h' : Rd z' lo' hi' w [v] ys) (R : Int) (hR : R = cmpS xs ys) :
  Calls Tryz.prog 107 #[u, v] w (PostI w R) := by
 obtain ⟨ao, n, cap, rfl, rfl, hnc, hcm, hnone⟩ := h.shape
 obtain ⟨ao', n', cap', rfl, rfl, hnc', hcm', hnone'⟩ := h'.shape
 unfold maxLen at *
 have HR := Lib.hid hR
 clear hR hnone hnone'
 go_enter Tryz.func107, Tryz.ntmps107
 go_wp2
 go_loopw [5] (fun i wr => ∃ k : Nat, k ≤ xs.length ∧ k ≤ ys.length ∧ i = .int .i64 k ∧ Hid (R = cmpS (xs.drop k) (ys.drop k)) ∧ Below w.heap.size w wr) (fun i _ => xs.length - (intOf i).toNat)
 case atStart => exact ⟨0, Nat.zero_le _, Nat.zero_le _, rfl, Lib.hid (by simpa using HR.out), Below.refl _ _⟩
 case round =>
  clear HR
  obtain ⟨we, hwe⟩ : ∃ wm : World, wm = wr := ⟨_, rfl⟩
  subst hwe
  obtain ⟨k, hk, hk', rfl, ht, hb⟩ := hrel
  have sW := hb.size
  by_cases hlt : k < xs.length
  ·by_cases hlt' : k < ys.length
   ·obtain ⟨b, off, ki, ag, rfl, hx, c0, c1, -, -, -, -, bl1, -⟩ := (h.below hb).stp_at hlt
    obtain ⟨b2, off2, ki2, ag2, rfl, hy, d0, d1, -, -, -, -, bl2, -⟩ := (h'.below hb).stp_at hlt'
    have hI : (k : Int) < (xs.length : Int) := by omega
    have hI' : (k : Int) < (ys.length : Int) := by omega
    clear h h'
    by_cases h1 : ki = ki2
    ·subst h1
     have e1 : (ki != ki) = false := by simp
     by_cases h2 : ag = ag2
     ·subst h2
      have e2 : (ag != ag) = false := by simp
      have HT : Hid (R = cmpS (xs.drop (k + 1)) (ys.drop (k + 1))) := Lib.hid (by rw [ht.out, cmpS_step hx.out hy.out])
      clear ht hx hy
      go_wp2_with fail
      go_quiet (fail)
      go_wp2_with fail
      go_quiet (fail)
      go_wp2
      go_roundw
      case rel => exact ⟨k + 1, by omega, by omega, by go_num, HT, bwT⟩
      case measure => simp [intOf]; omega
     ·have e2 : (ag != ag2) = true := by simpa using h2
      have HF := Lib.hid (show R = cmpI ag ag2 by rw [ht.out, cmpS_age hx.out hy.out rfl h2])
      clear ht hx hy h2
      go_wp2_with fail
      go_quiet (fail)
      go_wp2_with fail
      go_quiet (fail)
      go_upto_region 7 with fail
      go_region_held3 (fun w' => w'.cell? ⟨b, off + k * 2 + 1, none⟩ = some (.int .i64 ag) ∧ w'.cell? ⟨b2, off2 + k * 2 + 1, none⟩ = some (.int .i64 ag2)) (go_keep) (first | (go_at_call 123; refine (compareInts_any _ ag ag2 R HF.out).mono ?_; rintro e w1 ⟨rfl, hb1⟩; have hp1 : Below we.heap.size we w1 := Below.trans (show Below we.heap.size we _ from bwT) (hb1.mono (by simp)); have hB1 : Below w.heap.size w w1 := Below.after hb hp1 sW; have c0 := oldc hp1 bl1 c0; have c1 := oldc hp1 bl1 c1; have d0 := oldc hp1 bl2 d0; have d1 := oldc hp1 bl2 d1; clear hb1 hp1))
      go_wp2
      go_ret
      exact ⟨rfl, hB1⟩
    ·have e1 : (ki != ki2) = true := by simpa using h1
     have HF := Lib.hid (show R = cmpI ki ki2 by rw [ht.out, cmpS_kind hx.out hy.out h1])
     clear ht hx hy h1
     go_wp2_with fail
     go_quiet (fail)
     go_upto_region 5 with fail
     go_region_held3 (fun w' => w'.cell? ⟨b, off + k * 2, none⟩ = some (.int .i64 ki) ∧ w'.cell? ⟨b2, off2 + k * 2, none⟩ = some (.int .i64 ki2)) (go_keep) (first | (go_at_call 123; refine (compareInts_any _ ki ki2 R HF.out).mono ?_; rintro e w1 ⟨rfl, hb1⟩; have hp1 : Below we.heap.size we w1 := Below.trans (show Below we.heap.size we _ from bwT) (hb1.mono (by simp)); have hB1 : Below w.heap.size w w1 := Below.after hb hp1 sW; have c0 := oldc hp1 bl1 c0; have c1 := oldc hp1 bl1 c1; have d0 := oldc hp1 bl2 d0; have d1 := oldc hp1 bl2 d1; clear hb1 hp1))
     go_wp2
     go_ret
     exact ⟨rfl, hB1⟩
   ·have HF := Lib.hid (show R = cmpI xs.length ys.length by rw [ht.out, cmpS_end hk hk' (by omega)])
    have hI : (k : Int) < (xs.length : Int) := by omega
    have hI' : ¬ (k : Int) < (ys.length : Int) := by omega
    clear h h' ht
    go_wp2_with fail
    refine (compareInts_any _ _ _ R HF.out).mono ?_
    rintro e w1 ⟨rfl, hb1⟩
    have hB1 : Below w.heap.size w w1 := Below.after hb hb1 sW
    go_wp2
    go_ret
    exact ⟨rfl, hB1⟩
  ·have HF := Lib.hid (show R = cmpI xs.length ys.length by rw [ht.out, cmpS_end hk hk' (by omega)])
   have hI : ¬ (k : Int) < (xs.length : Int) := by omega
   clear h h' ht
   go_wp2_with fail
   refine (compareInts_any _ _ _ R HF.out).mono ?_
   rintro e w1 ⟨rfl, hb1⟩
   have hB1 : Below w.heap.size w w1 := Below.after hb hb1 sW
   go_wp2
   go_ret
   exact ⟨rfl, hB1⟩
set_option maxRecDepth 20000 in
set_option maxHeartbeats 4000000 in
theorem l4Before_b {z z' : Bool} {lo hi lo' hi' : Nat} (w : World) (u v : Value) (xs ys : List Stp) (h : Rd z lo hi w [u] xs) (h' : Rd z' lo' hi' w [v] ys) (r : Bool) (hr : r = beforeS xs ys) :
  Calls Tryz.prog 97 #[u, v] w (PostB w r) := by
 obtain ⟨ao, n, cap, rfl, rfl, hnc, hcm, hnone⟩ := h.shape
 obtain ⟨ao', n', cap', rfl, rfl, hnc', hcm', hnone'⟩ := h'.shape
 unfold maxLen at *
 unfold beforeS at hr
 have HR := Lib.hid hr
 clear hr hnone hnone'
 by_cases hl : xs.length = ys.length
 rotate_left
 ·have HF := Lib.hid (show r = decide (xs.length < ys.length) by rw [HR.out, if_neg hl])
  have hbne : (((xs.length : Int)) != (ys.length : Int)) = true := by simp; omega
  clear hl h h' HR
  go_enter Tryz.func97, Tryz.ntmps97
  go_wp2
  go_ret
  exact ⟨ret_bool (by rw [HF.out]; try simp), Below.refl _ _⟩
 have HR2 := Lib.hid (show r = decide (cmpS xs ys < 0) by rw [HR.out, if_pos hl])
 have hbne : (((xs.length : Int)) != (ys.length : Int)) = false := by simp [hl]
 have hl1 : ¬ xs.length < ys.length := by omega
 have hl2 : ¬ ys.length < xs.length := by omega
 clear hl HR
 go_enter Tryz.func97, Tryz.ntmps97
 go_wp2
 go_loopw [5, 18] (fun _ i wr => ∃ k : Nat, k ≤ xs.length ∧ i = .int .i64 k ∧ Hid (r = decide (cmpS (xs.drop k) (ys.drop k) < 0)) ∧ Below w.heap.size w wr) (fun _ i _ => xs.length - (intOf i).toNat)
 case atStart => exact ⟨0, Nat.zero_le _, rfl, Lib.hid (by simpa using HR2.out), Below.refl _ _⟩
 case round =>
  clear HR2
  obtain ⟨k, hk, rfl, ht, hb⟩ := hrel
  have sW := hb.size
  by_cases hlt : k < xs.length
  ·have hlt' : k < ys.length := by omega
   obtain ⟨b, off, ki, ag, rfl, hx, c0, c1, -, -, -, -, bl1, -⟩ := (h.below hb).stp_at hlt
   obtain ⟨b2, off2, ki2, ag2, rfl, hy, d0, d1, -, -, -, -, bl2, -⟩ := (h'.below hb).stp_at hlt'
   have hI : (k : Int) < (xs.length : Int) := by omega
   have hI' : (k : Int) < (ys.length : Int) := by omega
   clear h h'
   by_cases h1 : ki = ki2
   ·subst h1
    have e1 : (ki != ki) = false := by simp
    by_cases h2 : ag = ag2
    ·subst h2
     have e2 : (ag != ag) = false := by simp
     have HT : Hid (r = decide (cmpS (xs.drop (k + 1)) (ys.drop (k + 1)) < 0)) := Lib.hid (by rw [ht.out, cmpS_step hx.out hy.out])
     clear ht hx hy
     go_wp2_with fail
     go_quiet (fail)
     go_wp2_with fail
     go_quiet (fail)
     go_wp2
     go_roundw
     case rel => exact ⟨k + 1, by omega, by go_num, HT, bwT⟩
     case measure => simp [intOf]; omega
    ·have e2 : (ag != ag2) = true := by simpa using h2
     have HF := Lib.hid (show r = decide (ag < ag2) by rw [ht.out, cmpS_age hx.out hy.out rfl h2]; exact decide_eq_decide.2 cmpI_neg)
     clear ht hx hy h2
     go_wp2_with fail
     go_quiet (fail)
     go_wp2_with fail
     go_quiet (fail)
     go_wp2_with fail
     go_quiet (fail)
     go_wp2
     go_ret
     exact ⟨ret_bool HF.out.symm, bwT⟩
   ·have e1 : (ki != ki2) = true := by simpa using h1
    have HF := Lib.hid (show r = decide (ki < ki2) by rw [ht.out, cmpS_kind hx.out hy.out h1]; exact decide_eq_decide.2 cmpI_neg)
    clear ht hx hy h1
    go_wp2_with fail
    go_quiet (fail)
    go_wp2_with fail
    go_quiet (fail)
    go_wp2
    go_ret
    exact ⟨ret_bool HF.out.symm, bwT⟩
  ·have HF := Lib.hid (show r = false by rw [ht.out, cmpS_end hk (by omega) (by omega)]; simp [cmpI]; omega)
   have hI : ¬ (k : Int) < (xs.length : Int) := by omega
   clear h h' ht
   go_wp2
   go_ret
   exact ⟨ret_bool HF.out.symm, bwT⟩
-- TWINS
set_option maxRecDepth 20000 in
set_option maxHeartbeats 4000000 in
theorem sameStepsI_b {z z' : Bool} {lo hi lo' hi' : Nat} (w : World) (u v : Value) (xs ys : List Stp) (h : Rd z lo hi w [u] xs) (h' : Rd z' lo' hi' w [v] ys) (r : Bool) (hr : r = decide (xs = ys)) :
  Calls Tryz.prog 90 #[u, v] w (PostB w r) := by
 subst hr
 obtain ⟨ao, n, cap, rfl, rfl, hnc, hcm, hnone⟩ := h.shape
 obtain ⟨ao', n', cap', rfl, rfl, hnc', hcm', hnone'⟩ := h'.shape
 unfold maxLen at *
 clear hnone hnone'
 by_cases hl : xs.length = ys.length
 ·have HL := Lib.hid hl
  have hl1 : ¬ xs.length < ys.length := by omega
  have hl2 : ¬ ys.length < xs.length := by omega
  have hbne : (((xs.length : Int)) != (ys.length : Int)) = false := by simp [hl]
  clear hl
  go_enter Tryz.func90, Tryz.ntmps90
  go_wp2
  go_loopw [5, 13] (fun _ i wr => ∃ k : Nat, k ≤ xs.length ∧ i = .int .i64 k ∧ Hid (xs.take k = ys.take k) ∧ Below w.heap.size w wr) (fun _ i _ => xs.length - (intOf i).toNat)
  case atStart => exact ⟨0, Nat.zero_le _, rfl, rfl, Below.refl _ _⟩
  case round =>
   obtain ⟨k, hk, rfl, ht, hb⟩ := hrel
   have sW := hb.size
   by_cases hlt : k < xs.length
   ·have hlt' : k < ys.length := by omega
    obtain ⟨b, off, ki, ag, rfl, hx, c0, c1, -, -, -, -, bl1, -⟩ := (h.below hb).stp_at hlt
    obtain ⟨b2, off2, ki2, ag2, rfl, hy, d0, d1, -, -, -, -, bl2, -⟩ := (h'.below hb).stp_at hlt'
    have hI : (k : Int) < (xs.length : Int) := by omega
    have hI' : (k : Int) < (ys.length : Int) := by omega
    clear h h'
    by_cases h1 : ((ki, ag) : Stp) = (ki2, ag2)
    ·have HT := Lib.hid (show xs.take (k + 1) = ys.take (k + 1) by rw [take_snoc hx.out, take_snoc hy.out, ht.out, h1])
     simp only [Prod.mk.injEq] at h1
     obtain ⟨rfl, rfl⟩ := h1
     have hq : ∀ w : World, (binOp .neq 106 (.agg #[.int .i64 ki, .int .i64 ag]) (.agg #[.int .i64 ki, .int .i64 ag])).run Tryz.prog w = .ok (.bool false) w := fun w => by rw [neqStep]; simp
     have hgt : Tryz.prog.eqGuardType Tryz.prog.depth 106 = false := by kernel_rfl
     clear ht hx hy
     go_wp2_with fail
     go_quiet (fail)
     go_wp2
     go_roundw
     case rel => exact ⟨k + 1, by omega, by go_num, HT, bwT⟩
     case measure => simp [intOf]; omega
    ·have HF := Lib.hid (show decide (xs = ys) = false by
      rw [decide_eq_false_iff_not]
      intro e3; subst e3
      exact h1 (Option.some.inj (hx.out.symm.trans hy.out)))
     simp only [Prod.mk.injEq] at h1
     have hq : ∀ w : World, (binOp .neq 106 (.agg #[.int .i64 ki, .int .i64 ag]) (.agg #[.int .i64 ki2, .int .i64 ag2])).run Tryz.prog w = .ok (.bool true) w := fun w => by rw [neqStep, ← Bool.decide_and, decide_eq_false h1]; rfl
     have hgt : Tryz.prog.eqGuardType Tryz.prog.depth 106 = false := by kernel_rfl
     clear ht hx hy h1
     go_wp2_with fail
     go_quiet (fail)
     go_wp2
     go_ret
     exact ⟨ret_bool HF.out.symm, bwT⟩
   ·have HF : Hid (decide (xs = ys) = true) := by
     have e := ht.out
     rw [List.take_of_length_le (by omega), List.take_of_length_le (by omega)] at e
     exact decide_eq_true e
    clear h h' ht
    go_wp2
    go_ret
    exact ⟨ret_bool HF.out.symm, hb⟩
 ·have HF : Hid (decide (xs = ys) = false) := by
   simp only [decide_eq_false_iff_not]
   intro e; subst e; exact hl rfl
  have hbne : (((xs.length : Int)) != (ys.length : Int)) = true := by simp; omega
  clear hl h h'
  go_enter Tryz.func90, Tryz.ntmps90
  go_wp2
  go_ret
  exact ⟨ret_bool HF.out.symm, Below.refl _ _⟩
set_option maxRecDepth 20000 in
set_option maxHeartbeats 4000000 in
theorem eqTypesI_b {z z' : Bool} {lo hi lo' hi' : Nat} (w : World) (u1 u2 v1 v2 : Value) (x y : Kin) (h : Rd z lo hi w [u1, u2] x) (h' : Rd z' lo' hi' w [v1, v2] y) (r : Bool) (hr : r = decide (x = y)) :
  Calls Tryz.prog 68 #[.agg #[u1, u2], .agg #[v1, v2]] w (PostB w r) := by
 obtain ⟨rfl, -, hx2⟩ := h.kin
 obtain ⟨rfl, -, hy2⟩ := h'.kin
 obtain ⟨x1, x2⟩ := x
 obtain ⟨y1, y2⟩ := y
 obtain ⟨r1, hlet_r1⟩ : ∃ r, r = decide (x1 = y1) := ⟨_, rfl⟩
 have H1 := Lib.hid hlet_r1
 clear hlet_r1
 obtain ⟨r2, hlet_r2⟩ : ∃ r, r = decide (x2 = y2) := ⟨_, rfl⟩
 have H2 := Lib.hid hlet_r2
 clear hlet_r2
 have HR := Lib.hid (show r = (r1 && r2) by rw [hr, H1.out, H2.out]; simp [Prod.mk.injEq])
 clear hr h h'
 dsimp only at hx2 hy2
 cases r1
 ·have q : (x1 == y1) = false := by have := H1.out; simp at this ⊢; exact this
  clear hx2 hy2
  go_enter Tryz.func68, Tryz.ntmps68
  go_wp2
  go_ret
  exact ⟨ret_bool (by rw [HR.out]; rfl), bwT⟩
 ·have q : (x1 == y1) = true := by have := H1.out; simp at this ⊢; exact this
  go_enter Tryz.func68, Tryz.ntmps68
  go_wp2_with fail
  refine (sameStepsI_b _ _ _ x2 y2 (hx2.below bwT) (hy2.below bwT) _ H2.out).mono ?_
  rintro e1 w1 ⟨rfl, hbw1⟩
  have hpw1 : Below w.heap.size w w1 := Below.after bwT hbw1 szT
  have sw1 := hpw1.size
  have hBw1 : Below w.heap.size w w1 := hpw1
  have l_a : w.heap.size < w1.heap.size := by have := hbw1.size; simp at this; omega
  have q_a0 : w1.cell? ⟨w.heap.size, 0, none⟩ = some (.int .i64 x1) := oldc hbw1 ltT (by simp [go_sem])
  have q_a1 : w1.cell? ⟨w.heap.size, 1, none⟩ = some (u2) := oldc hbw1 ltT (by simp [go_sem])
  have l_b : w.heap.size + 1 < w1.heap.size := by have := hbw1.size; simp at this; omega
  have q_b0 : w1.cell? ⟨w.heap.size + 1, 0, none⟩ = some (.int .i64 y1) := oldc hbw1 ltT (by simp [go_sem])
  have q_b1 : w1.cell? ⟨w.heap.size + 1, 1, none⟩ = some (v2) := oldc hbw1 ltT (by simp [go_sem])
  clear hbw1 hpw1
  go_wp2
  go_ret
  exact ⟨ret_bool (by rw [HR.out]; rfl), hBw1⟩
set_option maxRecDepth 20000 in
set_option maxHeartbeats 4000000 in
theorem sameStepsS_b {z z' : Bool} {lo hi lo' hi' : Nat} (w : World) (u v : Value) (xs ys : List Stp) (h : Rd z lo hi w [u] xs) (h' : Rd z' lo' hi' w [v] ys) (r : Bool) (hr : r = decide (xs = ys)) :
  Calls Tryz.prog 99 #[u, v] w (PostB w r) := by
 subst hr
 obtain ⟨ao, n, cap, rfl, rfl, hnc, hcm, hnone⟩ := h.shape
 obtain ⟨ao', n', cap', rfl, rfl, hnc', hcm', hnone'⟩ := h'.shape
 unfold maxLen at *
 clear hnone hnone'
 by_cases hl : xs.length = ys.length
 ·have HL := Lib.hid hl
  have hl1 : ¬ xs.length < ys.length := by omega
  have hl2 : ¬ ys.length < xs.length := by omega
  have hbne : (((xs.length : Int)) != (ys.length : Int)) = false := by simp [hl]
  clear hl
  go_enter Tryz.func99, Tryz.ntmps99
  go_wp2
  go_loopw [5, 13] (fun _ i wr => ∃ k : Nat, k ≤ xs.length ∧ i = .int .i64 k ∧ Hid (xs.take k = ys.take k) ∧ Below w.heap.size w wr) (fun _ i _ => xs.length - (intOf i).toNat)
  case atStart => exact ⟨0, Nat.zero_le _, rfl, rfl, Below.refl _ _⟩
  case round =>
   obtain ⟨k, hk, rfl, ht, hb⟩ := hrel
   have sW := hb.size
   by_cases hlt : k < xs.length
   ·have hlt' : k < ys.length := by omega
    obtain ⟨b, off, ki, ag, rfl, hx, c0, c1, -, -, -, -, bl1, -⟩ := (h.below hb).stp_at hlt
    obtain ⟨b2, off2, ki2, ag2, rfl, hy, d0, d1, -, -, -, -, bl2, -⟩ := (h'.below hb).stp_at hlt'
    have hI : (k : Int) < (xs.length : Int) := by omega
    have hI' : (k : Int) < (ys.length : Int) := by omega
    clear h h'
    by_cases h1 : ((ki, ag) : Stp) = (ki2, ag2)
    ·have HT := Lib.hid (show xs.take (k + 1) = ys.take (k + 1) by rw [take_snoc hx.out, take_snoc hy.out, ht.out, h1])
     simp only [Prod.mk.injEq] at h1
     obtain ⟨rfl, rfl⟩ := h1
     have hq : ∀ w : World, (binOp .neq 106 (.agg #[.int .i64 ki, .int .i64 ag]) (.agg #[.int .i64 ki, .int .i64 ag])).run Tryz.prog w = .ok (.bool false) w := fun w => by rw [neqStep]; simp
     have hgt : Tryz.prog.eqGuardType Tryz.prog.depth 106 = false := by kernel_rfl
     clear ht hx hy
     go_wp2_with fail
     go_quiet (fail)
     go_wp2
     go_roundw
     case rel => exact ⟨k + 1, by omega, by go_num, HT, bwT⟩
     case measure => simp [intOf]; omega
    ·have HF := Lib.hid (show decide (xs = ys) = false by
      rw [decide_eq_false_iff_not]
      intro e3; subst e3
      exact h1 (Option.some.inj (hx.out.symm.trans hy.out)))
     simp only [Prod.mk.injEq] at h1
     have hq : ∀ w : World, (binOp .neq 106 (.agg #[.int .i64 ki, .int .i64 ag]) (.agg #[.int .i64 ki2, .int .i64 ag2])).run Tryz.prog w = .ok (.bool true) w := fun w => by rw [neqStep, ← Bool.decide_and, decide_eq_false h1]; rfl
     have hgt : Tryz.prog.eqGuardType Tryz.prog.depth 106 = false := by kernel_rfl
     clear ht hx hy h1
     go_wp2_with fail
     go_quiet (fail)
     go_wp2
     go_ret
     exact ⟨ret_bool HF.out.symm, bwT⟩
   ·have HF : Hid (decide (xs = ys) = true) := by
     have e := ht.out
     rw [List.take_of_length_le (by omega), List.take_of_length_le (by omega)] at e
     exact decide_eq_true e
    clear h h' ht
    go_wp2
    go_ret
    exact ⟨ret_bool HF.out.symm, hb⟩
 ·have HF : Hid (decide (xs = ys) = false) := by
   simp only [decide_eq_false_iff_not]
   intro e; subst e; exact hl rfl
  have hbne : (((xs.length : Int)) != (ys.length : Int)) = true := by simp; omega
  clear hl h h'
  go_enter Tryz.func99, Tryz.ntmps99
  go_wp2
  go_ret
  exact ⟨ret_bool HF.out.symm, Below.refl _ _⟩
set_option maxRecDepth 20000 in
set_option maxHeartbeats 4000000 in
theorem eqTypesS_b {z z' : Bool} {lo hi lo' hi' : Nat} (w : World) (u1 u2 v1 v2 : Value) (x y : Kin) (h : Rd z lo hi w [u1, u2] x) (h' : Rd z' lo' hi' w [v1, v2] y) (r : Bool) (hr : r = decide (x = y)) :
  Calls Tryz.prog 57 #[.agg #[u1, u2], .agg #[v1, v2]] w (PostB w r) := by
 obtain ⟨rfl, -, hx2⟩ := h.kin
 obtain ⟨rfl, -, hy2⟩ := h'.kin
 obtain ⟨x1, x2⟩ := x
 obtain ⟨y1, y2⟩ := y
 obtain ⟨r1, hlet_r1⟩ : ∃ r, r = decide (x1 = y1) := ⟨_, rfl⟩
 have H1 := Lib.hid hlet_r1
 clear hlet_r1
 obtain ⟨r2, hlet_r2⟩ : ∃ r, r = decide (x2 = y2) := ⟨_, rfl⟩
 have H2 := Lib.hid hlet_r2
 clear hlet_r2
 have HR := Lib.hid (show r = (r1 && r2) by rw [hr, H1.out, H2.out]; simp [Prod.mk.injEq])
 clear hr h h'
 dsimp only at hx2 hy2
 cases r1
 ·have q : (x1 == y1) = false := by have := H1.out; simp at this ⊢; exact this
  clear hx2 hy2
  go_enter Tryz.func57, Tryz.ntmps57
  go_wp2
  go_ret
  exact ⟨ret_bool (by rw [HR.out]; rfl), bwT⟩
 ·have q : (x1 == y1) = true := by have := H1.out; simp at this ⊢; exact this
  go_enter Tryz.func57, Tryz.ntmps57
  go_wp2_with fail
  refine (sameStepsS_b _ _ _ x2 y2 (hx2.below bwT) (hy2.below bwT) _ H2.out).mono ?_
  rintro e2 w2 ⟨rfl, hbw2⟩
  have hpw2 : Below w.heap.size w w2 := Below.after bwT hbw2 szT
  have sw2 := hpw2.size
  have hBw2 : Below w.heap.size w w2 := hpw2
  have l_a : w.heap.size < w2.heap.size := by have := hbw2.size; simp at this; omega
  have q_a0 : w2.cell? ⟨w.heap.size, 0, none⟩ = some (.int .i64 x1) := oldc hbw2 ltT (by simp [go_sem])
  have q_a1 : w2.cell? ⟨w.heap.size, 1, none⟩ = some (u2) := oldc hbw2 ltT (by simp [go_sem])
  have l_b : w.heap.size + 1 < w2.heap.size := by have := hbw2.size; simp at this; omega
  have q_b0 : w2.cell? ⟨w.heap.size + 1, 0, none⟩ = some (.int .i64 y1) := oldc hbw2 ltT (by simp [go_sem])
  have q_b1 : w2.cell? ⟨w.heap.size + 1, 1, none⟩ = some (v2) := oldc hbw2 ltT (by simp [go_sem])
  clear hbw2 hpw2
  go_wp2
  go_ret
  exact ⟨ret_bool (by rw [HR.out]; rfl), hBw2⟩
end
section
theorem slRule : SlTy Tryz.prog 22 50 (.agg #[.string ByteArray.empty, .int .i64 0, .int .i64 0, .slice none 0 0, .slice none 0 0]) 5 80 := SlTy.of Tryz.underlying22 (by kernel_rfl) rfl
theorem dRul_inv {z : Bool} {w : World} {cs : List Value} {nm : ByteArray} {sx : Int} {pl : Int} {fr : List Stp} {tw : List Stp} {fp : List Nat} (h : Rep.rep z w cs ((nm, sx, pl, fr, tw) : Rul) fp) : ∃ (vfr vtw : Value) (ffr ftw : List Nat), cs = [.string nm, .int .i64 sx, .int .i64 pl, vfr, vtw] ∧ nm.size ≤ maxLen ∧ I64 sx ∧ I64 pl ∧ Rep.rep z w [vfr] fr ffr ∧ Rep.rep z w [vtw] tw ftw ∧ ffr ++ ftw = fp := by
 obtain ⟨_, _, _, _, rfl, rfl, ⟨rfl, hnm, rfl⟩, ⟨_, _, _, _, rfl, rfl, ⟨rfl, hsx, rfl⟩, ⟨_, _, _, _, rfl, rfl, ⟨rfl, hpl, rfl⟩, ⟨_, _, _, _, rfl, rfl, hfr, htw⟩⟩⟩⟩ := h
 have gfr := hfr
 obtain ⟨vfr, rfl, -⟩ := gfr
 have gtw := htw
 obtain ⟨vtw, rfl, -⟩ := gtw
 exact ⟨vfr, vtw, _, _, rfl, hnm, hsx, hpl, hfr, htw, by simp⟩
theorem dRul_mk {z : Bool} {w : World} {nm : ByteArray} {sx : Int} {pl : Int} {fr : List Stp} {tw : List Stp} {vfr vtw : Value} {ffr ftw : List Nat} (hnm : nm.size ≤ maxLen) (hsx : I64 sx) (hpl : I64 pl) (hfr : Rep.rep z w [vfr] fr ffr) (htw : Rep.rep z w [vtw] tw ftw) : Rep.rep z w [.string nm, .int .i64 sx, .int .i64 pl, vfr, vtw] ((nm, sx, pl, fr, tw) : Rul) (ffr ++ ftw) :=
 ⟨[.string nm], [.int .i64 sx, .int .i64 pl, vfr, vtw], [], (ffr ++ ftw), rfl, by simp, ⟨rfl, hnm, rfl⟩, ⟨[.int .i64 sx], [.int .i64 pl, vfr, vtw], [], (ffr ++ ftw), rfl, by simp, ⟨rfl, hsx, rfl⟩, ⟨[.int .i64 pl], [vfr, vtw], [], (ffr ++ ftw), rfl, by simp, ⟨rfl, hpl, rfl⟩, ⟨[vfr], [vtw], (ffr), (ftw), rfl, by simp, hfr, htw⟩⟩⟩⟩
theorem Rd.dRul {z : Bool} {lo hi : Nat} {w : World} {cs : List Value} {nm : ByteArray} {sx : Int} {pl : Int} {fr : List Stp} {tw : List Stp} (h : Rd z lo hi w cs ((nm, sx, pl, fr, tw) : Rul)) : ∃ (vfr vtw : Value), cs = [.string nm, .int .i64 sx, .int .i64 pl, vfr, vtw] ∧ nm.size ≤ maxLen ∧ I64 sx ∧ I64 pl ∧ Rd z lo hi w [vfr] fr ∧ Rd z lo hi w [vtw] tw := by
 obtain ⟨fp, hr, hz⟩ := h
 obtain ⟨vfr, vtw, ffr, ftw, rfl, hnm, hsx, hpl, hfr, htw, rfl⟩ := dRul_inv hr
 exact ⟨vfr, vtw, rfl, hnm, hsx, hpl, ⟨ffr, hfr, fun b hb => hz b (by simp [hb])⟩, ⟨ftw, htw, fun b hb => hz b (by simp [hb])⟩⟩
theorem Rd.dRul_at {z : Bool} {lo hi : Nat} {w : World} {xs : List Rul} {ao : Option Addr} {n cap : Nat} (h : Rd z lo hi w [.slice ao n cap] xs) {i : Nat} (hi' : i < n) :
  ∃ (b off : Nat) (nm : ByteArray) (sx : Int) (pl : Int) (fr : List Stp) (tw : List Stp) (vfr vtw : Value), ao = some ⟨b, off, none⟩ ∧ Hid (xs[i]? = some (nm, sx, pl, fr, tw)) ∧ w.cell? ⟨b, off + i * 5, none⟩ = some (.string nm) ∧ w.cell? ⟨b, off + i * 5 + 1, none⟩ = some (.int .i64 sx) ∧ w.cell? ⟨b, off + i * 5 + 2, none⟩ = some (.int .i64 pl) ∧ w.cell? ⟨b, off + i * 5 + 3, none⟩ = some (vfr) ∧ w.cell? ⟨b, off + i * 5 + 4, none⟩ = some (vtw) ∧ nm.size ≤ maxLen ∧ I64 sx ∧ I64 pl ∧ Rd z lo hi w [vfr] fr ∧ Rd z lo hi w [vtw] tw ∧ Rd z lo hi w [.string nm, .int .i64 sx, .int .i64 pl, vfr, vtw] ((nm, sx, pl, fr, tw) : Rul) ∧ lo ≤ b ∧ b < hi ∧ b < w.heap.size := by
 obtain ⟨b, off, ⟨nm, sx, pl, fr, tw⟩, cs, e, hx, hr, _, g1, g2, g3, hc, hf⟩ := h.at hi'
 have hr0 := hr
 obtain ⟨vfr, vtw, rfl, hnm, hsx, hpl, hfr, htw⟩ := Rd.dRul hr
 refine ⟨b, off, nm, sx, pl, fr, tw, vfr, vtw, e, hx, ?_, ?_, ?_, ?_, ?_, hnm, hsx, hpl, hfr, htw, hr0, g1, g2, g3⟩
 ·have := hc 0 (.string nm) rfl; simpa [Rep.sz, Nat.add_assoc] using this
 ·have := hc 1 (.int .i64 sx) rfl; simpa [Rep.sz, Nat.add_assoc] using this
 ·have := hc 2 (.int .i64 pl) rfl; simpa [Rep.sz, Nat.add_assoc] using this
 ·have := hc 3 (vfr) rfl; simpa [Rep.sz, Nat.add_assoc] using this
 ·have := hc 4 (vtw) rfl; simpa [Rep.sz, Nat.add_assoc] using this
theorem dRul_zero (w : World) : Rep.rep true w (Value.agg #[.string ByteArray.empty, .int .i64 0, .int .i64 0, .slice none 0 0, .slice none 0 0]).cells.toList ((ByteArray.empty, 0, 0, [], []) : Rul) [] := by
 have hz : Rep.rep true w [.slice none 0 0] ([] : List Stp) [] := ⟨_, rfl, none, 0, 0, rfl, rfl, Nat.le_refl _, by simp [maxLen], fun _ => rfl, .inl ⟨rfl, rfl⟩⟩
 exact dRul_mk (by simp [maxLen]) (by unfold I64; omega) (by unfold I64; omega) hz hz
def cntRul : Rul → Nat := fun (nm, sx, pl, fr, tw) => 3 + 2 * fr.length + 2 * tw.length
def szdRul : Rul → Nat := fun (nm, sx, pl, fr, tw) => nm.size + fr.length + tw.length
def sszRul (xs : List Rul) : Nat := xs.length + lenBy szdRul xs
def mkdRul (k : Int) : Rul → Rul := fun (nm, sx, pl, fr, tw) => ((markTxt (k).toNat), k + 1, k + 1 + 1, marksStp (k + 1 + 1 + 1) fr.length, marksStp (k + 1 + 1 + 1 + 2 * (fr.length : Nat)) tw.length)
instance decEqLRul : DecidableEq (List Rul) := fun a b => instDecidableEqList a b
def PostDRul (w : World) (x : Rul) (e : Ending) (w' : World) : Prop := ∃ (u0 u1 u2 u3 u4 : Value), e = .returned (.agg #[u0, u1, u2, u3, u4]) ∧ Ow w.heap.size w'.heap.size w' [u0, u1, u2, u3, u4] x ∧ Below w.heap.size w w'
end
end Go.Proofs.YtdpkldapobbnpaaGreatDoor
