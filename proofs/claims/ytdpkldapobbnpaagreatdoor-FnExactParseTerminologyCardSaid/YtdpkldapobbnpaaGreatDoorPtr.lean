/- Plain: how a terminology is read from its text, by both programs; what is written is read back. -/
import Derived.Test.YtdpkldapobbnpaaGreatDoorInv
import Derived.Lib.Split
namespace Go.Proofs.YtdpkldapobbnpaaGreatDoor
set_option linter.unusedVariables false
set_option linter.unusedSimpArgs false
open Go.RowKit

def lnR (r : Rul) : Bs := [114, 117, 108, 101, 32] ++ ruleB r
def lnE (e : Ent) : Bs := [116, 101, 114, 109, 32] ++ (kinB e.1 ++ 32 :: e.2.data.toList)
def lns (y : Trm) : List Bs := y.1.map lnR ++ y.2.map lnE
def joinL (ls : List Bs) : Bs := ls.flatMap fun l => l ++ [10]
theorem rulesT_B : ∀ (rs : List Rul) (o : ByteArray), (∀ r ∈ rs, isRule r = true) → (rulesT rs o).data.toList = o.data.toList ++ joinL (rs.map lnR)
  | [], o, _ => by simp [rulesT, joinL]
  | r :: rs, o, h => by
    have ih := rulesT_B rs (o ++ ruleLn r) fun x hx => h x (List.mem_cons_of_mem _ hx)
    have e : rulesT (r :: rs) o = rulesT rs (o ++ ruleLn r) := rfl
    rw [e, ih, app_B]
    have e2 : (ruleLn r).data.toList = lnR r ++ [10] := by
      unfold ruleLn lnR
      rw [app_B, app_B, ruleTxt_B (h r List.mem_cons_self)]
    rw [e2]
    simp [joinL]
theorem entsT_B : ∀ (es : List Ent) (o : ByteArray), (∀ e ∈ es, isKin e.1 = true) → (entsT es o).data.toList = o.data.toList ++ joinL (es.map lnE)
  | [], o, _ => by simp [entsT, joinL]
  | e :: es, o, h => by
    have ih := entsT_B es (o ++ entLn e) fun x hx => h x (List.mem_cons_of_mem _ hx)
    have e1 : entsT (e :: es) o = entsT es (o ++ entLn e) := rfl
    rw [e1, ih, app_B]
    have e2 : (entLn e).data.toList = lnE e ++ [10] := by
      unfold entLn lnE
      rw [app_B, app_B, app_B, app_B, kinTxt_B (h e List.mem_cons_self)]
      simp
    rw [e2]
    simp [joinL]
theorem term_rules {y : Trm} (h : isTerm y = true) : ∀ r ∈ y.1, isRule r = true := by
  have h1 := (isTerm_facts h).1
  unfold areRules at h1
  simp only [Bool.and_eq_true, List.all_eq_true] at h1
  exact h1.2.1
theorem trmTxt_B {y : Trm} (h : isTerm y = true) : (trmTxt y).data.toList = joinL (lns y) := by
  unfold trmTxt
  rw [if_pos h, entsT_B _ _ fun e he => ((isTerm_facts h).2.2.1 e he).2.1, rulesT_B _ _ (term_rules h)]
  simp [joinL, lns]
/-! ### lines -/
theorem spl_join (x : Bs) (hx : ∀ c ∈ x, c ≠ 10) : ∀ ls : List Bs, (∀ l ∈ ls, ∀ c ∈ l, c ≠ 10) → spl 10 (joinL ls ++ x) = ls ++ [x]
  | [], _ => by simp [joinL, spl_no hx]
  | l :: ls, h => by
    have e : joinL (l :: ls) ++ x = l ++ 10 :: (joinL ls ++ x) := by simp [joinL]
    rw [e, spl_app _ (h l List.mem_cons_self), spl_join x hx ls fun k hk => h k (List.mem_cons_of_mem _ hk)]; rfl
theorem index_no {s : Bs} {b : UInt8} (h : ∀ c ∈ s, c ≠ b) : Lib.index s [b] = -1 := by
  induction s with
  | nil => rfl
  | cons c s ih =>
    have ih := ih fun d hd => h d (List.mem_cons_of_mem _ hd)
    have hc := h c List.mem_cons_self
    rw [Lib.index, if_neg (by show ¬ ((b == c && _) = true); rw [show (b == c) = false from beq_eq_false_iff_ne.2 (Ne.symm hc)]; simp), ih]; rfl
theorem split_spl (b : UInt8) : ∀ (n : Nat) (s : Bs), s.length ≤ n → Lib.split s [b] = spl b s
  | 0, s, h => by
    obtain rfl : s = [] := List.eq_nil_of_length_eq_zero (by omega)
    rfl
  | n + 1, s, h => by
    by_cases hb : b ∈ s
    · obtain ⟨x, y, rfl, hx⟩ := List.eq_append_cons_of_mem hb
      have hx' : ∀ c ∈ x, c ≠ b := fun c hc e => hx (by rw [← e]; exact hc)
      have hi : Lib.index (x ++ b :: y) [b] = x.length := by
        have := index_app (x := x) (y := y) (st := []) (s0 := b) hx'
        rw [← this]; congr 1; simp
      have hd : (x ++ b :: y).drop (x.length + 1) = y := by
        rw [show x ++ b :: y = (x ++ [b]) ++ y by simp, List.drop_left' (by simp)]
      have hc := Lib.count_hit (s := x ++ b :: y) (sub := [b]) (i := x.length) (by simp) hi
      have ih := split_spl b n y (by rw [List.length_append, List.length_cons] at h; omega)
      unfold Lib.split at ih ⊢
      rw [hc, show [b].length = 1 from rfl, hd, Nat.add_comm 1, Lib.splitK, if_neg (by rw [hi]; simp), hi, Int.toNat_natCast, Nat.add_zero, show [b].length = 1 from rfl, hd, ih, spl_app y hx', List.take_left' rfl]
    · have hx' : ∀ c ∈ s, c ≠ b := fun c hc e => hb (by rw [← e]; exact hc)
      unfold Lib.split
      rw [Lib.count_miss (index_no hx'), Lib.splitK, spl_no hx']
/-! ### what the programs read -/
def rulZ : Rul := (⟨#[]⟩, 0, 0, [], [])
def textL (s : Bs) : Option (List Bs) := if s = [] then some [] else if Lib.hasSuffix s [10] = true then some (Lib.split s.dropLast [10]) else none
def lineI (y : Trm) (l : Bs) : Option Trm :=
  if Lib.hasPrefix l [114, 117, 108, 101, 32] = true then (ruleI (Lib.trimPrefix l [114, 117, 108, 101, 32])).map fun r => (y.1 ++ [r], y.2)
  else if Lib.hasPrefix l [116, 101, 114, 109, 32] = true ∧ (Lib.cut (Lib.trimPrefix l [116, 101, 114, 109, 32]) [32]).2.2 = true then
    (typeI (Lib.cut (Lib.trimPrefix l [116, 101, 114, 109, 32]) [32]).1).map fun t => (y.1, y.2 ++ [(t, txt (Lib.cut (Lib.trimPrefix l [116, 101, 114, 109, 32]) [32]).2.1)])
  else none
def linesI : List Bs → Trm → Option Trm
  | [], y => some y
  | l :: ls, y => (lineI y l).bind (linesI ls)
def parI (s : Bs) : Option Trm := (textL s).bind fun ls => if ls.length ≤ 72 then linesI ls ([], []) else none
def lineS1 (y : Trm) (l : Bs) : Trm := if 5 < l.length ∧ l.take 5 = [114, 117, 108, 101, 32] then (y.1 ++ [(ruleS (l.drop 5)).getD rulZ], y.2) else y
def lineS2 (y : Trm) (ps : List Bs) : Trm := match ps with
  | [a, k, t] => if a = [116, 101, 114, 109] then (y.1, y.2 ++ [((typeS k).getD (0, []), txt t)]) else y
  | _ => y
def lineS (y : Trm) (l : Bs) : Trm := lineS2 (lineS1 y l) (spl 32 l)
def parS (s : Bs) : Option Trm := if (spl 10 s).length ≤ 73 then some ((spl 10 s).foldl lineS ([], [])) else none
def fin (s : ByteArray) (o : Option Trm) : Option Trm := o.bind fun y => if isTerm y = true ∧ trmTxt y = s then some y else none
/-! ### read back -/
theorem lineI_rule {r : Rul} (h : isRule r = true) (y : Trm) : lineI y (lnR r) = some (y.1 ++ [r], y.2) := by
  have e1 : Lib.hasPrefix (lnR r) [114, 117, 108, 101, 32] = true := by simp [Lib.hasPrefix, lnR]
  have e2 : Lib.trimPrefix (lnR r) [114, 117, 108, 101, 32] = ruleB r := by rw [Lib.trimPrefix, if_pos e1]; rfl
  unfold lineI
  rw [if_pos e1, e2, ruleI_rule h]; rfl
theorem kinB_mem {t : Kin} (h : isKin t = true) {c : UInt8} (hc : c ∈ kinB t) : c ≠ 32 ∧ c ≠ 10 := by
  unfold kinB at hc
  rcases List.mem_append.1 hc with hc | hc
  · exact egoB_mem hc
  · rcases dotB_mem (kin_SOk h) hc with h | rfl
    · have := wb_ne h; exact ⟨this.1, this.2.2.2.2.2.2.2.1⟩
    · decide
theorem lineI_ent {e : Ent} (h : isKin e.1 = true) (y : Trm) : lineI y (lnE e) = some (y.1, y.2 ++ [e]) := by
  have e0 : Lib.hasPrefix (lnE e) [114, 117, 108, 101, 32] = false := rfl
  have e1 : Lib.hasPrefix (lnE e) [116, 101, 114, 109, 32] = true := by simp [Lib.hasPrefix, lnE]
  have e2 : Lib.trimPrefix (lnE e) [116, 101, 114, 109, 32] = kinB e.1 ++ 32 :: e.2.data.toList := by rw [Lib.trimPrefix, if_pos e1]; rfl
  have e3 : Lib.cut (kinB e.1 ++ 32 :: e.2.data.toList) [32] = (kinB e.1, e.2.data.toList, true) := by
    have := cut_app (x := kinB e.1) (y := e.2.data.toList) (st := []) (s0 := 32) fun c hc => (kinB_mem h hc).1
    rw [← this]; congr 1; simp
  unfold lineI
  rw [if_neg (by rw [e0]; decide), e2, e3]
  dsimp only
  rw [if_pos ⟨e1, rfl⟩, typeI_kin h, txt_list]; rfl
theorem spl_rule {r : Rul} (h : isRule r = true) : spl 32 (ruleB r) = [r.1.data.toList ++ [58], egoB r.2.1 ++ midB r, [45, 62], dotB (stepsB r.2.2.2.2)] := by
  obtain ⟨hf, ht, hne, hfl, htl⟩ := rul_SOk h
  obtain ⟨h1, h2, h3, -⟩ := isRule_facts h
  have e : ruleB r = (r.1.data.toList ++ [58]) ++ 32 :: ((egoB r.2.1 ++ midB r) ++ 32 :: ([45, 62] ++ 32 :: dotB (stepsB r.2.2.2.2))) := by
    unfold ruleB; simp
  rw [e, spl_app _ (fun c hc => by
    rcases List.mem_append.1 hc with hc | hc
    · exact (name_mem h1 hc).1
    · rw [List.mem_singleton] at hc; rw [hc]; decide), spl_app _ (fun c hc => by
    rcases List.mem_append.1 hc with hc | hc
    · exact (egoB_mem hc).1
    · exact (midB_ne h hc).1), spl_app _ (by decide), spl_no (fun c hc => by
    rcases dotB_mem ht hc with h | rfl
    · exact (wb_ne h).1
    · decide)]
theorem ruleB_ne {r : Rul} : 0 < (ruleB r).length := by unfold ruleB; simp; omega
theorem lineS_rule {r : Rul} (h : isRule r = true) (y : Trm) : lineS y (lnR r) = (y.1 ++ [r], y.2) := by
  have e1 : lineS1 y (lnR r) = (y.1 ++ [r], y.2) := by
    unfold lineS1
    rw [if_pos ⟨by unfold lnR; rw [List.length_append]; have := ruleB_ne (r := r); show 5 < 5 + _; omega, rfl⟩]
    rw [show (lnR r).drop 5 = ruleB r from rfl, ruleS_rule h]; rfl
  have e2 : spl 32 (lnR r) = [114, 117, 108, 101] :: spl 32 (ruleB r) := spl_app (x := [114, 117, 108, 101]) (ruleB r) (by decide)
  unfold lineS
  rw [e1, e2, spl_rule h]; rfl
theorem lineS_ent {e : Ent} (h : isKin e.1 = true) (hn : nameOk e.2 = true) (y : Trm) : lineS y (lnE e) = (y.1, y.2 ++ [e]) := by
  have e1 : lineS1 y (lnE e) = y := by
    unfold lineS1
    rw [if_neg (fun hh => by
      have h2 : (lnE e).take 5 = [116, 101, 114, 109, 32] := rfl
      rw [h2] at hh
      exact absurd hh.2 (by decide))]
  have e2 : spl 32 (lnE e) = [[116, 101, 114, 109], kinB e.1, e.2.data.toList] := by
    rw [show lnE e = [116, 101, 114, 109] ++ 32 :: (kinB e.1 ++ 32 :: e.2.data.toList) from rfl, spl_app _ (by decide), spl_app _ fun c hc => (kinB_mem h hc).1, spl_no fun c hc => (name_mem hn hc).1]
  unfold lineS
  rw [e1, e2]
  show (if ([116, 101, 114, 109] : Bs) = [116, 101, 114, 109] then (y.1, y.2 ++ [((typeS (kinB e.1)).getD (0, []), txt e.2.data.toList)]) else y) = _
  rw [if_pos rfl, typeS_kin h, txt_list]; rfl
theorem lnR_mem {r : Rul} (h : isRule r = true) {c : UInt8} (hc : c ∈ lnR r) : c ≠ 10 := by
  obtain ⟨hf, ht, -⟩ := rul_SOk h
  obtain ⟨h1, -⟩ := isRule_facts h
  unfold lnR ruleB at hc
  simp only [List.mem_append] at hc
  rcases hc with hc | (hc | hc) | ((hc | hc) | hc) | hc
  · revert c; decide
  · exact (name_mem h1 hc).2.2
  · revert c; decide
  · exact (egoB_mem hc).2
  · exact (midB_ne h hc).2.2.2
  · revert c; decide
  · rcases dotB_mem ht hc with h | rfl
    · exact (wb_ne h).2.2.2.2.2.2.2.1
    · decide
theorem lnE_mem {e : Ent} (h : isKin e.1 = true) (hn : nameOk e.2 = true) {c : UInt8} (hc : c ∈ lnE e) : c ≠ 10 := by
  have hd : ∀ c ∈ ([116, 101, 114, 109, 32] : Bs), c ≠ 10 := by decide
  unfold lnE at hc
  rcases List.mem_append.1 hc with hc | hc
  · exact hd c hc
  · rcases List.mem_append.1 hc with hc | hc
    · exact (kinB_mem h hc).2
    · rcases List.mem_cons.1 hc with rfl | hc
      · decide
      · exact (name_mem hn hc).2.2
theorem lns_mem {y : Trm} (h : isTerm y = true) : ∀ l ∈ lns y, ∀ c ∈ l, c ≠ 10 := fun l hl c hc => by
  unfold lns at hl
  rcases List.mem_append.1 hl with hl | hl
  · obtain ⟨r, hr, rfl⟩ := List.mem_map.1 hl
    exact lnR_mem (term_rules h r hr) hc
  · obtain ⟨e, he, rfl⟩ := List.mem_map.1 hl
    have := (isTerm_facts h).2.2.1 e he
    exact lnE_mem this.2.1 this.1 hc
theorem lns_len {y : Trm} (h : isTerm y = true) : (lns y).length ≤ 72 := by
  have h1 := (isTerm_facts h).1
  have h2 := (isTerm_facts h).2.1
  unfold areRules at h1
  simp only [Bool.and_eq_true, decide_eq_true_eq] at h1
  unfold lns
  rw [List.length_append, List.length_map, List.length_map]; omega
theorem linesI_rules : ∀ (rs : List Rul) (y : Trm) (ls : List Bs), (∀ r ∈ rs, isRule r = true) → linesI (rs.map lnR ++ ls) y = linesI ls (y.1 ++ rs, y.2)
  | [], y, ls, _ => by simp
  | r :: rs, y, ls, h => by
    show (lineI y (lnR r)).bind (linesI (rs.map lnR ++ ls)) = _
    rw [lineI_rule (h r List.mem_cons_self)]
    show linesI (rs.map lnR ++ ls) (y.1 ++ [r], y.2) = _
    rw [linesI_rules rs _ ls fun x hx => h x (List.mem_cons_of_mem _ hx)]
    simp
theorem linesI_ents : ∀ (es : List Ent) (y : Trm), (∀ e ∈ es, isKin e.1 = true) → linesI (es.map lnE) y = some (y.1, y.2 ++ es)
  | [], y, _ => by simp [linesI]
  | e :: es, y, h => by
    show (lineI y (lnE e)).bind (linesI (es.map lnE)) = _
    rw [lineI_ent (h e List.mem_cons_self)]
    show linesI (es.map lnE) (y.1, y.2 ++ [e]) = _
    rw [linesI_ents es _ fun x hx => h x (List.mem_cons_of_mem _ hx)]
    simp
theorem foldS_rules : ∀ (rs : List Rul) (y : Trm), (∀ r ∈ rs, isRule r = true) → (rs.map lnR).foldl lineS y = (y.1 ++ rs, y.2)
  | [], y, _ => by simp
  | r :: rs, y, h => by
    rw [List.map_cons, List.foldl_cons, lineS_rule (h r List.mem_cons_self), foldS_rules rs _ fun x hx => h x (List.mem_cons_of_mem _ hx)]
    simp
theorem foldS_ents : ∀ (es : List Ent) (y : Trm), (∀ e ∈ es, isKin e.1 = true ∧ nameOk e.2 = true) → (es.map lnE).foldl lineS y = (y.1, y.2 ++ es)
  | [], y, _ => by simp
  | e :: es, y, h => by
    rw [List.map_cons, List.foldl_cons, lineS_ent (h e List.mem_cons_self).1 (h e List.mem_cons_self).2, foldS_ents es _ fun x hx => h x (List.mem_cons_of_mem _ hx)]
    simp
theorem join_last {ls : List Bs} (h : ls ≠ []) : joinL ls ≠ [] ∧ Lib.hasSuffix (joinL ls) [10] = true ∧ ∃ i x, ls = i ++ [x] ∧ (joinL ls).dropLast = joinL i ++ x := by
  obtain ⟨i, x, rfl⟩ : ∃ i x, ls = i ++ [x] := ⟨ls.dropLast, ls.getLast h, (List.dropLast_concat_getLast h).symm⟩
  have e : joinL (i ++ [x]) = (joinL i ++ x) ++ [10] := by simp [joinL]
  rw [e]
  exact ⟨by simp, suf_yes _ _, i, x, rfl, List.dropLast_concat⟩
theorem parI_back {y : Trm} (h : isTerm y = true) : parI (joinL (lns y)) = some y := by
  have ht : textL (joinL (lns y)) = some (lns y) := by
    by_cases e : lns y = []
    · rw [e]; rfl
    · obtain ⟨h1, h2, i, x, h3, h4⟩ := join_last e
      unfold textL
      rw [if_neg h1, if_pos h2, h4, split_spl 10 _ _ (Nat.le_refl _), spl_join x (fun c hc => lns_mem h x (by rw [h3]; simp) c hc) i (fun l hl => lns_mem h l (by rw [h3]; simp [hl])), h3]
  unfold parI
  rw [ht]
  show (if (lns y).length ≤ 72 then linesI (lns y) ([], []) else none) = _
  rw [if_pos (lns_len h)]
  unfold lns
  rw [linesI_rules _ _ _ (term_rules h), linesI_ents _ _ fun e he => ((isTerm_facts h).2.2.1 e he).2.1]
  simp
theorem parS_back {y : Trm} (h : isTerm y = true) : parS (joinL (lns y)) = some y := by
  have ht : spl 10 (joinL (lns y)) = lns y ++ [[]] := by
    have := spl_join [] (by simp) (lns y) (lns_mem h)
    rwa [List.append_nil] at this
  unfold parS
  rw [ht, if_pos (by rw [List.length_append]; have := lns_len h; simp; omega), List.foldl_append]
  unfold lns
  rw [List.foldl_append, foldS_rules _ _ (term_rules h), foldS_ents _ _ fun e he => ⟨((isTerm_facts h).2.2.1 e he).2.1, ((isTerm_facts h).2.2.1 e he).1⟩]
  show some (lineS (([] : List Rul) ++ y.1, ([] : List Ent) ++ y.2) []) = _
  rw [List.nil_append, List.nil_append]; rfl
theorem fin_some {s : ByteArray} {o : Option Trm} {y : Trm} : fin s o = some y ↔ (o = some y ∧ isTerm y = true ∧ trmTxt y = s) := by
  unfold fin
  cases o with
  | none => simp
  | some x =>
    show (if isTerm x = true ∧ trmTxt x = s then some x else none) = some y ↔ _
    by_cases e : isTerm x = true ∧ trmTxt x = s
    · rw [if_pos e]
      constructor
      · intro h; cases h; exact ⟨rfl, e⟩
      · rintro ⟨h, -⟩; exact h
    · rw [if_neg e]
      constructor
      · intro h; cases h
      · rintro ⟨h, h2⟩; cases h; exact absurd h2 e
theorem back_of {s : ByteArray} {y : Trm} (h : isTerm y = true) (hs : trmTxt y = s) : s.data.toList = joinL (lns y) := by rw [← hs, trmTxt_B h]
/-- Both programs read the same. -/
theorem par_eq (s : ByteArray) : fin s (parI s.data.toList) = fin s (parS s.data.toList) := by
  apply Option.ext
  intro y
  rw [fin_some, fin_some]
  constructor
  · rintro ⟨-, h, hs⟩; exact ⟨by rw [back_of h hs]; exact parS_back h, h, hs⟩
  · rintro ⟨-, h, hs⟩; exact ⟨by rw [back_of h hs]; exact parI_back h, h, hs⟩
/-- What is written is read. -/
theorem par_txt {y : Trm} (h : isTerm y = true) : fin (trmTxt y) (parI (trmTxt y).data.toList) = some y := fin_some.2 ⟨by rw [trmTxt_B h]; exact parI_back h, h, rfl⟩
end Go.Proofs.YtdpkldapobbnpaaGreatDoor
