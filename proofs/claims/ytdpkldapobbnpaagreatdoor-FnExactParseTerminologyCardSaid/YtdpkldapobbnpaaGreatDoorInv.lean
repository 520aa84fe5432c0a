/- Plain: a type, a rule, a terminology is read back from its text, by both programs. -/
import Derived.Test.YtdpkldapobbnpaaGreatDoorPrs
namespace Go.Proofs.YtdpkldapobbnpaaGreatDoor
set_option linter.unusedVariables false
set_option linter.unusedSimpArgs false
open Go.RowKit

/-! ### texts as bytes -/
theorem app_B (a b : ByteArray) : (a ++ b).data.toList = a.data.toList ++ b.data.toList := by rw [ByteArray.data_append, Array.toList_append]
def kB (k : Int) : UInt8 := lts.getD (k - 1).toNat 0
def aB (a : Int) : Bs := if a = 1 then [101] else if a = 2 then [121] else []
def stB (s : Stp) : Bs := aB s.2 ++ [kB s.1]
def stepsB (l : List Stp) : Bs := l.flatMap stB
def dotB (w : Bs) : Bs := if w = [] then [46] else w
def egoB (e : Int) : Bs := if e = 1 then [109, 58] else if e = 2 then [119, 58] else []
def kinB (t : Kin) : Bs := egoB t.1 ++ dotB (stepsB t.2)
/-- The bytes of steps. -/
def WB : Bs := [70, 77, 66, 90, 83, 68, 72, 87, 101, 121]
theorem k8 {k : Int} (h : 1 ≤ k ∧ k ≤ 8) : k = 1 ∨ k = 2 ∨ k = 3 ∨ k = 4 ∨ k = 5 ∨ k = 6 ∨ k = 7 ∨ k = 8 := by omega
theorem kB_facts {k : Int} (h : 1 ≤ k ∧ k ≤ 8) : knd (kB k) = k ∧ kB k ≠ 101 ∧ kB k ≠ 121 ∧ kB k ∈ WB ∧ (kTxt k).data.toList = [kB k] := by
  rcases k8 h with rfl | rfl | rfl | rfl | rfl | rfl | rfl | rfl <;> decide +kernel
theorem aTxt_B (a : Int) : (aTxt a).data.toList = aB a := by
  unfold aTxt aB
  split
  · rfl
  · split <;> rfl
theorem stTxt_B {s : Stp} (h : 1 ≤ s.1 ∧ s.1 ≤ 8) : (stTxt s).data.toList = stB s := by
  unfold stTxt stB
  rw [app_B, aTxt_B, (kB_facts h).2.2.2.2]
theorem foldT_B : ∀ (l : List Stp) (o : ByteArray), SOk l → (l.foldl (fun o s => o ++ stTxt s) o).data.toList = o.data.toList ++ stepsB l
  | [], o, _ => by simp [stepsB]
  | s :: l, o, h => by
    rw [List.foldl_cons, foldT_B l _ h.cons, app_B, stTxt_B (h s List.mem_cons_self).1]
    simp [stepsB]
theorem stepsT_B {l : List Stp} (h : SOk l) : (stepsT l).data.toList = stepsB l := by
  unfold stepsT
  rw [foldT_B l _ h]; rfl
theorem eq_nilB {s : ByteArray} : s = ⟨#[]⟩ ↔ s.data.toList = [] := by
  constructor
  · rintro rfl; rfl
  · intro h
    rw [← txt_list s, h]; rfl
theorem dotT_B {l : List Stp} (h : SOk l) : (dotT (stepsT l)).data.toList = dotB (stepsB l) := by
  unfold dotT dotB
  by_cases e : stepsT l = ⟨#[]⟩
  · rw [if_pos e, if_pos (by rw [← stepsT_B h]; exact eq_nilB.1 e)]
  · rw [if_neg e, if_neg (fun hh => e (eq_nilB.2 (by rw [stepsT_B h]; exact hh))), stepsT_B h]
theorem egoTxt_B (e : Int) : (egoTxt e).data.toList = egoB e := by
  unfold egoTxt egoB
  split
  · rfl
  · split <;> rfl
theorem kin_SOk {t : Kin} (h : isKin t = true) : SOk t.2 := (isKin_facts h).2.2.2
theorem kinTxt_B {t : Kin} (h : isKin t = true) : (kinTxt t).data.toList = kinB t := by
  unfold kinTxt kinB
  rw [if_pos h, app_B, egoTxt_B, dotT_B (kin_SOk h)]
theorem kinTxt_txt {t : Kin} (h : isKin t = true) : kinTxt t = txt (kinB t) := by rw [← kinTxt_B h, txt_list]
theorem aB_mem {a : Int} {c : UInt8} (h : c ∈ aB a) : c ∈ WB := by
  unfold aB at h
  split at h
  · rw [List.mem_singleton] at h; rw [h]; decide
  · split at h
    · rw [List.mem_singleton] at h; rw [h]; decide
    · cases h
theorem stepsB_mem {l : List Stp} (h : SOk l) {c : UInt8} (hc : c ∈ stepsB l) : c ∈ WB := by
  obtain ⟨s, hs, h2⟩ := List.mem_flatMap.1 hc
  rcases List.mem_append.1 h2 with h2 | h2
  · exact aB_mem h2
  · rw [List.mem_singleton] at h2; rw [h2]; exact (kB_facts (h s hs).1).2.2.2.1
theorem stepsB_ne {l : List Stp} (h : l ≠ []) : stepsB l ≠ [] := by
  cases l with
  | nil => exact absurd rfl h
  | cons s l => simp [stepsB, stB]
theorem wb_ne {c : UInt8} (h : c ∈ WB) : c ≠ 32 ∧ c ≠ 46 ∧ c ≠ 109 ∧ c ≠ 119 ∧ c ≠ 58 ∧ c ≠ 94 ∧ c ≠ 36 ∧ c ≠ 10 ∧ c ≠ 45 := by
  revert c
  decide
theorem dotB_mem {l : List Stp} (h : SOk l) {c : UInt8} (hc : c ∈ dotB (stepsB l)) : c ∈ WB ∨ c = 46 := by
  unfold dotB at hc
  split at hc
  · exact .inr (List.mem_singleton.1 hc)
  · exact .inl (stepsB_mem h hc)
/-! ### steps read back -/
theorem readI_c {c : UInt8} (h1 : c ≠ 101) (h2 : c ≠ 121) (hk : knd c ≠ 0) : ∀ r : Bs, readI (c :: r) = (readI r).map ((knd c, 0) :: ·)
  | [] => by simp [readI, h1, h2, hk]
  | d :: r => by rw [readI, if_neg (by simp [h1, h2]), if_neg hk]
theorem readI_cd {c d : UInt8} (h : c = 101 ∨ c = 121) (hk : knd d ≠ 0) (r : Bs) : readI (c :: d :: r) = (readI r).map ((knd d, if c = 101 then 1 else 2) :: ·) := by
  rw [readI, if_pos h, if_neg hk]
theorem ag3 {a : Int} (h : 0 ≤ a ∧ a ≤ 2) : a = 0 ∨ a = 1 ∨ a = 2 := by omega
theorem readI_steps : ∀ {l : List Stp}, SOk l → readI (stepsB l) = some l
  | [], _ => by simp [stepsB, readI]
  | (k, a) :: l, h => by
    obtain ⟨hk, ha⟩ := h (k, a) List.mem_cons_self
    obtain ⟨f1, f2, f3, -, -⟩ := kB_facts hk
    have hk0 : knd (kB k) ≠ 0 := by rw [f1]; exact fun e => by have : k = 0 := e; dsimp only at hk; omega
    have ih := readI_steps h.cons
    have e : stepsB ((k, a) :: l) = aB a ++ kB k :: stepsB l := by simp [stepsB, stB]
    rw [e]
    rcases ag3 ha with rfl | rfl | rfl
    · show readI (kB k :: stepsB l) = _
      rw [readI_c f2 f3 hk0, ih, f1]; rfl
    · show readI (101 :: kB k :: stepsB l) = _
      rw [readI_cd (.inl rfl) hk0, ih, f1]; rfl
    · show readI (121 :: kB k :: stepsB l) = _
      rw [readI_cd (.inr rfl) hk0, ih, f1]; rfl
theorem readG_steps : ∀ {l : List Stp} (o : List Stp), SOk l → o.length + l.length ≤ 20 → readG (stepsB l) 0 o = o ++ l
  | [], o, _, _ => by simp [stepsB, readG]
  | (k, a) :: l, o, h, hl => by
    obtain ⟨hk, ha⟩ := h (k, a) List.mem_cons_self
    obtain ⟨f1, f2, f3, -, -⟩ := kB_facts hk
    rw [List.length_cons] at hl
    have ho : o.length < 20 := by omega
    have ih := fun o' ho' => readG_steps (l := l) o' h.cons ho'
    have e : stepsB ((k, a) :: l) = aB a ++ kB k :: stepsB l := by simp [stepsB, stB]
    rw [e]
    rcases ag3 ha with rfl | rfl | rfl
    · show readG (kB k :: stepsB l) 0 o = _
      rw [readG, if_pos ho, if_neg f2, if_neg f3, ih _ (by rw [List.length_append]; simp; omega), f1]; simp
    · show readG (101 :: kB k :: stepsB l) 0 o = _
      rw [readG, if_pos ho, if_pos rfl, readG, if_pos ho, if_neg f2, if_neg f3, ih _ (by rw [List.length_append]; simp; omega), f1]; simp
    · show readG (121 :: kB k :: stepsB l) 0 o = _
      rw [readG, if_pos ho, if_neg (by decide), if_pos rfl, readG, if_pos ho, if_neg f2, if_neg f3, ih _ (by rw [List.length_append]; simp; omega), f1]; simp
theorem dot_ne {l : List Stp} (h : SOk l) (hl : l ≠ []) : dotB (stepsB l) = stepsB l ∧ stepsB l ≠ [46] := by
  refine ⟨if_neg (stepsB_ne hl), fun e => ?_⟩
  have : (46 : UInt8) ∈ stepsB l := by rw [e]; exact List.mem_singleton.2 rfl
  exact (wb_ne (stepsB_mem h this)).2.1 rfl
theorem readS_steps {l : List Stp} (h : SOk l) (hl : l.length ≤ 20) : readS (dotB (stepsB l)) = l := by
  unfold readS
  by_cases e : l = []
  · subst e; rfl
  · rw [(dot_ne h e).1, if_neg (dot_ne h e).2, readG_steps [] h (by simpa using hl)]; rfl
/-- .. without the dot. -/
theorem readS_word {l : List Stp} (h : SOk l) (hl : l.length ≤ 20) (h1 : l ≠ []) : readS (stepsB l) = l := by
  have := readS_steps h hl
  rwa [(dot_ne h h1).1] at this
theorem cutE_ego {e : Int} (he : 0 ≤ e ∧ e ≤ 2) {w : Bs} (hw : ∀ c, w.head? = some c → c ≠ 109 ∧ c ≠ 119) : cutE (egoB e ++ w) = (e, w) := by
  rcases ag3 he with rfl | rfl | rfl
  · show cutE w = _
    unfold cutE
    cases w with
    | nil => rfl
    | cons c r =>
      obtain ⟨h1, h2⟩ := hw c rfl
      have e1 : Lib.hasPrefix (c :: r) [109, 58] = false := by show ((109 : UInt8) == c && _) = false; rw [show ((109 : UInt8) == c) = false from beq_eq_false_iff_ne.2 (Ne.symm h1)]; rfl
      have e2 : Lib.hasPrefix (c :: r) [119, 58] = false := by show ((119 : UInt8) == c && _) = false; rw [show ((119 : UInt8) == c) = false from beq_eq_false_iff_ne.2 (Ne.symm h2)]; rfl
      rw [e1, e2]; rfl
  · show cutE (109 :: 58 :: w) = _
    unfold cutE
    have e1 : Lib.hasPrefix (109 :: 58 :: w) [109, 58] = true := by simp [Lib.hasPrefix]
    rw [e1]; rfl
  · show cutE (119 :: 58 :: w) = _
    unfold cutE
    have e1 : Lib.hasPrefix (119 :: 58 :: w) [109, 58] = false := rfl
    have e2 : Lib.hasPrefix (119 :: 58 :: w) [119, 58] = true := by simp [Lib.hasPrefix]
    rw [e1, e2]; rfl
theorem head_mem {w : Bs} {c : UInt8} (h : w.head? = some c) : c ∈ w := List.mem_of_mem_head? h
theorem cutE_kin {t : Kin} (h : isKin t = true) : cutE (kinB t) = (t.1, dotB (stepsB t.2)) := by
  refine cutE_ego (isKin_facts h).1 fun c hc => ?_
  rcases dotB_mem (kin_SOk h) (head_mem hc) with h | rfl
  · exact ⟨(wb_ne h).2.2.1, (wb_ne h).2.2.2.1⟩
  · decide
theorem typeI_kin {t : Kin} (h : isKin t = true) : typeI (kinB t) = some t := by
  unfold typeI
  rw [cutE_kin h]
  obtain ⟨e, l⟩ := t
  dsimp only
  by_cases hl : l = []
  · subst hl; rfl
  · rw [(dot_ne (kin_SOk h) hl).1, if_neg (dot_ne (kin_SOk h) hl).2, readI_steps (kin_SOk h)]
    show (if l ≠ [] ∧ isKin (e, l) = true then some (e, l) else none) = _
    rw [if_pos ⟨hl, h⟩]
theorem typeS_kin {t : Kin} (h : isKin t = true) : typeS (kinB t) = some t := by
  unfold typeS
  rw [cutE_kin h]
  have e : readS (dotB (stepsB t.2)) = t.2 := readS_steps (kin_SOk h) (by have := (isKin_facts h).2.1; omega)
  rw [e, if_pos ⟨h, kinTxt_txt h⟩]
/-! ### a rule read back -/
def midB (r : Rul) : Bs := (if r.2.2.1 = 1 then [94] else []) ++ (stepsB r.2.2.2.1 ++ (if r.2.2.1 = 2 then [36] else []))
def ruleB (r : Rul) : Bs := r.1.data.toList ++ [58, 32] ++ (egoB r.2.1 ++ midB r ++ [32, 45, 62, 32] ++ dotB (stepsB r.2.2.2.2))
theorem rul_SOk {r : Rul} (h : isRule r = true) : SOk r.2.2.2.1 ∧ SOk r.2.2.2.2 ∧ r.2.2.2.1 ≠ [] ∧ r.2.2.2.1.length ≤ 4 ∧ r.2.2.2.2.length ≤ 4 := by
  obtain ⟨hf, ht, htl⟩ := rule_steps h
  obtain ⟨-, -, -, h4, -⟩ := isRule_facts h
  exact ⟨hf, ht, fun e => by rw [e] at h4; simp at h4, h4.2, by omega⟩
theorem ruleTxt_B {r : Rul} (h : isRule r = true) : (ruleTxt r).data.toList = ruleB r := by
  obtain ⟨hf, ht, -⟩ := rul_SOk h
  have e1 : (ruleT1 r).data.toList = r.1.data.toList ++ [58, 32] ++ egoB r.2.1 := by
    unfold ruleT1; rw [app_B, app_B, egoTxt_B]
  have e2 : (ruleT2 r).data.toList = (ruleT1 r).data.toList ++ (if r.2.2.1 = 1 then [94] else []) := by
    unfold ruleT2; split
    · rw [app_B]
    · simp
  have e3 : (ruleT3 r).data.toList = (ruleT2 r).data.toList ++ stepsB r.2.2.2.1 := by
    unfold ruleT3; rw [app_B, stepsT_B hf]
  have e4 : (ruleT4 r).data.toList = (ruleT3 r).data.toList ++ (if r.2.2.1 = 2 then [36] else []) := by
    unfold ruleT4; split
    · rw [app_B]
    · simp
  unfold ruleTxt
  rw [if_pos h, app_B, app_B, e4, e3, e2, e1, dotT_B ht]
  unfold ruleB midB
  simp only [List.append_assoc]
theorem ruleTxt_txt {r : Rul} (h : isRule r = true) : ruleTxt r = txt (ruleB r) := by rw [← ruleTxt_B h, txt_list]
theorem name_mem {s : ByteArray} (h : nameOk s = true) {c : UInt8} (hc : c ∈ s.data.toList) : c ≠ 32 ∧ c ≠ 58 ∧ c ≠ 10 := by
  unfold nameOk letters at h
  rw [Bool.and_eq_true, List.all_eq_true] at h
  have := of_decide_eq_true (h.2 c hc)
  refine ⟨?_, ?_, ?_⟩ <;> (rintro rfl; revert this; decide)
theorem midB_mem {r : Rul} (h : isRule r = true) {c : UInt8} (hc : c ∈ midB r) : c ∈ WB ∨ c = 94 ∨ c = 36 := by
  obtain ⟨hf, -⟩ := rul_SOk h
  unfold midB at hc
  rcases List.mem_append.1 hc with hc | hc
  · split at hc
    · rw [List.mem_singleton] at hc; exact .inr (.inl hc)
    · cases hc
  · rcases List.mem_append.1 hc with hc | hc
    · exact .inl (stepsB_mem hf hc)
    · split at hc
      · rw [List.mem_singleton] at hc; exact .inr (.inr hc)
      · cases hc
theorem midB_ne {r : Rul} (h : isRule r = true) {c : UInt8} (hc : c ∈ midB r) : c ≠ 32 ∧ c ≠ 109 ∧ c ≠ 119 ∧ c ≠ 10 := by
  rcases midB_mem h hc with h | rfl | rfl
  · have := wb_ne h; exact ⟨this.1, this.2.2.1, this.2.2.2.1, this.2.2.2.2.2.2.2.1⟩
  · decide
  · decide
theorem egoB_mem {e : Int} {c : UInt8} (h : c ∈ egoB e) : c ≠ 32 ∧ c ≠ 10 := by
  unfold egoB at h
  split at h
  · revert c; decide
  · split at h
    · revert c; decide
    · cases h
theorem index_app {x y st : Bs} {s0 : UInt8} : (∀ c ∈ x, c ≠ s0) → Lib.index (x ++ (s0 :: st) ++ y) (s0 :: st) = x.length := by
  induction x with
  | nil =>
    intro _
    show Lib.index (s0 :: (st ++ y)) (s0 :: st) = _
    rw [Lib.index, if_pos (by simp)]
    rfl
  | cons c x ih =>
    intro h
    have ih := ih fun c hc => h c (List.mem_cons_of_mem _ hc)
    have hc := h c List.mem_cons_self
    show Lib.index (c :: (x ++ (s0 :: st) ++ y)) (s0 :: st) = _
    rw [Lib.index, if_neg (by simp; exact fun e => absurd e.symm hc), ih, if_neg (by simp)]
    rw [List.length_cons]; omega
theorem cut_app {x y st : Bs} {s0 : UInt8} (h : ∀ c ∈ x, c ≠ s0) : Lib.cut (x ++ (s0 :: st) ++ y) (s0 :: st) = (x, y, true) := by
  unfold Lib.cut
  rw [index_app h, if_pos (by omega), Int.toNat_natCast]
  have e1 : (x ++ (s0 :: st) ++ y).take x.length = x := by rw [List.append_assoc, List.take_left']; rfl
  have e2 : (x ++ (s0 :: st) ++ y).drop (x.length + (s0 :: st).length) = y := by rw [← List.length_append, List.drop_left']; rfl
  rw [e1, e2]
theorem suf_mem {w : Bs} {c : UInt8} (h : Lib.hasSuffix w [c] = true) : c ∈ w := by
  unfold Lib.hasSuffix at h
  rw [List.isSuffixOf_iff_suffix] at h
  obtain ⟨t, rfl⟩ := h
  simp
theorem suf_no {w : Bs} {c : UInt8} (h : ¬ c ∈ w) : Lib.hasSuffix w [c] = false := by
  cases e : Lib.hasSuffix w [c] with
  | false => rfl
  | true => exact absurd (suf_mem e) h
theorem suf_yes (w : Bs) (c : UInt8) : Lib.hasSuffix (w ++ [c]) [c] = true := by
  unfold Lib.hasSuffix
  rw [List.isSuffixOf_iff_suffix]
  exact ⟨w, rfl⟩
theorem pre_no {w : Bs} {c : UInt8} (h : ¬ c ∈ w) : Lib.hasPrefix w [c] = false := by
  unfold Lib.hasPrefix
  cases w with
  | nil => rfl
  | cons d w =>
    have : d ≠ c := fun e => h (by rw [e]; exact List.mem_cons_self)
    show ((c == d) && _) = false
    rw [show (c == d) = false from beq_eq_false_iff_ne.2 (Ne.symm this)]; rfl
theorem ruleI1_mid {r : Rul} (h : isRule r = true) : ruleI1 (midB r) = some (r.2.2.1, stepsB r.2.2.2.1) := by
  obtain ⟨hf, -⟩ := rul_SOk h
  obtain ⟨-, -, h3, -⟩ := isRule_facts h
  have n94 : ¬ (94 : UInt8) ∈ stepsB r.2.2.2.1 := fun hc => (wb_ne (stepsB_mem hf hc)).2.2.2.2.2.1 rfl
  have n36 : ¬ (36 : UInt8) ∈ stepsB r.2.2.2.1 := fun hc => (wb_ne (stepsB_mem hf hc)).2.2.2.2.2.2.1 rfl
  unfold midB
  rcases ag3 h3 with e | e | e <;> rw [e]
  · rw [if_neg (by decide), if_neg (by decide), List.nil_append, List.append_nil]
    unfold ruleI1
    rw [pre_no n94, suf_no n36]; rfl
  · rw [if_pos rfl, if_neg (by decide), List.append_nil]
    show ruleI1 (94 :: stepsB r.2.2.2.1) = _
    unfold ruleI1
    have e1 : Lib.hasPrefix (94 :: stepsB r.2.2.2.1) [94] = true := by simp [Lib.hasPrefix]
    rw [e1, if_pos rfl]
    show (if Lib.hasSuffix (stepsB r.2.2.2.1) [36] = true then none else some ((1 : Int), stepsB r.2.2.2.1)) = _
    rw [suf_no n36]; rfl
  · rw [if_neg (by decide), if_pos rfl, List.nil_append]
    unfold ruleI1
    rw [pre_no (fun hc => by rcases List.mem_append.1 hc with hc | hc; exact n94 hc; revert hc; decide), suf_yes, List.dropLast_concat]; rfl
theorem ruleS1_mid {r : Rul} (h : isRule r = true) : ruleS1 (midB r) = (r.2.2.1, stepsB r.2.2.2.1) := by
  obtain ⟨hf, -, hne, -⟩ := rul_SOk h
  obtain ⟨-, -, h3, -⟩ := isRule_facts h
  have n94 : ¬ (94 : UInt8) ∈ stepsB r.2.2.2.1 := fun hc => (wb_ne (stepsB_mem hf hc)).2.2.2.2.2.1 rfl
  have n36 : ¬ (36 : UInt8) ∈ stepsB r.2.2.2.1 := fun hc => (wb_ne (stepsB_mem hf hc)).2.2.2.2.2.2.1 rfl
  unfold midB
  rcases ag3 h3 with e | e | e <;> rw [e]
  · rw [if_neg (by decide), if_neg (by decide), List.nil_append, List.append_nil]
    unfold ruleS1
    rw [if_neg (fun hh => n94 (head_mem hh)), if_neg (fun hh => n36 (List.mem_of_getLast? hh))]
  · rw [if_pos rfl, if_neg (by decide), List.append_nil]
    show ruleS1 (94 :: stepsB r.2.2.2.1) = _
    unfold ruleS1
    rw [if_pos (show (94 :: stepsB r.2.2.2.1).head? = some 94 from rfl)]; rfl
  · rw [if_neg (by decide), if_pos rfl, List.nil_append]
    unfold ruleS1
    rw [if_neg (fun hh => by have hc := head_mem hh; rcases List.mem_append.1 hc with hc | hc; exact n94 hc; revert hc; decide), if_pos (by simp), List.dropLast_concat]
theorem ruleI_rule {r : Rul} (h : isRule r = true) : ruleI (ruleB r) = some r := by
  obtain ⟨hf, ht, hne, -⟩ := rul_SOk h
  obtain ⟨h1, h2, h3, -⟩ := isRule_facts h
  have c1 : Lib.cut (ruleB r) [58, 32] = (r.1.data.toList, egoB r.2.1 ++ midB r ++ [32, 45, 62, 32] ++ dotB (stepsB r.2.2.2.2), true) := cut_app fun c hc => (name_mem h1 hc).2.1
  have c2 : Lib.cut (egoB r.2.1 ++ midB r ++ [32, 45, 62, 32] ++ dotB (stepsB r.2.2.2.2)) [32, 45, 62, 32] = (egoB r.2.1 ++ midB r, dotB (stepsB r.2.2.2.2), true) := cut_app fun c hc => by
    rcases List.mem_append.1 hc with hc | hc
    · exact (egoB_mem hc).1
    · exact (midB_ne h hc).1
  have c3 : cutE (egoB r.2.1 ++ midB r) = (r.2.1, midB r) := cutE_ego h2 fun c hc => ⟨(midB_ne h (head_mem hc)).2.1, (midB_ne h (head_mem hc)).2.2.1⟩
  have c4 : (if dotB (stepsB r.2.2.2.2) = [46] then some [] else readI (dotB (stepsB r.2.2.2.2))) = some r.2.2.2.2 := by
    by_cases e : r.2.2.2.2 = []
    · rw [e]; rfl
    · rw [(dot_ne ht e).1, if_neg (dot_ne ht e).2, readI_steps ht]
  unfold ruleI
  rw [c1]
  dsimp only
  rw [c2]
  dsimp only
  rw [if_pos ⟨rfl, rfl⟩]
  unfold ruleI3
  rw [c3]
  dsimp only
  rw [ruleI1_mid h]
  show (readI (stepsB r.2.2.2.1)).bind _ = _
  rw [readI_steps hf]
  show ((if dotB (stepsB r.2.2.2.2) = [46] then some [] else readI (dotB (stepsB r.2.2.2.2)))).bind _ = _
  rw [c4]
  show (if isRule (txt r.1.data.toList, r.2.1, r.2.2.1, r.2.2.2.1, r.2.2.2.2) = true ∧ ruleTxt (txt r.1.data.toList, r.2.1, r.2.2.1, r.2.2.2.1, r.2.2.2.2) = txt (ruleB r) then some ((txt r.1.data.toList, r.2.1, r.2.2.1, r.2.2.2.1, r.2.2.2.2) : Rul) else none) = some r
  rw [show txt r.1.data.toList = r.1 from txt_list r.1]
  rw [if_pos (show isRule r = true ∧ ruleTxt r = txt (ruleB r) from ⟨h, ruleTxt_txt h⟩)]
theorem spl_no {b : UInt8} : ∀ {x : Bs}, (∀ c ∈ x, c ≠ b) → spl b x = [x]
  | [], _ => rfl
  | c :: x, h => by
    rw [spl, if_neg (h c List.mem_cons_self), spl_no fun d hd => h d (List.mem_cons_of_mem _ hd)]; rfl
theorem spl_app {b : UInt8} (y : Bs) : ∀ {x : Bs}, (∀ c ∈ x, c ≠ b) → spl b (x ++ b :: y) = x :: spl b y
  | [], _ => by simp [spl]
  | c :: x, h => by
    show spl b (c :: (x ++ b :: y)) = _
    rw [spl, if_neg (h c List.mem_cons_self), spl_app y fun d hd => h d (List.mem_cons_of_mem _ hd)]; rfl
theorem ruleS_rule {r : Rul} (h : isRule r = true) : ruleS (ruleB r) = some r := by
  obtain ⟨hf, ht, hne, hfl, htl⟩ := rul_SOk h
  obtain ⟨h1, h2, h3, -⟩ := isRule_facts h
  have c3 : cutE (egoB r.2.1 ++ midB r) = (r.2.1, midB r) := cutE_ego h2 fun c hc => ⟨(midB_ne h (head_mem hc)).2.1, (midB_ne h (head_mem hc)).2.2.1⟩
  have sp : spl 32 (ruleB r) = [r.1.data.toList ++ [58], egoB r.2.1 ++ midB r, [45, 62], dotB (stepsB r.2.2.2.2)] := by
    have e : ruleB r = (r.1.data.toList ++ [58]) ++ 32 :: ((egoB r.2.1 ++ midB r) ++ 32 :: ([45, 62] ++ 32 :: dotB (stepsB r.2.2.2.2))) := by
      unfold ruleB; simp
    rw [e, spl_app _ (fun c hc => by
      rcases List.mem_append.1 hc with hc | hc
      · exact (name_mem h1 hc).1
      · rw [List.mem_singleton] at hc; rw [hc]; decide), spl_app _ (fun c hc => by
      rcases List.mem_append.1 hc with hc | hc
      · exact (egoB_mem hc).1
      · exact (midB_ne h hc).1), spl_app _ (by decide), spl_no (fun c hc => by
      rcases dotB_mem ht hc with h | rfl
      · exact (wb_ne h).1
      · decide)]
  have hn : 1 ≤ r.1.data.toList.length := by
    unfold nameOk at h1
    simp only [Bool.and_eq_true, decide_eq_true_eq] at h1
    have := h1.1.1
    rw [← size_txt, txt_list]; exact this
  have hm : 1 ≤ (egoB r.2.1 ++ midB r).length := by
    have : 1 ≤ (stepsB r.2.2.2.1).length := by
      have := stepsB_ne hne
      cases e : stepsB r.2.2.2.1 with
      | nil => exact absurd e this
      | cons _ _ => simp
    unfold midB
    simp only [List.length_append]; omega
  unfold ruleS
  rw [sp]
  dsimp only
  unfold ruleS4
  rw [c3]
  dsimp only
  rw [ruleS1_mid h, List.dropLast_concat, txt_list]
  dsimp only
  rw [readS_word hf (by omega) hne, readS_steps ht (by omega)]
  rw [if_pos ⟨by rw [List.length_append]; show 2 ≤ _ + 1; omega, hm, h, ruleTxt_txt h⟩]
end Go.Proofs.YtdpkldapobbnpaaGreatDoor
