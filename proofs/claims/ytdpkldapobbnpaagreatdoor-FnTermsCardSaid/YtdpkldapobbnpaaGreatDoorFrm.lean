/- Plain: how rules and terminologies are written. -/
import Derived.Test.YtdpkldapobbnpaaGreatDoorFmt
import Derived.Test.YtdpkldapobbnpaaGreatDoorEnt
namespace Go.Proofs.YtdpkldapobbnpaaGreatDoor
set_option linter.unusedVariables false
set_option linter.unusedSimpArgs false
open Go.RowKit
def ruleT1 (r : Rul) : ByteArray := r.1 ++ ⟨#[58, 32]⟩ ++ egoTxt r.2.1
def ruleT2 (r : Rul) : ByteArray := if r.2.2.1 = 1 then ruleT1 r ++ ⟨#[94]⟩ else ruleT1 r
def ruleT3 (r : Rul) : ByteArray := ruleT2 r ++ stepsT r.2.2.2.1
def ruleT4 (r : Rul) : ByteArray := if r.2.2.1 = 2 then ruleT3 r ++ ⟨#[36]⟩ else ruleT3 r
def ruleTxt (r : Rul) : ByteArray := if isRule r = true then ruleT4 r ++ ⟨#[32, 45, 62, 32]⟩ ++ dotT (stepsT r.2.2.2.2) else ⟨#[]⟩
def ruleLn (r : Rul) : ByteArray := (⟨#[114, 117, 108, 101, 32]⟩ : ByteArray) ++ ruleTxt r ++ ⟨#[10]⟩
def entLn (e : Ent) : ByteArray := (⟨#[116, 101, 114, 109, 32]⟩ : ByteArray) ++ kinTxt e.1 ++ ⟨#[32]⟩ ++ e.2 ++ ⟨#[10]⟩
def rulesT (rs : List Rul) (o : ByteArray) : ByteArray := rs.foldl (fun o r => o ++ ruleLn r) o
def entsT (es : List Ent) (o : ByteArray) : ByteArray := es.foldl (fun o e => o ++ entLn e) o
def trmTxt (y : Trm) : ByteArray := if isTerm y = true then entsT y.2 (rulesT y.1 ⟨#[]⟩) else ⟨#[]⟩
theorem name_size {s : ByteArray} (h : nameOk s = true) : s.size ≤ 12 := by
 unfold nameOk at h
 simp only [Bool.and_eq_true, decide_eq_true_eq] at h
 have := h.1
 omega
theorem ruleT1_size {r : Rul} (h : nameOk r.1 = true) : (ruleT1 r).size ≤ 16 := by
 have h1 := name_size h
 have h2 := egoTxt_size r.2.1
 have h3 : (⟨#[58, 32]⟩ : ByteArray).size = 2 := rfl
 unfold ruleT1
 rw [ByteArray.size_append, ByteArray.size_append, h3]
 omega
theorem ruleT2_size {r : Rul} (h : nameOk r.1 = true) : (ruleT2 r).size ≤ 17 := by
 have h1 := ruleT1_size h
 have h3 : (⟨#[94]⟩ : ByteArray).size = 1 := rfl
 unfold ruleT2
 split
 ·rw [ByteArray.size_append, h3]; omega
 ·omega
theorem ruleT3_size {r : Rul} (h : isRule r = true) : (ruleT3 r).size ≤ 25 := by
 have hf := isRule_facts h
 have h1 := ruleT2_size hf.1
 have h2 := stepsT_size _ (rule_steps h).1
 unfold ruleT3
 rw [ByteArray.size_append]
 have := hf.2.2.2.1
 omega
theorem ruleT4_size {r : Rul} (h : isRule r = true) : (ruleT4 r).size ≤ 26 := by
 have h1 := ruleT3_size h
 have h3 : (⟨#[36]⟩ : ByteArray).size = 1 := rfl
 unfold ruleT4
 split
 ·rw [ByteArray.size_append, h3]; omega
 ·omega
theorem ruleTo_size {r : Rul} (h : isRule r = true) : (dotT (stepsT r.2.2.2.2)).size ≤ 9 := by
 have h1 := stepsT_size _ (rule_steps h).2.1
 have h2 := (rule_steps h).2.2
 have h3 := dotT_size (stepsT r.2.2.2.2)
 omega
theorem ruleTxt_size (r : Rul) : (ruleTxt r).size ≤ 40 := by
 unfold ruleTxt
 split
 ·rename_i h
  have h1 := ruleT4_size h
  have h2 := ruleTo_size h
  have h3 : (⟨#[32, 45, 62, 32]⟩ : ByteArray).size = 4 := rfl
  rw [ByteArray.size_append, ByteArray.size_append, h3]
  omega
 ·exact Nat.zero_le _
theorem ruleLn_size (r : Rul) : (ruleLn r).size ≤ 46 := by
 have h := ruleTxt_size r
 have h1 : (⟨#[114, 117, 108, 101, 32]⟩ : ByteArray).size = 5 := rfl
 have h2 : (⟨#[10]⟩ : ByteArray).size = 1 := rfl
 unfold ruleLn
 rw [ByteArray.size_append, ByteArray.size_append, h1, h2]
 omega
theorem entLn_size {e : Ent} (hn : nameOk e.2 = true) : (entLn e).size ≤ 39 := by
 have h := kinTxt_size e.1
 have h0 := name_size hn
 have h1 : (⟨#[116, 101, 114, 109, 32]⟩ : ByteArray).size = 5 := rfl
 have h2 : (⟨#[10]⟩ : ByteArray).size = 1 := rfl
 have h3 : (⟨#[32]⟩ : ByteArray).size = 1 := rfl
 unfold entLn
 rw [ByteArray.size_append, ByteArray.size_append, ByteArray.size_append, ByteArray.size_append, h1, h2, h3]
 omega
theorem rulesT_size : ∀ (rs : List Rul) (o : ByteArray), (rulesT rs o).size ≤ o.size + 46 * rs.length
 | [], o => Nat.le_refl _
 | r :: rs, o => by
   have h1 := rulesT_size rs (o ++ ruleLn r)
   have h2 := ruleLn_size r
   rw [ByteArray.size_append] at h1
   have e : rulesT (r :: rs) o = rulesT rs (o ++ ruleLn r) := rfl
   rw [e, List.length_cons]
   omega
theorem entsT_size : ∀ (es : List Ent) (o : ByteArray), (∀ e ∈ es, nameOk e.2 = true) → (entsT es o).size ≤ o.size + 39 * es.length
 | [], o, _ => Nat.le_refl _
 | x :: es, o, h => by
   have h1 := entsT_size es (o ++ entLn x) (fun e he => h e (List.mem_cons_of_mem _ he))
   have h2 := entLn_size (h x (by simp))
   rw [ByteArray.size_append] at h1
   have e : entsT (x :: es) o = entsT es (o ++ entLn x) := rfl
   rw [e, List.length_cons]
   omega
theorem rulesT_snoc (rs : List Rul) (o : ByteArray) (r : Rul) : rulesT (rs ++ [r]) o = rulesT rs o ++ ruleLn r := by
 unfold rulesT; rw [List.foldl_append]; rfl
theorem entsT_snoc (es : List Ent) (o : ByteArray) (e : Ent) : entsT (es ++ [e]) o = entsT es o ++ entLn e := by
 unfold entsT; rw [List.foldl_append]; rfl
theorem stepsT_ne {l : List Stp} (h : l ≠ []) (hk : SOk l) : ¬ stepsT l = ⟨#[]⟩ := by
 obtain ⟨a, s, rfl⟩ : ∃ a s, l = a ++ [s] := ⟨l.dropLast, l.getLast h, (List.dropLast_concat_getLast h).symm⟩
 intro e
 have h1 := congrArg ByteArray.size e
 rw [stepsT_snoc, ByteArray.size_append, stTxt, ByteArray.size_append, (kTxt_at (hk s (by simp)).1).2] at h1
 have h2 : (⟨#[]⟩ : ByteArray).size = 0 := rfl
 omega
theorem dot_steps {l : List Stp} (h : 1 ≤ l.length) (hk : SOk l) : dotT (stepsT l) = stepsT l := by
 unfold dotT
 rw [if_neg (stepsT_ne (by intro e; rw [e] at h; simp at h) hk)]
end Go.Proofs.YtdpkldapobbnpaaGreatDoor
