/- Plain: the regular systems of at most four classes. -/
import Derived.Test.YtlnhhfebmeekhaaZ10E
import Derived.Test.YtlnhhfebmeekhaaZ10I
import Derived.Test.YtlnhhfebmeekhaaCan
import Derived.Test.YtlnhhfebmeekhaaSort
namespace Go.Proofs.Ytlnhhfebmeekhaa
set_option linter.unusedVariables false
set_option linter.unusedSimpArgs false
open Go.RowKit

/-- What both programs do with a system: its canonical form is put in, if it is regular and not in yet. -/
def aAdd (o : List Cls) (c : Cls) : List Cls := if isReg c = true then (if canonC c ∈ o then o else o ++ [canonC c]) else o
def aIn (x : List Int) (o : List Cls) (L : Pms) : List Cls := L.foldl (fun o q => aAdd o (x, q)) o
def aOut (P : Pms) (o : List Cls) (L : Pms) : List Cls := L.foldl (fun o x => aIn x o P) o
def aAll (n : Nat) : List Cls := aOut (perms n n) [] (perms n n)
/-- In its place among others. -/
def cins (c : Cls) : List Cls → List Cls
  | [] => [c]
  | y :: l => if lexC c y = true then c :: y :: l else y :: cins c l
def lay (s : List Cls) (c : Cls) : List Cls := if c ∈ s then s else cins c s
def sAdd (o : List Cls) (c : Cls) : List Cls := if isReg c = true then lay o (canonC c) else o
def sIn (x : List Int) (o : List Cls) (L : Pms) : List Cls := L.foldl (fun o q => sAdd o (x, q)) o
def sOut (P : Pms) (o : List Cls) (L : Pms) : List Cls := L.foldl (fun o x => sIn x o P) o
def sAll (n : Nat) : List Cls := sOut (perms n n) [] (perms n n)
theorem aAll_facts {n : Nat} (h : n ≤ 4) : (aAll n).length ≤ 12 ∧ (sAll n).Perm (aAll n) ∧ (sAll n).Pairwise (fun a b => lexC b a = false) := by
  have : n = 0 ∨ n = 1 ∨ n = 2 ∨ n = 3 ∨ n = 4 := by omega
  rcases this with rfl | rfl | rfl | rfl | rfl <;> decide +kernel
theorem aAdd_mono (o : List Cls) (c : Cls) : o.length ≤ (aAdd o c).length := by
  unfold aAdd
  split
  · split
    · exact Nat.le_refl _
    · simp
  · exact Nat.le_refl _
theorem aIn_mono (x : List Int) : ∀ (L : Pms) (o : List Cls), o.length ≤ (aIn x o L).length
  | [], o => Nat.le_refl _
  | q :: L, o => Nat.le_trans (aAdd_mono o (x, q)) (aIn_mono x L _)
theorem aOut_mono (P : Pms) : ∀ (L : Pms) (o : List Cls), o.length ≤ (aOut P o L).length
  | [], o => Nat.le_refl _
  | x :: L, o => Nat.le_trans (aIn_mono x P o) (aOut_mono P L _)
theorem cins_len (c : Cls) : ∀ s : List Cls, (cins c s).length = s.length + 1
  | [] => rfl
  | y :: l => by
    rw [cins]
    split
    · rfl
    · rw [List.length_cons, cins_len c l, List.length_cons]
theorem sAdd_mono (o : List Cls) (c : Cls) : o.length ≤ (sAdd o c).length := by
  unfold sAdd lay
  split
  · split
    · exact Nat.le_refl _
    · rw [cins_len]; omega
  · exact Nat.le_refl _
theorem sIn_mono (x : List Int) : ∀ (L : Pms) (o : List Cls), o.length ≤ (sIn x o L).length
  | [], o => Nat.le_refl _
  | q :: L, o => Nat.le_trans (sAdd_mono o (x, q)) (sIn_mono x L _)
theorem sOut_mono (P : Pms) : ∀ (L : Pms) (o : List Cls), o.length ≤ (sOut P o L).length
  | [], o => Nat.le_refl _
  | x :: L, o => Nat.le_trans (sIn_mono x P o) (sOut_mono P L _)
theorem lexC_wo : Wo lexC where
  irrefl := lexC_self
  trans x y z h1 h2 := by
    cases h3 : lexC x z with
    | true => rfl
    | false =>
      have h5 := lexC_ntrans h3 (lexC_asym h2)
      rw [h1] at h5; cases h5
  ntrans x y z h1 h2 := lexC_ntrans h1 h2
theorem asc_eqC : ∀ {a b : List Cls}, a.Perm b → a.Pairwise (fun x y => lexC y x = false) → b.Pairwise (fun x y => lexC y x = false) → a = b
  | [], b, h, _, _ => (List.Perm.nil_eq h)
  | x :: a, [], h, _, _ => absurd h.symm (by simp)
  | x :: a, y :: b, h, ha, hb => by
    rw [List.pairwise_cons] at ha hb
    have hxy : x = y := by
      by_cases e : x = y
      · exact e
      · have hx : x ∈ y :: b := h.mem_iff.1 (by simp)
        have hy : y ∈ x :: a := h.mem_iff.2 (by simp)
        have h1 : x ∈ b := by rcases List.mem_cons.1 hx with h | h; exact absurd h e; exact h
        have h2 : y ∈ a := by rcases List.mem_cons.1 hy with h | h; exact absurd h.symm e; exact h
        exact lexC_tri (hb.1 x h1) (ha.1 y h2)
    subst hxy
    rw [asc_eqC (List.Perm.cons_inv h) ha.2 hb.2]
/-- What the program sorts is what the reference lays. -/
theorem sorted_all {n : Nat} (h : n ≤ 4) {ys : List Cls} (h1 : ys.Perm (aAll n)) (h2 : ys.Pairwise fun a b => lexC b a = false) : ys = sAll n := asc_eqC (h1.trans (aAll_facts h).2.1.symm) h2 (aAll_facts h).2.2
theorem isReg_cls {c : Cls} (h : isReg c = true) : isCls c = true := by
  unfold isReg at h
  rw [Bool.and_eq_true] at h
  exact h.1
end Go.Proofs.Ytlnhhfebmeekhaa
