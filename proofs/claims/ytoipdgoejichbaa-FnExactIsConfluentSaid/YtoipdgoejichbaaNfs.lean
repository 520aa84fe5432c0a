/- Plain: the normal forms that are reached; a type in its place. Contract of spec.l4Put. -/
import Derived.Test.YtoipdgoejichbaaRedS
import Derived.Test.YtoipdgoejichbaaCmp
import Derived.Test.YtoipdgoejichbaaFmtJ
import Derived.Test.YtoipdgoejichbaaRdsK
namespace Go.Proofs.Ytoipdgoejichbaa
set_option linter.unusedVariables false
set_option linter.unusedSimpArgs false
open Go.RowKit

def nAdd (o : List Kin) (u : Kin) : List Kin := if u ∈ o then o else o ++ [u]
def nAll (o next : List Kin) : List Kin := next.foldl nAdd o
/-- From the place i on: all forms without reducts; none if too many types are met. -/
def nfB (rs : List Rul) (most : Nat) : Nat → Nat → List Kin → List Kin → Option (List Kin)
  | 0, _, _, _ => none
  | f + 1, i, o, out => match o[i]? with
    | some t => if most < (nAll o (redL rs t)).length then none else nfB rs most f (i + 1) (nAll o (redL rs t)) (if redL rs t = [] then out ++ [t] else out)
    | none => some out
theorem nfB_end {rs : List Rul} {most f i : Nat} {o out : List Kin} (h : o[i]? = none) : nfB rs most (f + 1) i o out = some out := by rw [nfB, h]
theorem nfB_big {rs : List Rul} {most f i : Nat} {o out : List Kin} {t : Kin} (h : o[i]? = some t) (hb : most < (nAll o (redL rs t)).length) : nfB rs most (f + 1) i o out = none := by rw [nfB, h]; exact if_pos hb
theorem nfB_go {rs : List Rul} {most f i : Nat} {o out : List Kin} {t : Kin} (h : o[i]? = some t) (hb : ¬ most < (nAll o (redL rs t)).length) : nfB rs most (f + 1) i o out = nfB rs most f (i + 1) (nAll o (redL rs t)) (if redL rs t = [] then out ++ [t] else out) := by rw [nfB, h]; exact if_neg hb
theorem nAll_step {o next : List Kin} {j : Nat} {u : Kin} (h : next[j]? = some u) : nAll o (next.take (j + 1)) = nAdd (nAll o (next.take j)) u := by
  unfold nAll; rw [take_snoc h, List.foldl_append]; rfl
theorem nAdd_len (o : List Kin) (u : Kin) : o.length ≤ (nAdd o u).length ∧ (nAdd o u).length ≤ o.length + 1 := by
  unfold nAdd
  split
  · omega
  · rw [List.length_append]; simp
theorem nAll_len : ∀ (next o : List Kin), o.length ≤ (nAll o next).length ∧ (nAll o next).length ≤ o.length + next.length
  | [], o => ⟨Nat.le_refl _, Nat.le_refl _⟩
  | u :: next, o => by
    have h1 := nAdd_len o u
    have h2 := nAll_len next (nAdd o u)
    have e : nAll o (u :: next) = nAll (nAdd o u) next := rfl
    rw [e, List.length_cons]; omega
theorem nAll_pre : ∀ (next o : List Kin) {i : Nat} {t : Kin}, o[i]? = some t → (nAll o next)[i]? = some t
  | [], _, _, _, h => h
  | u :: next, o, i, t, h => nAll_pre next (nAdd o u) (by
      unfold nAdd
      split
      · exact h
      · rw [List.getElem?_append_left (List.getElem?_eq_some_iff.1 h).1]; exact h)
theorem nAll_mem : ∀ {next o : List Kin} {t : Kin}, t ∈ nAll o next ↔ t ∈ o ∨ t ∈ next
  | [], o, t => by simp [nAll]
  | u :: next, o, t => by
    have e : nAll o (u :: next) = nAll (nAdd o u) next := rfl
    rw [e, nAll_mem (next := next), List.mem_cons]
    unfold nAdd
    split
    · rename_i h
      constructor
      · rintro (h1 | h1)
        · exact .inl h1
        · exact .inr (.inr h1)
      · rintro (h1 | rfl | h1)
        · exact .inl h1
        · exact .inl h
        · exact .inr h1
    · rw [List.mem_append, List.mem_singleton]
      constructor
      · rintro ((h1 | h1) | h1)
        · exact .inl h1
        · exact .inr (.inl h1)
        · exact .inr (.inr h1)
      · rintro (h1 | h1 | h1)
        · exact .inl (.inl h1)
        · exact .inl (.inr h1)
        · exact .inr h1
/-- A type in its place. -/
def kins (t : Kin) : List Kin → List Kin
  | [] => [t]
  | u :: l => if beforeS t.2 u.2 = true then t :: u :: l else u :: kins t l
def ksrt (o : List Kin) : List Kin := o.foldl (fun s t => kins t s) []
theorem kins_len (t : Kin) : ∀ s : List Kin, (kins t s).length = s.length + 1
  | [] => rfl
  | y :: l => by
    rw [kins]
    split
    · rfl
    · rw [List.length_cons, kins_len t l, List.length_cons]
theorem ksrt_snoc (o : List Kin) (t : Kin) : ksrt (o ++ [t]) = kins t (ksrt o) := by unfold ksrt; rw [List.foldl_append]; rfl
theorem foldk_len : ∀ (o s : List Kin), (o.foldl (fun s t => kins t s) s).length = s.length + o.length
  | [], _ => rfl
  | t :: o, s => by rw [List.foldl_cons, foldk_len o, kins_len, List.length_cons]; omega
theorem ksrt_len (o : List Kin) : (ksrt o).length = o.length := by unfold ksrt; rw [foldk_len]; simp
def kB (t u : Kin) : Bool := beforeS t.2 u.2
theorem kins_none {t : Kin} : ∀ {l : List Kin}, l.any (kB t) = false → kins t l = l ++ [t]
  | [], _ => rfl
  | y :: l, h => by
    rw [List.any_cons, Bool.or_eq_false_iff] at h
    rw [kins, if_neg (by show ¬ kB t y = true; rw [h.1]; simp), kins_none h.2]; rfl
theorem kins_any {t y : Kin} : ∀ {l : List Kin}, l.any (kB t) = true → kins t (l ++ [y]) = kins t l ++ [y]
  | [], h => by cases h
  | x :: l, h => by
    rw [List.cons_append, kins, kins]
    split
    · rfl
    · rename_i hx
      rw [List.any_cons, Bool.or_eq_true] at h
      rw [kins_any (h.resolve_left hx)]; rfl
theorem kins_first {t y : Kin} (hy : kB t y = true) : ∀ {l : List Kin}, l.any (kB t) = false → kins t (l ++ [y]) = l ++ [t] ++ [y]
  | [], _ => by rw [List.nil_append, kins]; exact if_pos hy
  | x :: l, h => by
    rw [List.any_cons, Bool.or_eq_false_iff] at h
    rw [List.cons_append, kins, if_neg (by show ¬ kB t x = true; rw [h.1]; simp), kins_first hy h.2]; rfl
/-- What l4Put holds on the way. -/
def putO (t : Kin) (l : List Kin) : List Kin := if l.any (kB t) = true then kins t l else l
theorem putO_step {t y : Kin} {s : List Kin} {i : Nat} (h : s[i]? = some y) (d b : Bool) (hd : d = (s.take i).any (kB t)) (hb : b = kB t y) :
    (d || b) = (s.take (i + 1)).any (kB t) ∧ putO t (s.take (i + 1)) = (if (!d && b) = true then putO t (s.take i) ++ [t] else putO t (s.take i)) ++ [y] := by
  have ha : (s.take (i + 1)).any (kB t) = (d || b) := by rw [take_snoc h, List.any_append, hd, hb]; simp
  refine ⟨ha.symm, ?_⟩
  unfold putO
  rw [ha, ← hd, take_snoc h]
  cases d with
  | true => simp only [Bool.true_or, Bool.not_true, Bool.false_and]; exact kins_any hd.symm
  | false =>
    cases b with
    | true => simp only [Bool.false_or, Bool.not_false, Bool.true_and]; exact kins_first hb.symm hd.symm
    | false => rfl
theorem putO_end {t : Kin} {s : List Kin} (d : Bool) (hd : d = s.any (kB t)) : kins t s = if d = true then putO t s else putO t s ++ [t] := by
  unfold putO
  rw [← hd]
  cases d with
  | true => rfl
  | false => exact kins_none hd.symm
theorem putO_len (t : Kin) (l : List Kin) : (putO t l).length ≤ l.length + 1 := by
  unfold putO
  split
  · rw [kins_len]; exact Nat.le_refl _
  · omega
theorem put_d1 : ∀ {d b : Bool}, false = (!d && b) → (d || b) = d := by decide
theorem put_d2 : ∀ {d b : Bool}, true = (!d && b) → (d || b) = true := by decide
theorem cells_newK (w : World) (u v : Value) (t : TypeId) : ∀ (j : Nat) (c : Value), [u, v][j]? = some c → (w.alloc (.cells #[u, v] t)).cell? ((⟨w.heap.size, 0, none⟩ : Addr).add j) = some c := by
  intro j c hj
  match j, hj with
  | 0, hj => simp at hj; subst hj; simp [Addr.add]
  | 1, hj => simp at hj; subst hj; simp [Addr.add]
/-- One value comes back that takes of memory what S lets, or what is new. -/
def PostRdsK {α : Type} [Rep α] (S : Nat → Prop) (w : World) (x : α) (e : Ending) (w' : World) : Prop := ∃ u, e = .returned u ∧ RdS (fun b => S b ∨ w.heap.size ≤ b) w' [u] x ∧ Below w.heap.size w w'
end Go.Proofs.Ytoipdgoejichbaa
