/- Plain: regular systems. -/
import Derived.Test.YtlnihbhjkfhbmaaGrp2
import Derived.Test.YtlnihbhjkfhbmaaPermDef
namespace Go.Proofs.Ytlnihbhjkfhbmaa
set_option linter.unusedVariables false
set_option linter.unusedSimpArgs false
open Go.RowKit

def colI (l : Pms) (i : Nat) : List Int := l.map fun p => p.getD i 0
/-- Each of the first columns is a permutation. -/
def regTo (l : Pms) (i : Nat) : Bool := (List.range i).all fun k => isPerm (colI l k)
def isRegR (n : Nat) : Option Pms → Bool
  | none => false
  | some o => decide (o.length = n) && regTo (lsrt o) n
def isReg (c : Cls) : Bool := isCls c && isRegR c.1.length (gLoop c c.1.length (c.1.length + 2) 0 [idL c.1.length])
theorem colI_len (l : Pms) (i : Nat) : (colI l i).length = l.length := by simp [colI]
theorem regTo_succ (l : Pms) (i : Nat) : regTo l (i + 1) = (regTo l i && isPerm (colI l i)) := by
  unfold regTo
  rw [List.range_succ, List.all_append]
  simp
theorem regTo_no {l : Pms} {i n : Nat} (h : i < n) (h1 : regTo l (i + 1) = false) : regTo l n = false := by
  unfold regTo at *
  rw [List.all_eq_false] at *
  obtain ⟨k, hk, h2⟩ := h1
  exact ⟨k, List.mem_range.2 (by have := List.mem_range.1 hk; omega), h2⟩
theorem colI_drop {l : Pms} {i j : Nat} {p : List Int} {x : Int} (h : l[j]? = some p) (hx : p[i]? = some x) : (colI l i).drop j = x :: (colI l i).drop (j + 1) := by
  refine drop_cons ?_
  unfold colI
  rw [List.getElem?_map, h]
  simp [hx]
theorem gLoop_ok {c : Cls} {n : Nat} (h1 : InRange n c.1) (h2 : c.2.length = n ∧ InRange n c.2) (hl : c.1.length = n) : ∀ {most f i : Nat} {o o' : Pms}, GOk n o → o.length ≤ most → gLoop c most f i o = some o' → GOk n o' ∧ o'.length ≤ most
  | _, 0, _, _, _, _, _, h => by cases h
  | most, f + 1, i, o, o', ho, hm, h => by
    cases hq : o[i]? with
    | none =>
      rw [gLoop_none hq] at h
      obtain rfl := Option.some.inj h
      exact ⟨ho, hm⟩
    | some q =>
      by_cases hb : most < (gRound c o q).length
      · rw [gLoop_big hq hb] at h; cases h
      · rw [gLoop_go hq hb] at h
        exact gLoop_ok h1 h2 hl (ho.round ⟨hl, h1⟩ h2 (List.mem_of_getElem? hq)) (by omega) h
end Go.Proofs.Ytlnihbhjkfhbmaa
