/- Plain: what the library's stable sort does to a row, swap by swap. -/
import Derived.Test.YtoipdgoejichbaaSortK
namespace Go.Proofs.Ytoipdgoejichbaa
set_option linter.unusedVariables false
set_option linter.unusedSimpArgs false
open Go.RowKit

section
variable {α : Type} [Inhabited α]
/-- swapRange: n swaps, from the i-th on. -/
def swr (a b : Nat) : Nat → Nat → Array α → Array α
  | 0, _, d => d
  | n + 1, i, d => swr a b n (i + 1) (Sort.swp d (a + i) (b + i))
/-- rotate. -/
def rot (m : Nat) : Nat → Nat → Nat → Array α → Array α
  | 0, _, _, d => d
  | f + 1, i, j, d => if i = j then swr (m - i) m i 0 d else if j < i then rot m f (i - j) j (swr (m - i) m j 0 d) else rot m f i (j - i) (swr (m - i) (m + j - i) i 0 d)
variable (lt : α → α → Bool)
/-- The three searches by halves. -/
def bs1 (d : Array α) (a : Nat) : Nat → Nat → Nat → Nat
  | 0, i, _ => i
  | f + 1, i, j => if i < j then (if lt d[(i + j) / 2]! d[a]! = true then bs1 d a f ((i + j) / 2 + 1) j else bs1 d a f i ((i + j) / 2)) else i
def bs2 (d : Array α) (m : Nat) : Nat → Nat → Nat → Nat
  | 0, i, _ => i
  | f + 1, i, j => if i < j then (if lt d[m]! d[(i + j) / 2]! = true then bs2 d m f i ((i + j) / 2) else bs2 d m f ((i + j) / 2 + 1) j) else i
def bs3 (d : Array α) (p : Nat) : Nat → Nat → Nat → Nat
  | 0, i, _ => i
  | f + 1, i, j => if i < j then (if lt d[p - (i + j) / 2]! d[(i + j) / 2]! = true then bs3 d p f i ((i + j) / 2) else bs3 d p f ((i + j) / 2 + 1) j) else i
/-- data[k] goes up n places. -/
def upS : Nat → Nat → Array α → Array α
  | 0, _, d => d
  | n + 1, k, d => upS n (k + 1) (Sort.swp d k (k + 1))
/-- data[k] goes down n places. -/
def downS : Nat → Nat → Array α → Array α
  | 0, _, d => d
  | n + 1, k, d => downS n (k - 1) (Sort.swp d k (k - 1))
/-- symMerge. -/
def symM : Nat → Nat → Nat → Nat → Array α → Array α
  | 0, _, _, _, d => d
  | f + 1, a, m, b, d =>
    if m - a = 1 then upS (bs1 lt d a (b - m) m b - 1 - a) a d
    else if b - m = 1 then downS (m - bs2 lt d m (m - a) a m) m d
    else
      let mid := (a + b) / 2
      let n := mid + m
      let st := if mid < m then bs3 lt d (n - 1) (b - a) (n - b) mid else bs3 lt d (n - 1) (b - a) a m
      let en := n - st
      let d1 := if st < m ∧ m < en then rot m (en - st) (m - st) (en - m) d else d
      let d2 := if a < st ∧ st < mid then symM f a st mid d1 else d1
      if mid < en ∧ en < b then symM f mid en b d2 else d2
def insB (n : Nat) : Nat → Nat → Array α → Array α
  | 0, a, d => Sort.insertionSort lt d a n
  | f + 1, a, d => if a + 20 ≤ n then insB n f (a + 20) (Sort.insertionSort lt d a (a + 20)) else Sort.insertionSort lt d a n
def mrg (n bs : Nat) : Nat → Nat → Array α → Array α
  | 0, _, d => d
  | f + 1, a, d => if a + 2 * bs ≤ n then mrg n bs f (a + 2 * bs) (symM lt n a (a + bs) (a + 2 * bs) d) else if a + bs < n then symM lt n a (a + bs) n d else d
def pas (n : Nat) : Nat → Nat → Array α → Array α
  | 0, _, d => d
  | f + 1, bs, d => if bs < n then pas n f (2 * bs) (mrg lt n bs (n + 1) 0 d) else d
def stableA (n : Nat) (d : Array α) : Array α := pas lt n n 20 (insB lt n n 0 d)

/-! ### What is kept: the size, and which items there are. -/
theorem swp_perm (d : Array α) (i j : Nat) (hi : i < d.size) (hj : j < d.size) : (Sort.swp d i j).toList.Perm d.toList := by
  have h := Sort.swp_permIn (α := α)
  obtain ⟨h1, h2, h3⟩ := h d 0 d.size i j (Nat.zero_le _) hi (Nat.zero_le _) hj (Nat.le_refl _)
  have e1 : (Sort.swp d i j).extract 0 d.size = Sort.swp d i j := Array.extract_eq_self_of_le (by rw [Sort.size_swp]; exact Nat.le_refl _)
  have e2 : d.extract 0 d.size = d := Array.extract_eq_self_of_le (Nat.le_refl _)
  rw [e1, e2] at h3
  simpa using h3
end
end Go.Proofs.Ytoipdgoejichbaa
