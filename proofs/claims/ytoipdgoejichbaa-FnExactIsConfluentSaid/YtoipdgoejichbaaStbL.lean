/- Plain: the library's stable sort permutes. -/
import Derived.Test.YtoipdgoejichbaaStf
namespace Go.Proofs.Ytoipdgoejichbaa
set_option linter.unusedVariables false
set_option linter.unusedSimpArgs false
open Go.RowKit

theorem perm_ite {α : Type} {c : Prop} [Decidable c] {x y d : Array α} (h1 : c → x.toList.Perm d.toList) (h2 : ¬ c → y.toList.Perm d.toList) : (if c then x else y).toList.Perm d.toList := by
  split
  · exact h1 ‹_›
  · exact h2 ‹_›
section
variable {α : Type} [Inhabited α]
theorem swr_perm (a b : Nat) : ∀ (n i : Nat) (d : Array α), a + i + n ≤ d.size → b + i + n ≤ d.size → (swr a b n i d).toList.Perm d.toList
  | 0, _, _, _, _ => List.Perm.refl _
  | n + 1, i, d, h1, h2 => by
    rw [swr]
    exact (swr_perm a b n (i + 1) _ (by rw [Sort.size_swp]; omega) (by rw [Sort.size_swp]; omega)).trans (swp_perm d _ _ (by omega) (by omega))
theorem rot_perm (m : Nat) : ∀ (f i j : Nat) (d : Array α), i ≤ m → m + j ≤ d.size → (rot m f i j d).toList.Perm d.toList
  | 0, _, _, _, _, _ => List.Perm.refl _
  | f + 1, i, j, d, h1, h2 => by
    rw [rot]
    split
    · exact swr_perm _ _ _ _ _ (by omega) (by omega)
    · split
      · exact (rot_perm m f _ _ _ (by omega) (by rw [swr_size]; omega)).trans (swr_perm _ _ _ _ _ (by omega) (by omega))
      · exact (rot_perm m f _ _ _ (by omega) (by rw [swr_size]; omega)).trans (swr_perm _ _ _ _ _ (by omega) (by omega))
theorem up_perm : ∀ (n k : Nat) (d : Array α), k + n < d.size → (upS n k d).toList.Perm d.toList
  | 0, _, _, _ => List.Perm.refl _
  | n + 1, k, d, h => by
    rw [upS]
    exact (up_perm n (k + 1) _ (by rw [Sort.size_swp]; omega)).trans (swp_perm d _ _ (by omega) (by omega))
theorem down_perm : ∀ (n k : Nat) (d : Array α), k < d.size → (downS n k d).toList.Perm d.toList
  | 0, _, _, _ => List.Perm.refl _
  | n + 1, k, d, h => by
    rw [downS]
    exact (down_perm n (k - 1) _ (by rw [Sort.size_swp]; omega)).trans (swp_perm d _ _ (by omega) (by omega))
variable (lt : α → α → Bool)
theorem bs1_in (d : Array α) (a : Nat) : ∀ (f i j : Nat), i ≤ j → i ≤ bs1 lt d a f i j ∧ bs1 lt d a f i j ≤ j
  | 0, i, j, h => ⟨Nat.le_refl _, h⟩
  | f + 1, i, j, h => by
    rw [bs1]
    split
    · split
      · have := bs1_in d a f ((i + j) / 2 + 1) j (by omega); omega
      · have := bs1_in d a f i ((i + j) / 2) (by omega); omega
    · omega
theorem bs3_in (d : Array α) (p : Nat) : ∀ (f i j : Nat), i ≤ j → i ≤ bs3 lt d p f i j ∧ bs3 lt d p f i j ≤ j
  | 0, i, j, h => ⟨Nat.le_refl _, h⟩
  | f + 1, i, j, h => by
    rw [bs3]
    split
    · split
      · have := bs3_in d p f i ((i + j) / 2) (by omega); omega
      · have := bs3_in d p f ((i + j) / 2 + 1) j (by omega); omega
    · omega
theorem sym_perm : ∀ (f a m b : Nat) (d : Array α), a < m → m < b → b ≤ d.size → (symM lt f a m b d).toList.Perm d.toList
  | 0, _, _, _, _, _, _, _ => List.Perm.refl _
  | f + 1, a, m, b, d, h1, h2, h3 => by
    rw [symM]
    refine perm_ite (fun e => ?_) fun e => perm_ite (fun e2 => down_perm _ _ _ (by omega)) fun e2 => ?_
    · have := bs1_in lt d a (b - m) m b (by omega)
      exact up_perm _ _ _ (by omega)
    · simp only
      generalize hs : (if (a + b) / 2 < m then bs3 lt d ((a + b) / 2 + m - 1) (b - a) ((a + b) / 2 + m - b) ((a + b) / 2) else bs3 lt d ((a + b) / 2 + m - 1) (b - a) a m) = st
      have hb : a ≤ st ∧ (a + b) / 2 + m - st ≤ b := by
        rw [← hs]
        split
        · have := bs3_in lt d ((a + b) / 2 + m - 1) (b - a) ((a + b) / 2 + m - b) ((a + b) / 2) (by omega); omega
        · have := bs3_in lt d ((a + b) / 2 + m - 1) (b - a) a m (by omega); omega
      have p1 : (if st < m ∧ m < (a + b) / 2 + m - st then rot m ((a + b) / 2 + m - st - st) (m - st) ((a + b) / 2 + m - st - m) d else d).toList.Perm d.toList :=
        perm_ite (fun _ => rot_perm _ _ _ _ _ (by omega) (by omega)) fun _ => List.Perm.refl _
      have s1 : (if st < m ∧ m < (a + b) / 2 + m - st then rot m ((a + b) / 2 + m - st - st) (m - st) ((a + b) / 2 + m - st - m) d else d).size = d.size := ite_size (rot_size ..) rfl
      generalize (if st < m ∧ m < (a + b) / 2 + m - st then rot m ((a + b) / 2 + m - st - st) (m - st) ((a + b) / 2 + m - st - m) d else d) = D1 at p1 s1 ⊢
      have p2 : (if a < st ∧ st < (a + b) / 2 then symM lt f a st ((a + b) / 2) D1 else D1).toList.Perm d.toList :=
        perm_ite (fun h => (sym_perm f _ _ _ _ h.1 h.2 (by omega)).trans p1) fun _ => p1
      have s2 : (if a < st ∧ st < (a + b) / 2 then symM lt f a st ((a + b) / 2) D1 else D1).size = d.size := ite_size (by rw [sym_size]; exact s1) s1
      generalize (if a < st ∧ st < (a + b) / 2 then symM lt f a st ((a + b) / 2) D1 else D1) = D2 at p2 s2 ⊢
      exact perm_ite (fun h => (sym_perm f _ _ _ _ h.1 h.2 (by omega)).trans p2) fun _ => p2
theorem insInner_perm (a : Nat) : ∀ (j : Nat) (d : Array α), j < d.size → (Sort.insInner lt a j d).toList.Perm d.toList
  | 0, d, _ => by rw [Sort.insInner]
  | j + 1, d, h => by
    rw [Sort.insInner]
    split
    · exact (insInner_perm a j _ (by rw [Sort.size_swp]; omega)).trans (swp_perm d _ _ (by omega) (by omega))
    · exact List.Perm.refl _
theorem insOuter_perm (a b : Nat) : ∀ (c i : Nat) (d : Array α), b - i ≤ c → b ≤ d.size → (Sort.insOuter lt a b i d).toList.Perm d.toList
  | 0, i, d, h, _ => by rw [Sort.insOuter, if_neg (by omega)]
  | c + 1, i, d, h, h2 => by
    rw [Sort.insOuter]
    split
    · exact (insOuter_perm a b c (i + 1) _ (by omega) (by rw [insInner_size]; exact h2)).trans (insInner_perm lt a i d (by omega))
    · exact List.Perm.refl _
theorem ins_perm (d : Array α) (a b : Nat) (h : b ≤ d.size) : (Sort.insertionSort lt d a b).toList.Perm d.toList := insOuter_perm lt a b _ _ d (Nat.le_refl _) h
theorem insB_perm (n : Nat) : ∀ (f a : Nat) (d : Array α), d.size = n → (insB lt n f a d).toList.Perm d.toList
  | 0, a, d, h => ins_perm lt d a n (by omega)
  | f + 1, a, d, h => by
    rw [insB]
    split
    · exact (insB_perm n f _ _ (by rw [ins_size]; exact h)).trans (ins_perm lt d _ _ (by omega))
    · exact ins_perm lt d a n (by omega)
theorem mrg_perm (n bs : Nat) (hbs : 1 ≤ bs) : ∀ (f a : Nat) (d : Array α), d.size = n → (mrg lt n bs f a d).toList.Perm d.toList
  | 0, _, _, _ => List.Perm.refl _
  | f + 1, a, d, h => by
    rw [mrg]
    refine perm_ite (fun e => ?_) fun e => perm_ite (fun e2 => sym_perm lt _ _ _ _ _ (by omega) e2 (by omega)) fun _ => List.Perm.refl _
    exact (mrg_perm n bs hbs f _ _ (by rw [sym_size]; exact h)).trans (sym_perm lt _ _ _ _ _ (by omega) (by omega) (by omega))
theorem pas_perm (n : Nat) : ∀ (f bs : Nat) (d : Array α), 1 ≤ bs → d.size = n → (pas lt n f bs d).toList.Perm d.toList
  | 0, _, _, _, _ => List.Perm.refl _
  | f + 1, bs, d, hb, h => by
    rw [pas]
    split
    · exact (pas_perm n f _ _ (by omega) (by rw [mrg_size]; exact h)).trans (mrg_perm lt n bs hb _ _ d h)
    · exact List.Perm.refl _
theorem stable_perm (n : Nat) (d : Array α) (h : d.size = n) : (stableA lt n d).toList.Perm d.toList :=
  (pas_perm lt n n 20 _ (by omega) (by rw [insB_size]; exact h)).trans (insB_perm lt n n 0 d h)
theorem pas_size (n : Nat) : ∀ (f bs : Nat) (d : Array α), (pas lt n f bs d).size = d.size
  | 0, _, _ => rfl
  | f + 1, bs, d => by
    rw [pas]
    split
    · rw [pas_size n f, mrg_size]
    · rfl
theorem stable_size (n : Nat) (d : Array α) : (stableA lt n d).size = d.size := by
  unfold stableA; rw [pas_size, insB_size]
end
end Go.Proofs.Ytoipdgoejichbaa
