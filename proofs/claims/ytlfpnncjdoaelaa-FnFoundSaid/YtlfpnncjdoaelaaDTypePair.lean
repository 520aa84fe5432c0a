/- Contracts of the laws' helpers on the type TypePair: items with lists of steps. Written by deep.py. -/
import Derived.Test.YtlfpnncjdoaelaaBase
import Derived.Test.YtlfpnncjdoaelaaEnt
namespace Go.Proofs.Ytlfpnncjdoaelaa
set_option linter.unusedVariables false
set_option linter.unusedSimpArgs false
open Go.RowKit

theorem slTypePair : SlTy Try.prog 51 55 (.agg #[.int .i64 0, .slice none 0 0, .int .i64 0, .slice none 0 0]) 4 64 := SlTy.of Try.underlying51 (by kernel_rfl) rfl
theorem dTPr_inv {z : Bool} {w : World} {cs : List Value} {kae : Int} {kal : List Stp} {kbe : Int} {kbl : List Stp} {fp : List Nat} (h : Rep.rep z w cs (((kae, kal), (kbe, kbl)) : TPr) fp) : ∃ (vkal vkbl : Value) (fkal fkbl : List Nat), cs = [.int .i64 kae, vkal, .int .i64 kbe, vkbl] ∧ I64 kae ∧ I64 kbe ∧ Rep.rep z w [vkal] kal fkal ∧ Rep.rep z w [vkbl] kbl fkbl ∧ fkal ++ fkbl = fp := by
  obtain ⟨_, _, _, _, rfl, rfl, ⟨_, _, _, _, rfl, rfl, ⟨rfl, hkae, rfl⟩, hkal⟩, ⟨_, _, _, _, rfl, rfl, ⟨rfl, hkbe, rfl⟩, hkbl⟩⟩ := h
  have gkal := hkal
  obtain ⟨vkal, rfl, -⟩ := gkal
  have gkbl := hkbl
  obtain ⟨vkbl, rfl, -⟩ := gkbl
  exact ⟨vkal, vkbl, _, _, rfl, hkae, hkbe, hkal, hkbl, by simp⟩
theorem dTPr_mk {z : Bool} {w : World} {kae : Int} {kal : List Stp} {kbe : Int} {kbl : List Stp} {vkal vkbl : Value} {fkal fkbl : List Nat} (hkae : I64 kae) (hkbe : I64 kbe) (hkal : Rep.rep z w [vkal] kal fkal) (hkbl : Rep.rep z w [vkbl] kbl fkbl) : Rep.rep z w [.int .i64 kae, vkal, .int .i64 kbe, vkbl] (((kae, kal), (kbe, kbl)) : TPr) (fkal ++ fkbl) :=
  ⟨[.int .i64 kae, vkal], [.int .i64 kbe, vkbl], (fkal), (fkbl), rfl, by simp, ⟨[.int .i64 kae], [vkal], [], (fkal), rfl, by simp, ⟨rfl, hkae, rfl⟩, hkal⟩, ⟨[.int .i64 kbe], [vkbl], [], (fkbl), rfl, by simp, ⟨rfl, hkbe, rfl⟩, hkbl⟩⟩
theorem Rd.dTPr {z : Bool} {lo hi : Nat} {w : World} {cs : List Value} {kae : Int} {kal : List Stp} {kbe : Int} {kbl : List Stp} (h : Rd z lo hi w cs (((kae, kal), (kbe, kbl)) : TPr)) : ∃ (vkal vkbl : Value), cs = [.int .i64 kae, vkal, .int .i64 kbe, vkbl] ∧ I64 kae ∧ I64 kbe ∧ Rd z lo hi w [vkal] kal ∧ Rd z lo hi w [vkbl] kbl := by
  obtain ⟨fp, hr, hz⟩ := h
  obtain ⟨vkal, vkbl, fkal, fkbl, rfl, hkae, hkbe, hkal, hkbl, rfl⟩ := dTPr_inv hr
  exact ⟨vkal, vkbl, rfl, hkae, hkbe, ⟨fkal, hkal, fun b hb => hz b (by simp [hb])⟩, ⟨fkbl, hkbl, fun b hb => hz b (by simp [hb])⟩⟩
theorem Rd.dTPr_at {z : Bool} {lo hi : Nat} {w : World} {xs : List TPr} {ao : Option Addr} {n cap : Nat} (h : Rd z lo hi w [.slice ao n cap] xs) {i : Nat} (hi' : i < n) :
    ∃ (b off : Nat) (kae : Int) (kal : List Stp) (kbe : Int) (kbl : List Stp) (vkal vkbl : Value), ao = some ⟨b, off, none⟩ ∧ Hid (xs[i]? = some ((kae, kal), (kbe, kbl))) ∧ w.cell? ⟨b, off + i * 4, none⟩ = some (.int .i64 kae) ∧ w.cell? ⟨b, off + i * 4 + 1, none⟩ = some (vkal) ∧ w.cell? ⟨b, off + i * 4 + 2, none⟩ = some (.int .i64 kbe) ∧ w.cell? ⟨b, off + i * 4 + 3, none⟩ = some (vkbl) ∧ I64 kae ∧ I64 kbe ∧ Rd z lo hi w [vkal] kal ∧ Rd z lo hi w [vkbl] kbl ∧ Rd z lo hi w [.int .i64 kae, vkal, .int .i64 kbe, vkbl] (((kae, kal), (kbe, kbl)) : TPr) ∧ lo ≤ b ∧ b < hi ∧ b < w.heap.size := by
  obtain ⟨b, off, ⟨⟨kae, kal⟩, ⟨kbe, kbl⟩⟩, cs, e, hx, hr, _, g1, g2, g3, hc, hf⟩ := h.at hi'
  have hr0 := hr
  obtain ⟨vkal, vkbl, rfl, hkae, hkbe, hkal, hkbl⟩ := Rd.dTPr hr
  refine ⟨b, off, kae, kal, kbe, kbl, vkal, vkbl, e, hx, ?_, ?_, ?_, ?_, hkae, hkbe, hkal, hkbl, hr0, g1, g2, g3⟩
  · have := hc 0 (.int .i64 kae) rfl; simpa [Rep.sz, Nat.add_assoc] using this
  · have := hc 1 (vkal) rfl; simpa [Rep.sz, Nat.add_assoc] using this
  · have := hc 2 (.int .i64 kbe) rfl; simpa [Rep.sz, Nat.add_assoc] using this
  · have := hc 3 (vkbl) rfl; simpa [Rep.sz, Nat.add_assoc] using this
theorem Rd.part_ka {z : Bool} {lo hi : Nat} {w : World} {kae : Int} {kal : List Stp} {kbe : Int} {kbl : List Stp} {vkal vkbl : Value} (h : Rd z lo hi w [.int .i64 kae, vkal, .int .i64 kbe, vkbl] (((kae, kal), (kbe, kbl)) : TPr)) : Rd z lo hi w [.int .i64 kae, vkal] ((kae, kal) : Kin) := by
  obtain ⟨xkal, xkbl, e, gkae, gkbe, hkal, hkbl⟩ := Rd.dTPr h
  simp only [List.cons.injEq, and_true, true_and] at e
  obtain ⟨rfl, rfl⟩ := e
  exact Rd.kin_mk gkae hkal
theorem Rd.part_kb {z : Bool} {lo hi : Nat} {w : World} {kae : Int} {kal : List Stp} {kbe : Int} {kbl : List Stp} {vkal vkbl : Value} (h : Rd z lo hi w [.int .i64 kae, vkal, .int .i64 kbe, vkbl] (((kae, kal), (kbe, kbl)) : TPr)) : Rd z lo hi w [.int .i64 kbe, vkbl] ((kbe, kbl) : Kin) := by
  obtain ⟨xkal, xkbl, e, gkae, gkbe, hkal, hkbl⟩ := Rd.dTPr h
  simp only [List.cons.injEq, and_true, true_and] at e
  obtain ⟨rfl, rfl⟩ := e
  exact Rd.kin_mk gkbe hkbl
theorem dTPr_zero (w : World) : Rep.rep true w (Value.agg #[.int .i64 0, .slice none 0 0, .int .i64 0, .slice none 0 0]).cells.toList (((0, []), (0, [])) : TPr) [] := by
  have hz : Rep.rep true w [.slice none 0 0] ([] : List Stp) [] := ⟨_, rfl, none, 0, 0, rfl, rfl, Nat.le_refl _, by simp [maxLen], fun _ => rfl, .inl ⟨rfl, rfl⟩⟩
  exact dTPr_mk (by unfold I64; omega) (by unfold I64; omega) hz hz
def cntTPr : TPr → Nat := fun ((kae, kal), (kbe, kbl)) => 2 + 2 * kal.length + 2 * kbl.length
def szdTPr : TPr → Nat := fun ((kae, kal), (kbe, kbl)) => kal.length + kbl.length
def sszTPr (xs : List TPr) : Nat := xs.length + lenBy szdTPr xs
theorem cntTPr_le (xs : List TPr) : lenBy cntTPr xs ≤ 3 * sszTPr xs := by
  unfold sszTPr
  induction xs with
  | nil => simp [lenBy]
  | cons x xs ih =>
    obtain ⟨⟨kae, kal⟩, ⟨kbe, kbl⟩⟩ := x
    rw [lenBy, lenBy, List.length_cons]
    have : cntTPr ((kae, kal), (kbe, kbl)) ≤ 3 + 3 * szdTPr ((kae, kal), (kbe, kbl)) := by unfold cntTPr szdTPr; dsimp only; omega
    omega
def mkdTPr (k : Int) : TPr → TPr := fun ((kae, kal), (kbe, kbl)) => ((k, marksStp (k + 1) kal.length), (k + 1 + 2 * (kal.length : Nat), marksStp (k + 1 + 2 * (kal.length : Nat) + 1) kbl.length))
instance decEqLTPr : DecidableEq (List TPr) := fun a b => instDecidableEqList a b



/-- An owned item comes back. -/
def PostDTPr (w : World) (x : TPr) (e : Ending) (w' : World) : Prop := ∃ (u0 u1 u2 u3 : Value), e = .returned (.agg #[u0, u1, u2, u3]) ∧ Ow w.heap.size w'.heap.size w' [u0, u1, u2, u3] x ∧ Below w.heap.size w w'





end Go.Proofs.Ytlfpnncjdoaelaa
