/- Contracts of the laws' helpers on the type Entry: items with lists of steps. Written by deep.py. -/
import Derived.Test.YtdpkldapobbnpaaGreatDoorBase
import Derived.Test.YtdpkldapobbnpaaGreatDoorEnt
namespace Go.Proofs.YtdpkldapobbnpaaGreatDoor
set_option linter.unusedVariables false
set_option linter.unusedSimpArgs false
open Go.RowKit
theorem slEntry : SlTy Tryz.prog 23 43 (.agg #[.int .i64 0, .slice none 0 0, .string ByteArray.empty]) 3 48 := SlTy.of Tryz.underlying23 (by kernel_rfl) rfl
theorem dEnt_inv {z : Bool} {w : World} {cs : List Value} {tye : Int} {tyl : List Stp} {tm : ByteArray} {fp : List Nat} (h : Rep.rep z w cs (((tye, tyl), tm) : Ent) fp) : ∃ (vtyl : Value) (ftyl : List Nat), cs = [.int .i64 tye, vtyl, .string tm] ∧ I64 tye ∧ tm.size ≤ maxLen ∧ Rep.rep z w [vtyl] tyl ftyl ∧ ftyl = fp := by
 obtain ⟨_, _, _, _, rfl, rfl, ⟨_, _, _, _, rfl, rfl, ⟨rfl, htye, rfl⟩, htyl⟩, ⟨rfl, htm, rfl⟩⟩ := h
 have gtyl := htyl
 obtain ⟨vtyl, rfl, -⟩ := gtyl
 exact ⟨vtyl, _, rfl, htye, htm, htyl, by simp⟩
theorem dEnt_mk {z : Bool} {w : World} {tye : Int} {tyl : List Stp} {tm : ByteArray} {vtyl : Value} {ftyl : List Nat} (htye : I64 tye) (htm : tm.size ≤ maxLen) (htyl : Rep.rep z w [vtyl] tyl ftyl) : Rep.rep z w [.int .i64 tye, vtyl, .string tm] (((tye, tyl), tm) : Ent) (ftyl) :=
 ⟨[.int .i64 tye, vtyl], [.string tm], (ftyl), [], rfl, by simp, ⟨[.int .i64 tye], [vtyl], [], (ftyl), rfl, by simp, ⟨rfl, htye, rfl⟩, htyl⟩, ⟨rfl, htm, rfl⟩⟩
theorem Rd.dEnt {z : Bool} {lo hi : Nat} {w : World} {cs : List Value} {tye : Int} {tyl : List Stp} {tm : ByteArray} (h : Rd z lo hi w cs (((tye, tyl), tm) : Ent)) : ∃ (vtyl : Value), cs = [.int .i64 tye, vtyl, .string tm] ∧ I64 tye ∧ tm.size ≤ maxLen ∧ Rd z lo hi w [vtyl] tyl := by
 obtain ⟨fp, hr, hz⟩ := h
 obtain ⟨vtyl, ftyl, rfl, htye, htm, htyl, rfl⟩ := dEnt_inv hr
 exact ⟨vtyl, rfl, htye, htm, ⟨ftyl, htyl, fun b hb => hz b (by simp [hb])⟩⟩
theorem Rd.dEnt_at {z : Bool} {lo hi : Nat} {w : World} {xs : List Ent} {ao : Option Addr} {n cap : Nat} (h : Rd z lo hi w [.slice ao n cap] xs) {i : Nat} (hi' : i < n) :
  ∃ (b off : Nat) (tye : Int) (tyl : List Stp) (tm : ByteArray) (vtyl : Value), ao = some ⟨b, off, none⟩ ∧ Hid (xs[i]? = some ((tye, tyl), tm)) ∧ w.cell? ⟨b, off + i * 3, none⟩ = some (.int .i64 tye) ∧ w.cell? ⟨b, off + i * 3 + 1, none⟩ = some (vtyl) ∧ w.cell? ⟨b, off + i * 3 + 2, none⟩ = some (.string tm) ∧ I64 tye ∧ tm.size ≤ maxLen ∧ Rd z lo hi w [vtyl] tyl ∧ Rd z lo hi w [.int .i64 tye, vtyl, .string tm] (((tye, tyl), tm) : Ent) ∧ lo ≤ b ∧ b < hi ∧ b < w.heap.size := by
 obtain ⟨b, off, ⟨⟨tye, tyl⟩, tm⟩, cs, e, hx, hr, _, g1, g2, g3, hc, hf⟩ := h.at hi'
 have hr0 := hr
 obtain ⟨vtyl, rfl, htye, htm, htyl⟩ := Rd.dEnt hr
 refine ⟨b, off, tye, tyl, tm, vtyl, e, hx, ?_, ?_, ?_, htye, htm, htyl, hr0, g1, g2, g3⟩
 ·have := hc 0 (.int .i64 tye) rfl; simpa [Rep.sz, Nat.add_assoc] using this
 ·have := hc 1 (vtyl) rfl; simpa [Rep.sz, Nat.add_assoc] using this
 ·have := hc 2 (.string tm) rfl; simpa [Rep.sz, Nat.add_assoc] using this
theorem Rd.part_ty {z : Bool} {lo hi : Nat} {w : World} {tye : Int} {tyl : List Stp} {tm : ByteArray} {vtyl : Value} (h : Rd z lo hi w [.int .i64 tye, vtyl, .string tm] (((tye, tyl), tm) : Ent)) : Rd z lo hi w [.int .i64 tye, vtyl] ((tye, tyl) : Kin) := by
 obtain ⟨xtyl, e, gtye, gtm, htyl⟩ := Rd.dEnt h
 simp only [List.cons.injEq, and_true, true_and] at e
 subst e
 exact Rd.kin_mk gtye htyl
def cntEnt : Ent → Nat := fun ((tye, tyl), tm) => 2 + 2 * tyl.length
def szdEnt : Ent → Nat := fun ((tye, tyl), tm) => tm.size + tyl.length
def sszEnt (xs : List Ent) : Nat := xs.length + lenBy szdEnt xs
def mkdEnt (k : Int) : Ent → Ent := fun ((tye, tyl), tm) => ((k, marksStp (k + 1) tyl.length), (markTxt (k + 1 + 2 * (tyl.length : Nat)).toNat))
instance decEqLEnt : DecidableEq (List Ent) := fun a b => instDecidableEqList a b
def PostDEnt (w : World) (x : Ent) (e : Ending) (w' : World) : Prop := ∃ (u0 u1 u2 : Value), e = .returned (.agg #[u0, u1, u2]) ∧ Ow w.heap.size w'.heap.size w' [u0, u1, u2] x ∧ Below w.heap.size w w'
end Go.Proofs.YtdpkldapobbnpaaGreatDoor
