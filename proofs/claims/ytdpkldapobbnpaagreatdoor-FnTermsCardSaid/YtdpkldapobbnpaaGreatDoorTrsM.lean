/- Texts laid one behind the other (merge.py): Trs, Two, TrsS. -/
import Derived.Test.YtdpkldapobbnpaaGreatDoorSmp
import Derived.Test.YtdpkldapobbnpaaGreatDoorEnt
import Derived.Test.YtdpkldapobbnpaaGreatDoorBase
import Derived.Test.YtdpkldapobbnpaaGreatDoorSmpS
import Derived.Test.YtdpkldapobbnpaaGreatDoorDTrm
import Derived.Deep.CutBlock
namespace Go.Proofs.YtdpkldapobbnpaaGreatDoor
set_option linter.unusedVariables false
set_option linter.unusedSimpArgs false
open Go.RowKit
section
def wordL : List Bs := [[70], [102, 97, 116, 104, 101, 114], [77], [109, 111, 116, 104, 101, 114], [66], [98, 114, 111, 116, 104, 101, 114], [90], [115, 105, 115, 116, 101, 114], [83], [115, 111, 110], [68], [100, 97, 117, 103, 104, 116, 101, 114], [72], [104, 117, 115, 98, 97, 110, 100], [87], [119, 105, 102, 101], [70, 90], [97, 117, 110, 116], [77, 66], [117, 110, 99, 108, 101], [70, 90, 83], [99, 111, 117, 115, 105, 110], [70, 90, 68], [99, 111, 117, 115, 105, 110], [77, 66, 83], [99, 111, 117, 115, 105, 110], [77, 66, 68], [99, 111, 117, 115, 105, 110]]
def pairL : List (Bs × Bs) := [([70], [102, 97, 116, 104, 101, 114]), ([77], [109, 111, 116, 104, 101, 114]), ([66], [98, 114, 111, 116, 104, 101, 114]), ([90], [115, 105, 115, 116, 101, 114]), ([83], [115, 111, 110]), ([68], [100, 97, 117, 103, 104, 116, 101, 114]), ([72], [104, 117, 115, 98, 97, 110, 100]), ([87], [119, 105, 102, 101]), ([70, 90], [97, 117, 110, 116]), ([77, 66], [117, 110, 99, 108, 101]), ([70, 90, 83], [99, 111, 117, 115, 105, 110]), ([70, 90, 68], [99, 111, 117, 115, 105, 110]), ([77, 66, 83], [99, 111, 117, 115, 105, 110]), ([77, 66, 68], [99, 111, 117, 115, 105, 110])]
def lineL : List Bs := [[70, 32, 102, 97, 116, 104, 101, 114], [77, 32, 109, 111, 116, 104, 101, 114], [66, 32, 98, 114, 111, 116, 104, 101, 114], [90, 32, 115, 105, 115, 116, 101, 114], [83, 32, 115, 111, 110], [68, 32, 100, 97, 117, 103, 104, 116, 101, 114], [72, 32, 104, 117, 115, 98, 97, 110, 100], [87, 32, 119, 105, 102, 101], [70, 90, 32, 97, 117, 110, 116], [77, 66, 32, 117, 110, 99, 108, 101], [70, 90, 83, 32, 99, 111, 117, 115, 105, 110], [70, 90, 68, 32, 99, 111, 117, 115, 105, 110], [77, 66, 83, 32, 99, 111, 117, 115, 105, 110], [77, 66, 68, 32, 99, 111, 117, 115, 105, 110]]
def trmN (l : Bs) : Nat := if l = [103, 101, 110, 101, 114, 97, 116, 105, 111, 110] then 8 else if l = [109, 101, 114, 103, 105, 110, 103] then 14 else if l = [115, 107, 101, 119, 105, 110, 103] then 12 else 0
def kin0 : Kin := (0, [])
def entSG (p : Bs × Bs) : Ent := ((typeS p.1).getD kin0, txt p.2)
def entIG (l : Bs) : Ent := ((typeI (Lib.cut l [32]).1).getD kin0, txt (Lib.cut l [32]).2.1)
def trmX (l : Bs) : Trm := (smpX l, (pairL.take (trmN l)).map entSG)
theorem trmN_le (l : Bs) : trmN l ≤ 14 := by
 unfold trmN
 split
 ·decide
 ·split
  ·decide
  ·split <;> decide
theorem word_at : ∀ k : Fin 14, ∃ p, pairL[k.val]? = some p ∧ wordL[2 * k.val]? = some p.1 ∧ wordL[2 * k.val + 1]? = some p.2 := by
 intro k
 have h : ∀ k : Fin 14, (pairL[k.val]?.isSome && (decide (wordL[2 * k.val]? = (pairL[k.val]?).map (·.1)) && decide (wordL[2 * k.val + 1]? = (pairL[k.val]?).map (·.2)))) = true := by decide +kernel
 have h2 := h k
 simp only [Bool.and_eq_true, decide_eq_true_eq] at h2
 obtain ⟨p, hp⟩ := Option.isSome_iff_exists.1 h2.1
 rw [hp] at h2
 exact ⟨p, hp, h2.2.1, h2.2.2⟩
end
section
structure Two {α β : Type} [FlatRep α] [FlatRep β] (G : Nat) (wb wr : World) (E F : TypeId) (tv : Value) (l1 : List α) (l2 : List β) : Prop where
 at_ : ∃ v1 v2, wr.cell? ⟨G, 0, none⟩ = some tv ∧ wr.cell? ⟨G, 1, none⟩ = some v1 ∧ wr.cell? ⟨G, 2, none⟩ = some v2 ∧ GL true (G + 1) (G + 1) wr.heap.size wr E v1 l1 ∧ GL true (G + 1) (G + 1) wr.heap.size wr F v2 l2 ∧ (∀ g, v1.ownBlock = some g → v2.ownBlock ≠ some g)
 fr : ∀ o, wr.frozen? ⟨G, o, none⟩ = false
 lt : G < wr.heap.size
 below : Below G wb wr
theorem GL.oltA {α : Type} [Rep α] {nd : Bool} {lo lo' hi : Nat} {w : World} {E : TypeId} {v : Value} {xs : List α} (h : GL nd lo lo' hi w E v xs) {g : Nat} (hg : v.ownBlock = some g) : lo ≤ g ∧ g < w.heap.size := by
 obtain ⟨css, fps, ho, _⟩ := h
 exact ho.lt g hg
theorem Two.keep {α β : Type} [FlatRep α] [FlatRep β] {G : Nat} {wb wr w' : World} {E F : TypeId} {tv : Value} {l1 : List α} {l2 : List β} (h : Two G wb wr E F tv l1 l2) (hb : Below wr.heap.size wr w') : Two G wb w' E F tv l1 l2 := by
 obtain ⟨⟨v1, v2, q0, q1, q2, hG1, hG2, hne⟩, hfr, hl, hB⟩ := h
 refine ⟨⟨v1, v2, oldc hb hl q0, oldc hb hl q1, oldc hb hl q2, (hG1.below hb).top, (hG2.below hb).top, hne⟩, fun o => (hb.frozen (p := ⟨G, o, none⟩) hl).trans (hfr o), Nat.lt_of_lt_of_le hl hb.size, hB.trans (hb.mono (Nat.le_of_lt hl))⟩
theorem Two.mk1 {α β : Type} [FlatRep α] [FlatRep β] {G : Nat} {wb W w5 : World} {E F : TypeId} {tv : Value} {l1 : List α} {l2 : List β} {v1 v2 u : Value} {g n c : Nat} (hb : Below G wb W) (q0 : W.cell? ⟨G, 0, none⟩ = some tv) (q1 : W.cell? ⟨G, 1, none⟩ = some u) (q2 : W.cell? ⟨G, 2, none⟩ = some v2) (hfr : ∀ o, W.frozen? ⟨G, o, none⟩ = false) (hl : G < W.heap.size)
  (hG2 : GL true (G + 1) (G + 1) W.heap.size W F v2 l2) (hne : ∀ g, v1.ownBlock = some g → v2.ownBlock ≠ some g)
  (hG5 : GL true (G + 1) (G + 1) w5.heap.size w5 E (.slice (some ⟨g, 0, none⟩) n c) l1) (hg5 : W.grownBy w5 v1.ownBlock) (hat : v1.ownBlock = some g ∨ g = W.heap.size) (hb5 : Below (G + 1) W w5) :
  Two G wb (w5.setCell ⟨G, 1, none⟩ (.slice (some ⟨g, 0, none⟩) n c)) E F tv l1 l2 := by
 have q0' := oldc hb5 (Nat.lt_succ_self _) q0
 have q1' := oldc hb5 (Nat.lt_succ_self _) q1
 have q2' := oldc hb5 (Nat.lt_succ_self _) q2
 refine ⟨⟨_, v2, ?_, ?_, ?_, (hG5.keep znT znT).top, ((hG2.far hg5 (fun k hk e => hne k e.symm hk)).keep znT znT).top, ?_⟩, fun o => ?_, ?_, ?_⟩
 ·rw [cell_setCell _ _ _ _ _ _ q0']; simp
 ·rw [cell_setCell _ _ _ _ _ _ q1']; simp
 ·rw [cell_setCell _ _ _ _ _ _ q2']; simp
 ·intro k hk e
  have hkg : k = g := by simpa [Value.ownBlock, eq_comm] using hk
  subst hkg
  rcases hat with hat | hat
  ·exact hne _ hat e
  ·have := (hG2.oltA e).2; omega
 ·exact frozen_setCell _ _ _ _ _ ((hb5.frozen (p := ⟨G, o, none⟩) (Nat.lt_succ_self _)).trans (hfr o))
 ·have := hb5.size; simp; omega
 ·exact (hb.trans (hb5.mono (Nat.le_succ _))).setCell (Nat.le_refl _) _
theorem Two.mk2 {α β : Type} [FlatRep α] [FlatRep β] {G : Nat} {wb W w5 : World} {E F : TypeId} {tv : Value} {l1 : List α} {l2 : List β} {v1 v2 u : Value} {g n c : Nat} (hb : Below G wb W) (q0 : W.cell? ⟨G, 0, none⟩ = some tv) (q2 : W.cell? ⟨G, 2, none⟩ = some u) (q1 : W.cell? ⟨G, 1, none⟩ = some v1) (hfr : ∀ o, W.frozen? ⟨G, o, none⟩ = false) (hl : G < W.heap.size)
  (hG1 : GL true (G + 1) (G + 1) W.heap.size W E v1 l1) (hne : ∀ g, v1.ownBlock = some g → v2.ownBlock ≠ some g)
  (hG5 : GL true (G + 1) (G + 1) w5.heap.size w5 F (.slice (some ⟨g, 0, none⟩) n c) l2) (hg5 : W.grownBy w5 v2.ownBlock) (hat : v2.ownBlock = some g ∨ g = W.heap.size) (hb5 : Below (G + 1) W w5) :
  Two G wb (w5.setCell ⟨G, 2, none⟩ (.slice (some ⟨g, 0, none⟩) n c)) E F tv l1 l2 := by
 have q0' := oldc hb5 (Nat.lt_succ_self _) q0
 have q1' := oldc hb5 (Nat.lt_succ_self _) q1
 have q2' := oldc hb5 (Nat.lt_succ_self _) q2
 refine ⟨⟨v1, _, ?_, ?_, ?_, ((hG1.far hg5 (fun k hk e => hne k hk e.symm)).keep znT znT).top, (hG5.keep znT znT).top, ?_⟩, fun o => ?_, ?_, ?_⟩
 ·rw [cell_setCell _ _ _ _ _ _ q0']; simp
 ·rw [cell_setCell _ _ _ _ _ _ q1']; simp
 ·rw [cell_setCell _ _ _ _ _ _ q2']; simp
 ·intro k hk e
  have hkg : k = g := by simpa [Value.ownBlock, eq_comm] using e
  subst hkg
  rcases hat with hat | hat
  ·exact hne _ hk hat
  ·have := (hG1.oltA hk).2; omega
 ·exact frozen_setCell _ _ _ _ _ ((hb5.frozen (p := ⟨G, o, none⟩) (Nat.lt_succ_self _)).trans (hfr o))
 ·have := hb5.size; simp; omega
 ·exact (hb.trans (hb5.mono (Nat.le_succ _))).setCell (Nat.le_refl _) _
end
section
theorem Ow.ent_it {lo hi : Nat} {w : World} {te : Int} {v : Value} {tl : List Stp} {tm : ByteArray} (h : Ow lo hi w [.int .i64 te, v] ((te, tl) : Kin)) (hm : tm.size ≤ maxLen) : It true lo hi w [.int .i64 te, v, .string tm] (((te, tl), tm) : Ent) := by
 obtain ⟨fp, hr, hz, hn⟩ := h
 obtain ⟨v', e, hI, hr2⟩ := repKin_inv hr
 simp only [List.cons.injEq, and_true, true_and] at e
 subst e
 exact ⟨fp, dEnt_mk hI hm hr2, hz, fun _ => hn⟩
theorem It.belowT {α : Type} [Rep α] {nd : Bool} {lo hi : Nat} {w w' : World} {cs : List Value} {x : α} (h : It nd lo hi w cs x) (k : Below w.heap.size w w') : It nd lo hi w' cs x := by
 obtain ⟨fp, h1, h2, h3⟩ := h
 exact ⟨fp, Rep.keep h1 (fun b hb => k.block b (Rep.lt h1 b hb)), h2, h3⟩
theorem word_sz : lt64 (wordL.map txt) := lt64_lits (by decide)
set_option maxRecDepth 20000 in
set_option maxHeartbeats 8000000 in
theorem sampTS_any (w : World) (s : ByteArray) (X : Trm) (hX : X = trmX s.data.toList) :
  Calls Tryz.prog 75 #[.string s] w (PostOw2 w X) := by
 obtain ⟨b1, hlet_b1⟩ : ∃ r, r = decide (s.data.toList = [103, 101, 110, 101, 114, 97, 116, 105, 111, 110]) := ⟨_, rfl⟩
 have H1 := Lib.hid hlet_b1
 clear hlet_b1
 obtain ⟨b2, hlet_b2⟩ : ∃ r, r = decide (s.data.toList = [109, 101, 114, 103, 105, 110, 103]) := ⟨_, rfl⟩
 have H2 := Lib.hid hlet_b2
 clear hlet_b2
 obtain ⟨b3, hlet_b3⟩ : ∃ r, r = decide (s.data.toList = [115, 107, 101, 119, 105, 110, 103]) := ⟨_, rfl⟩
 have H3 := Lib.hid hlet_b3
 clear hlet_b3
 have q1 := lit_eq s [103, 101, 110, 101, 114, 97, 116, 105, 111, 110]
 have q2 := lit_eq s [109, 101, 114, 103, 105, 110, 103]
 have q3 := lit_eq s [115, 107, 101, 119, 105, 110, 103]
 rw [← H1.out] at q1
 rw [← H2.out] at q2
 rw [← H3.out] at q3
 obtain ⟨RS, hRS⟩ : ∃ R, R = smpX s.data.toList := ⟨_, rfl⟩
 obtain ⟨N, hN⟩ : ∃ N, N = trmN s.data.toList := ⟨_, rfl⟩
 have hN14 : N ≤ 14 := by rw [hN]; exact trmN_le _
 have HN := Lib.hid (show N = if b1 = true then 8 else if b2 = true then 14 else if b3 = true then 12 else 0 by rw [hN, trmN, H1.out, H2.out, H3.out]; simp only [decide_eq_true_eq])
 have HX := Lib.hid (show X = (RS, (pairL.take N).map entSG) by rw [hX, trmX, hRS, hN])
 have HRS := Lib.hid hRS
 clear hX hRS hN
 go_enter Tryz.func75, Tryz.ntmps75
 go_wp2_with fail
 refine (sampleS_any _ s RS HRS.out).mono ?_
 rintro e1 w1 ⟨rv, rfl, hor, hbw1⟩
 have hpw1 : Below w.heap.size w w1 := Below.after bwT hbw1 szT
 have sw1 := hpw1.size
 have hBw1 : Below w.heap.size w w1 := hpw1
 have l_r : w.heap.size < w1.heap.size := by have := hbw1.size; simp at this; omega
 have q_r0 : w1.cell? ⟨w.heap.size, 0, none⟩ = some (.slice none 0 0) := oldc hbw1 ltT (by simp [go_sem])
 have q_r1 : w1.cell? ⟨w.heap.size, 1, none⟩ = some (.slice none 0 0) := oldc hbw1 ltT (by simp [go_sem])
 have f_r : ∀ o, w1.frozen? ⟨w.heap.size, o, none⟩ = false := fun o => (hbw1.frozen (p := ⟨w.heap.size, o, none⟩) ltT).trans (by simp [go_sem])
 clear hbw1 hpw1
 obtain ⟨rao, rn, rcap, rfl, -⟩ := hor.rd.shape
 have hl1 : w.heap.size < (w1).heap.size := l_r
 obtain ⟨W1, hW1⟩ : ∃ W : World, W = w1 := ⟨_, rfl⟩
 subst hW1
 have hB1 : Below w.heap.size w W1 := hBw1
 have HOR := Lib.hid hor
 obtain ⟨W2, hW2⟩ : ∃ W : World, W = (W1.alloc (.cells #[.slice rao rn rcap, .slice none 0 0] 25)).alloc (.cells ((wordL.map txt).map Value.string).toArray 9) := ⟨_, rfl⟩
 have hB12 : Below W1.heap.size W1 W2 := by rw [hW2]; exact bwT
 have sz2 : W1.heap.size + 1 + 1 ≤ W2.heap.size := by rw [hW2]; simp
 have x0 : W2.cell? ⟨W1.heap.size, 0, none⟩ = some (.slice rao rn rcap) := by rw [hW2]; simp [go_sem]
 have x1 : W2.cell? ⟨W1.heap.size, 1, none⟩ = some (.slice none 0 0) := by rw [hW2]; simp [go_sem]
 have xf : ∀ o, W2.frozen? ⟨W1.heap.size, o, none⟩ = false := by rw [hW2]; intro o; simp [go_sem]
 have hw28 := word_sz
 have HWD := Lib.hid (show Rd false (W1.heap.size + 1) (W1.heap.size + 1 + 1) W2 [.slice (some ⟨W1.heap.size + 1, 0, none⟩) 28 28] (wordL.map txt) by
  rw [hW2]
  have h := (Ow.strs_lit0 (W1.alloc (.cells #[.slice rao rn rcap, .slice none 0 0] 25)) 9 (wordL.map txt) (fun x hx => Nat.le_trans (hw28.2 x hx) (by unfold maxLen; decide)) (by unfold maxLen; decide)).rd.weak
  rw [World.size_alloc] at h
  exact h)
 have HSZ := Lib.hid hw28.2
 clear hor hw28
 obtain ⟨M, hM⟩ : ∃ M, M = 2 * N := ⟨_, rfl⟩
 have HM := Lib.hid hM
 have HW2 := Lib.hid hW2
 clear hM hW2
 go_upto_block 0 with fail
 go_cut [5] (fun s5 wx => s5 = .int .i64 (M : Int) ∧ wx = W2)
 case first =>
  cases b1
  rotate_left
  ·obtain rfl : M = 16 := by rw [HM.out, HN.out]; rfl
   go_wp2_with fail
   go_meet
   exact ⟨rfl, by rw [HW2.out]; rfl⟩
  cases b2
  rotate_left
  ·obtain rfl : M = 28 := by rw [HM.out, HN.out]; rfl
   go_wp2_with fail
   go_meet
   exact ⟨rfl, by rw [HW2.out]; rfl⟩
  cases b3
  rotate_left
  ·obtain rfl : M = 24 := by rw [HM.out, HN.out]; rfl
   go_wp2_with fail
   go_meet
   exact ⟨rfl, by rw [HW2.out]; rfl⟩
  ·obtain rfl : M = 0 := by rw [HM.out, HN.out]; rfl
   go_wp2_with fail
   go_meet
   exact ⟨rfl, by rw [HW2.out]; rfl⟩
 case rest =>
  obtain ⟨rfl, rfl⟩ := hcut
  clear H1 H2 H3 q1 q2 q3 HN HW2 HRS
  have hM14 : M ≤ 28 := by have := HM.out; omega
  go_wp2
  go_loopw [6, 7, 8] (fun s6 _ _ wr => ∃ (k j : Nat) (ev : Value), k ≤ N ∧ Hid (j = 2 * k) ∧ s6 = .int .i64 (j : Int) ∧ wr.cell? ⟨W1.heap.size, 0, none⟩ = some (.slice rao rn rcap) ∧ wr.cell? ⟨W1.heap.size, 1, none⟩ = some ev ∧ (∀ o, wr.frozen? ⟨W1.heap.size, o, none⟩ = false) ∧ W1.heap.size + 1 + 1 ≤ wr.heap.size ∧ Hid (GL true (W1.heap.size + 1 + 1) (W1.heap.size + 1 + 1) wr.heap.size wr 43 ev ((pairL.take k).map entSG)) ∧ Hid (Rd false (W1.heap.size + 1) (W1.heap.size + 1 + 1) wr [.slice (some ⟨W1.heap.size + 1, 0, none⟩) 28 28] (wordL.map txt)) ∧ Below W1.heap.size W1 wr) (fun s6 _ _ _ => M - (intOf s6).toNat)
  case atStart => exact ⟨0, 0, _, Nat.zero_le _, Lib.hid rfl, rfl, x0, x1, xf, sz2, Lib.hid (GL.start _ _ _ _ _ _), HWD, hB12⟩
  case round =>
   clear x0 x1 xf sz2 HWD hB12
   obtain ⟨wb, hwb⟩ : ∃ wm : World, wm = wr := ⟨_, rfl⟩
   subst hwb
   obtain ⟨k, j, ev, hk, hj, rfl, y0, y1, yf, hKb, hG, hWD, hbb⟩ := hrel
   have hj0 := hj.out
   by_cases hlt : k < N
   ·have hjI : (j : Int) < (M : Int) := by have := HM.out; omega
    obtain ⟨⟨pa, pb⟩, hp, ha, hb⟩ := word_at ⟨k, by omega⟩
    dsimp only at hp ha hb
    rw [← hj0] at ha hb
    obtain ⟨A, hA⟩ : ∃ A, A = txt pa := ⟨_, rfl⟩
    obtain ⟨B, hB⟩ : ∃ B, B = txt pb := ⟨_, rfl⟩
    obtain ⟨_, _, e0, hlb, hcs⟩ := hWD.out.strs (by decide)
    simp only [Option.some.injEq, Addr.mk.injEq] at e0
    obtain ⟨rfl, rfl, -⟩ := e0
    have mA : (wordL.map txt)[j]? = some A := by rw [List.getElem?_map, ha, hA]; rfl
    have mB : (wordL.map txt)[j + 1]? = some B := by rw [List.getElem?_map, hb, hB]; rfl
    have cA := (hcs _ _ mA).1
    have cB := (hcs _ _ mB).1
    have sA := HSZ.out A (List.mem_of_getElem? mA)
    have sB := HSZ.out B (List.mem_of_getElem? mB)
    simp only [Nat.zero_add] at cA cB
    have hj28 : j + 1 < 28 := by omega
    have hj28I : (j : Int) < 28 := by omega
    have hj28J : (j : Int) + 1 < 28 := by omega
    obtain ⟨O, hO⟩ : ∃ O, O = typeS A.data.toList := ⟨_, rfl⟩
    have HO := Lib.hid hO
    obtain ⟨t, ht⟩ : ∃ t, t = O.getD (0, []) := ⟨_, rfl⟩
    have HE := Lib.hid (show (pairL.take (k + 1)).map entSG = (pairL.take k).map entSG ++ [(t, B)] by rw [map_at hp, ht, hO, hA, hB, list_txt]; rfl)
    obtain ⟨P, hP⟩ : ∃ P, P = (pairL.take k).map entSG := ⟨_, rfl⟩
    rw [← hP] at HE hG
    have hPl : P.length ≤ 14 := by rw [hP, List.length_map, List.length_take]; omega
    obtain ⟨eao, ecap, rfl, -, -⟩ := hG.out.len
    have HT := Lib.hid ht
    have HGO := Lib.hid (fun g h => (hG.out.oltA (g := g) h))
    clear hO hp ha hb hA hB mA mB hcs hP ht hj0
    go_wp2_with fail
    refine (parseTypeS_any _ A (by unfold maxLen; omega) O HO.out).mono ?_
    rintro e1 w1 ⟨ta, tb, rfl, hok, hb1⟩
    rw [← HT.out] at hok
    obtain ⟨te, tl⟩ := t
    obtain ⟨rfl, -, hts⟩ := hok.rd.kin
    obtain ⟨bao, bn, bcap, rfl, -⟩ := hts.shape
    have s1 := hb1.size
    have HOK := Lib.hid hok
    have HG1 := Lib.hid (hG.out.below hb1)
    have hWD1 := Lib.hid (hWD.out.below hb1)
    obtain ⟨W3, hW3⟩ : ∃ W : World, W = w1.alloc (.cells #[.int .i64 te, .slice bao bn bcap] 36) := ⟨_, rfl⟩
    have hB13 : Below w1.heap.size w1 W3 := by rw [hW3]; exact bwT
    have hp3 : Below wb.heap.size wb W3 := hb1.trans (hB13.mono s1)
    have sz3 : W3.heap.size = w1.heap.size + 1 := by rw [hW3]; simp
    have t0 : W3.cell? ⟨w1.heap.size, 0, none⟩ = some (.int .i64 te) := by rw [hW3]; simp [go_sem]
    have t1 : W3.cell? ⟨w1.heap.size, 1, none⟩ = some (.slice bao bn bcap) := by rw [hW3]; simp [go_sem]
    have y0 := oldc hp3 (by omega) y0
    have y1 := oldc hp3 (by omega) y1
    have yf : ∀ o, W3.frozen? ⟨W1.heap.size, o, none⟩ = false := fun o => (hp3.frozen (p := ⟨W1.heap.size, o, none⟩) (by show W1.heap.size < _; omega)).trans (yf o)
    have cB := oldc hp3 hlb cB
    have HIT := Lib.hid ((HOK.out.below hB13).ent_it (tm := B) (by unfold maxLen; omega))
    have HG3 := Lib.hid (HG1.out.below hB13)
    have hWD3 := Lib.hid (hWD1.out.below hB13)
    have lT : w1.heap.size < W3.heap.size := by omega
    have lG : W1.heap.size < W3.heap.size := by omega
    have lW : W1.heap.size + 1 < W3.heap.size := by omega
    have n5 : ¬ W1.heap.size = W3.heap.size := by omega
    have n6 : ¬ W3.heap.size = W1.heap.size := by omega
    have n7 : ¬ W1.heap.size + 1 = W3.heap.size := by omega
    have n8 : ¬ w1.heap.size = W3.heap.size := by omega
    have n9 : (W3.alloc (.cells #[.int .i64 te, .slice bao bn bcap, .string B] 43)).cell? ⟨W1.heap.size, 1, none⟩ = some (.slice eao P.length ecap) := oldc (show Below W3.heap.size W3 _ from bwT) lG y1
    have n1 : ¬ W1.heap.size = w1.heap.size := by omega
    have n2 : ¬ w1.heap.size = W1.heap.size := by omega
    have n3 : ¬ w1.heap.size = W1.heap.size + 1 := by omega
    have n4 : ¬ W1.heap.size + 1 = w1.heap.size := by omega
    clear hok hts hb1 hG hWD HG1 hWD1 HOK HT HO cA hj28I
    have hwr : IntKind.i64.wrap ((j : Int) + 1) = (j : Int) + 1 := IntWalk.i64_in _ (by omega)
    have hj0I : (0 : Int) ≤ (j : Int) + 1 := by omega
    go_upto_region 15 with fail
    rw [← hW3]
    clear hW3 hB13
    refine wp_region_held_drew (S := (fun w' => w'.cell? ⟨w1.heap.size, 0, none⟩ = some (.int .i64 te) ∧ w'.cell? ⟨w1.heap.size, 1, none⟩ = some (.slice bao bn bcap) ∧ w'.cell? ⟨W1.heap.size + 1, j + 1, none⟩ = some (.string B))) (by kernel_rfl) ?_ (fun hHeld => ?_)
    ·first | exact trivial | ((try dsimp only); go_keep)
    refine tkA 0 ?_
    try simp only [Act.put, cA, cB, cC]
    refine tkA 2 ?_
    try simp only [Act.put, cA, cB, cC]
    refine tkA 3 ?_
    try simp only [Act.put, cA, cB, cC]
    refine tkA 4 ?_
    try simp only [Act.put, cA, cB, cC]
    refine tkA 5 ?_
    try simp only [Act.put, cA, cB, cC]
    refine tkA 6 ?_
    try simp only [Act.put, cA, cB, cC]
    refine tkA 7 ?_
    try simp only [Act.put, cA, cB, cC]
    refine tkA 8 ?_
    try simp only [Act.put, cA, cB, cC]
    refine wpAnyH_ready (rs := [1, 9]) (by kernel_rfl) (by simp) ?_
    refine rdR (fun K hK => ?_) ?_
    ·go_simp
     refine hK.out _ _ ?_ (fun hHeld => ?_)
     ·exact kpT
     clear hK K
     try simp only [Act.put, cA, cB, cC]
     refine wpAnyH_ready (rs := [9]) (by kernel_rfl) (by simp) ?_
     refine rdR (fun K hK => ?_) ?_
     ·go_simp
      refine hK.out _ _ ?_ (fun hHeld => ?_)
      ·exact kpT
      clear hK K
      try simp only [Act.put, cA, cB, cC]
      refine wpAnyH_ready (rs := [10]) (by kernel_rfl) (by simp) ?_
      refine rdR (fun K hK => ?_) ?_
      ·refine step_push rfl rfl slEntry (by show (0 : Nat) < 3; omega) (HG3.out.below bwT) (by simp [Act.eval, Act.put]) (ad := ⟨W3.heap.size, 0, none⟩) (c := 1) (by simp [Act.eval, Act.put]) (cs := [.int .i64 te, .slice bao bn bcap, .string B]) (y := (((te, tl), B) : Ent)) (lx := wb.heap.size) (hx' := w1.heap.size) ?c1 (It.belowT HIT.out (show Below W3.heap.size W3 _ from bwT)) (by omega) (.inl (Nat.le_refl _)) (by unfold maxLen; omega) (by omega) (by simp; omega) rfl rfl ?_
       case c1 =>
        intro j c hj
        match j, hj with
        | 0, hj => simp at hj; subst hj; simp [Addr.add, go_sem]
        | 1, hj => simp at hj; subst hj; simp [Addr.add, go_sem]
        | 2, hj => simp at hj; subst hj; simp [Addr.add, go_sem]
       rintro g5 cap5 w5 hG5 hg5 hat5 hlg5 hlt5 hb5
       have hp5 : Below (W1.heap.size + 1 + 1) W3 w5 := Below.trans (show Below (W1.heap.size + 1 + 1) W3 _ from bwT) hb5
       have hT5 : ∀ o v, W3.cell? ⟨w1.heap.size, o, none⟩ = some v → w5.cell? ⟨w1.heap.size, o, none⟩ = some v := fun o v h => (World.cell?_of_block (a := ⟨w1.heap.size, o, none⟩) (hg5.block w1.heap.size (by simp; omega) (fun e => by have := HGO.out _ e.symm; omega))).trans ((((Below.refl W3.heap.size W3).alloc (Nat.le_refl _) _).cell (p := ⟨w1.heap.size, o, none⟩) lT).trans h)
       have hS5 := And.intro (hT5 _ _ t0) (And.intro (hT5 _ _ t1) (oldc hp5 (Nat.lt_succ_self _) cB))
       have s5 := hp5.size
       have z0 := oldc hp5 (by omega) y0
       have z1 := oldc hp5 (by omega) y1
       have zf : ∀ o, w5.frozen? ⟨W1.heap.size, o, none⟩ = false := fun o => (hp5.frozen (p := ⟨W1.heap.size, o, none⟩) (by show W1.heap.size < _; omega)).trans (yf o)
       have hWD5 := Lib.hid (hWD3.out.keep (Below.zone hp5 _))
       have hB5 : Below W1.heap.size W1 w5 := (hbb.trans (hp3.mono (by omega))).trans (hp5.mono (by omega))
       have HG5 := Lib.hid hG5
       clear hG5 hg5 hat5 hb5 hp5
       refine hK.out _ _ ?_ (fun hHeld => ?_)
       ·exact kpT
       clear hK K
       try simp only [Act.put, cA, cB, cC]
       refine tkA 11 ?_
       try simp only [Act.put, cA, cB, cC]
       refine wpAnyH_ready (rs := [12]) (by kernel_rfl) (by simp) ?_
       refine rdR (fun K hK => ?_) ?_
       ·go_simp
        refine hK.out _ _ ?_ (fun hHeld => ?_)
        ·exact kpT
        clear hK K
        try simp only [Act.put, cA, cB, cC]
        refine wpAnyH_done (by kernel_rfl) ?_ _
        have HGX := Lib.hid (show GL true (W1.heap.size + 1 + 1) (W1.heap.size + 1 + 1) _ (w5.setCell ⟨W1.heap.size, 1, none⟩ (.slice (some ⟨g5, 0, none⟩) (P.length + 1) cap5)) 43 (.slice (some ⟨g5, 0, none⟩) (P.length + 1) cap5) ((pairL.take (k + 1)).map entSG) by
         rw [HE.out]; exact (HG5.out.keep zmT zmT).top)
        have hWDX := Lib.hid (hWD5.out.keep (show Zone (W1.heap.size + 1) (W1.heap.size + 1 + 1) w5 (w5.setCell ⟨W1.heap.size, 1, none⟩ (.slice (some ⟨g5, 0, none⟩) (P.length + 1) cap5)) from zmT))
        have hJ := Lib.hid (show j + 2 = 2 * (k + 1) by have := hj.out; omega)
        clear HG5 hWD5 hWD3 HG3 HE hHeld HIT hwr
        go_wp2
        go_roundw
        case rel => exact ⟨k + 1, j + 2, _, by omega, hJ, by go_num, by simp [go_sem, *], by simp [go_sem, *], (fun o => by simp [go_sem, *]), by simp; omega, HGX, hWDX, bwT⟩
        case measure => simp [intOf]; omega
       exact AllReadyH.nil
      exact AllReadyH.nil
     exact AllReadyH.nil
    refine rdR (fun K hK => ?_) ?_
    ·go_simp
     refine hK.out _ _ ?_ (fun hHeld => ?_)
     ·exact kpT
     clear hK K
     try simp only [Act.put, cA, cB, cC]
     refine wpAnyH_ready (rs := [1]) (by kernel_rfl) (by simp) ?_
     refine rdR (fun K hK => ?_) ?_
     ·go_simp
      refine hK.out _ _ ?_ (fun hHeld => ?_)
      ·exact kpT
      clear hK K
      try simp only [Act.put, cA, cB, cC]
      refine wpAnyH_ready (rs := [10]) (by kernel_rfl) (by simp) ?_
      refine rdR (fun K hK => ?_) ?_
      ·refine step_push rfl rfl slEntry (by show (0 : Nat) < 3; omega) (HG3.out.below bwT) (by simp [Act.eval, Act.put]) (ad := ⟨W3.heap.size, 0, none⟩) (c := 1) (by simp [Act.eval, Act.put]) (cs := [.int .i64 te, .slice bao bn bcap, .string B]) (y := (((te, tl), B) : Ent)) (lx := wb.heap.size) (hx' := w1.heap.size) ?c1 (It.belowT HIT.out (show Below W3.heap.size W3 _ from bwT)) (by omega) (.inl (Nat.le_refl _)) (by unfold maxLen; omega) (by omega) (by simp; omega) rfl rfl ?_
       case c1 =>
        intro j c hj
        match j, hj with
        | 0, hj => simp at hj; subst hj; simp [Addr.add, go_sem]
        | 1, hj => simp at hj; subst hj; simp [Addr.add, go_sem]
        | 2, hj => simp at hj; subst hj; simp [Addr.add, go_sem]
       rintro g5 cap5 w5 hG5 hg5 hat5 hlg5 hlt5 hb5
       have hp5 : Below (W1.heap.size + 1 + 1) W3 w5 := Below.trans (show Below (W1.heap.size + 1 + 1) W3 _ from bwT) hb5
       have hT5 : ∀ o v, W3.cell? ⟨w1.heap.size, o, none⟩ = some v → w5.cell? ⟨w1.heap.size, o, none⟩ = some v := fun o v h => (World.cell?_of_block (a := ⟨w1.heap.size, o, none⟩) (hg5.block w1.heap.size (by simp; omega) (fun e => by have := HGO.out _ e.symm; omega))).trans ((((Below.refl W3.heap.size W3).alloc (Nat.le_refl _) _).cell (p := ⟨w1.heap.size, o, none⟩) lT).trans h)
       have hS5 := And.intro (hT5 _ _ t0) (And.intro (hT5 _ _ t1) (oldc hp5 (Nat.lt_succ_self _) cB))
       have s5 := hp5.size
       have z0 := oldc hp5 (by omega) y0
       have z1 := oldc hp5 (by omega) y1
       have zf : ∀ o, w5.frozen? ⟨W1.heap.size, o, none⟩ = false := fun o => (hp5.frozen (p := ⟨W1.heap.size, o, none⟩) (by show W1.heap.size < _; omega)).trans (yf o)
       have hWD5 := Lib.hid (hWD3.out.keep (Below.zone hp5 _))
       have hB5 : Below W1.heap.size W1 w5 := (hbb.trans (hp3.mono (by omega))).trans (hp5.mono (by omega))
       have HG5 := Lib.hid hG5
       clear hG5 hg5 hat5 hb5 hp5
       refine hK.out _ _ ?_ (fun hHeld => ?_)
       ·exact kpT
       clear hK K
       try simp only [Act.put, cA, cB, cC]
       refine tkA 11 ?_
       try simp only [Act.put, cA, cB, cC]
       refine wpAnyH_ready (rs := [12]) (by kernel_rfl) (by simp) ?_
       refine rdR (fun K hK => ?_) ?_
       ·go_simp
        refine hK.out _ _ ?_ (fun hHeld => ?_)
        ·exact kpT
        clear hK K
        try simp only [Act.put, cA, cB, cC]
        refine wpAnyH_done (by kernel_rfl) ?_ _
        have HGX := Lib.hid (show GL true (W1.heap.size + 1 + 1) (W1.heap.size + 1 + 1) _ (w5.setCell ⟨W1.heap.size, 1, none⟩ (.slice (some ⟨g5, 0, none⟩) (P.length + 1) cap5)) 43 (.slice (some ⟨g5, 0, none⟩) (P.length + 1) cap5) ((pairL.take (k + 1)).map entSG) by
         rw [HE.out]; exact (HG5.out.keep zmT zmT).top)
        have hWDX := Lib.hid (hWD5.out.keep (show Zone (W1.heap.size + 1) (W1.heap.size + 1 + 1) w5 (w5.setCell ⟨W1.heap.size, 1, none⟩ (.slice (some ⟨g5, 0, none⟩) (P.length + 1) cap5)) from zmT))
        have hJ := Lib.hid (show j + 2 = 2 * (k + 1) by have := hj.out; omega)
        clear HG5 hWD5 hWD3 HG3 HE hHeld HIT hwr
        go_wp2
        go_roundw
        case rel => exact ⟨k + 1, j + 2, _, by omega, hJ, by go_num, by simp [go_sem, *], by simp [go_sem, *], (fun o => by simp [go_sem, *]), by simp; omega, HGX, hWDX, bwT⟩
        case measure => simp [intOf]; omega
       exact AllReadyH.nil
      exact AllReadyH.nil
     exact AllReadyH.nil
    exact AllReadyH.nil
   ·have hjI : ¬ (j : Int) < (M : Int) := by have := HM.out; omega
    obtain rfl : k = N := by omega
    clear hj0
    obtain ⟨eao, ecap, rfl, -, -⟩ := hG.out.len
    have HGO := Lib.hid (hG.out.ow (l0 := W1.heap.size + 1 + 1) (Nat.le_refl _) (Nat.le_refl _))
    have q_r0 := oldc hbb l_r q_r0
    have q_r1 := oldc hbb l_r q_r1
    have f_r : ∀ o, wb.frozen? ⟨w.heap.size, o, none⟩ = false := fun o => (hbb.frozen (p := ⟨w.heap.size, o, none⟩) l_r).trans (f_r o)
    have hBw : Below w.heap.size w wb := hB1.trans (hbb.mono hB1.size)
    have HOX := Lib.hid (show Ow (w.heap.size + 1) wb.heap.size wb [.slice rao rn rcap, .slice eao ((pairL.take k).map entSG).length ecap] X by
     rw [HX.out]
     exact Ow.pair (l := w.heap.size + 1) (h := wb.heap.size) (HOR.out.below hbb) HGO.out (.inl (by omega)) (by simp) (by omega) (by omega) (Nat.le_refl _))
    have n1 : ¬ W1.heap.size = w.heap.size := by omega
    have n2 : ¬ w.heap.size = W1.heap.size := by omega
    have hlw : w.heap.size < wb.heap.size := by omega
    clear hG hWD HGO HOR HX
    go_wp2
    exact bodyPost_ret (v := .agg #[.slice rao rn rcap, .slice eao ((pairL.take k).map entSG).length ecap]) (by simp [results, go_sem, *]) rfl ⟨_, _, rfl, (HOX.out.keep zmT).mono (by omega) (by simp), bwT⟩
end
end Go.Proofs.YtdpkldapobbnpaaGreatDoor
