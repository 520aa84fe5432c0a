/- The sort that impl.normalForms makes: the forms that the call owns, the shorter ones first. -/
import Derived.Test.YtoipdgoejichbaaStbE
import Derived.Test.YtoipdgoejichbaaNfs
namespace Go.Proofs.Ytoipdgoejichbaa
set_option linter.unusedVariables false
set_option linter.unusedSimpArgs false
open Go.RowKit Go.Shelf

/-- What the library's stable sort makes of a list. -/
def StabOf (xs ys : List Kin) : Prop := (xs.length < 2 ∧ ys = xs) ∨ ∃ (n : Nat) (inh : Inhabited (Fin n)) (h : xs.length = n), ys = (@stableA (Fin n) inh (fun a b : Fin n => kB (xs[a.val]'(by omega)) (xs[b.val]'(by omega))) n (List.finRange n).toArray).toList.map fun k => xs[k.val]'(by omega)
/-- The items are as they were but for their order; the row's block alone has turned. -/
def PostStK (lo hi : Nat) (w : World) (fp : List Nat) (v : Value) (xs : List Kin) (e : Ending) (w' : World) : Prop :=
  e = .returned (.tuple #[]) ∧ ∃ ys : List Kin, ys.Perm xs ∧ StabOf xs ys ∧ Ow lo hi w' [v] ys ∧ OffF fp w w'
theorem kB_len {x y : Kin} (h : ¬ x.2.length = y.2.length) : kB x y = decide (x.2.length < y.2.length) := by unfold kB beforeS; rw [if_neg h]
theorem kB_cmp {x y : Kin} (h : x.2.length = y.2.length) : kB x y = decide (cmpS x.2 y.2 < 0) := by unfold kB beforeS; rw [if_pos h]
set_option maxHeartbeats 2000000 in
theorem lessN_b {lo hi : Nat} {W : World} {v : Value} {B : Nat} {ys : List Kin} (hB : W.cell? ⟨B, 0, none⟩ = some v) (h : Rd false lo hi W [v] ys) (i j : Nat) (hi' : i < ys.length) (hj : j < ys.length) (hl : ys.length < 4611686018427387904) (r : Bool) (hr : r = kB ys[i] ys[j]) :
    Calls Try.prog 77 #[.int .i64 i, .int .i64 j, .pointer (some ⟨B, 0, none⟩)] W (PostB W r) := by
  obtain ⟨ao, n, cap, rfl, hn, -⟩ := h.shape
  subst hn
  obtain ⟨b, off, ⟨x1, x2⟩, vx, e, hx, c0, c1, -, hvx, hR1, -, -, hb⟩ := h.kin_at hi'
  subst e
  obtain ⟨b2, off2, ⟨y1, y2⟩, vy, e, hy, d0, d1, -, hvy, hR2, -, -, -⟩ := h.kin_at hj
  simp only [Option.some.injEq, Addr.mk.injEq, and_true] at e
  obtain ⟨rfl, rfl⟩ := e
  dsimp only at c0 d0 hvx hvy hR1 hR2
  obtain ⟨a1, n1, p1, rfl, hn1, -⟩ := hvx.shape
  obtain ⟨a2, n2, p2, rfl, hn2, -⟩ := hvy.shape
  subst hn1
  subst hn2
  have e1 : ys[i] = (x1, x2) := by have := hx.out; rw [List.getElem?_eq_getElem hi'] at this; exact Option.some.inj this
  have e2 : ys[j] = (y1, y2) := by have := hy.out; rw [List.getElem?_eq_getElem hj] at this; exact Option.some.inj this
  rw [e1, e2] at hr
  have HR := Lib.hid hr
  have H1 := Lib.hid hvx
  have H2 := Lib.hid hvy
  have hiI : (i : Int) < (ys.length : Int) := by omega
  have hjI : (j : Int) < (ys.length : Int) := by omega
  have hBl : B < W.heap.size := World.block_lt_of_cell? W ⟨B, 0, none⟩ hB
  clear hr hR1 hR2 h hx hy e1 e2 hvx hvy c0 d0
  go_enter Try.func77, Try.ntmps77
  go_upto_region 1 with fail
  go_region_held3 (fun w' => w'.cell? ⟨B, 0, none⟩ = some (.slice (some ⟨b, off, none⟩) ys.length cap) ∧ w'.cell? ⟨b, off + i * 2 + 1, none⟩ = some (.slice a1 x2.length p1) ∧ w'.cell? ⟨b, off + j * 2 + 1, none⟩ = some (.slice a2 y2.length p2)) (go_keep) (fail)
  by_cases hle : x2.length = y2.length
  · have hI : (x2.length : Int) = (y2.length : Int) := by omega
    have HE := Lib.hid (show r = decide (cmpS x2 y2 < 0) by rw [HR.out]; exact kB_cmp hle)
    clear hle HR
    go_wp2_with fail
    refine (compareSteps_any _ _ _ x2 y2 (H1.out.below bwT) (H2.out.below bwT) _ rfl).mono ?_
    rintro e5 w5 ⟨rfl, hb5⟩
    have hp5 : Below W.heap.size W w5 := Below.trans (show Below W.heap.size W _ from bwT) (hb5.mono szT)
    clear hb5
    go_wp2
    go_ret
    exact ⟨ret_bool HE.out.symm, hp5⟩
  · have hI : ¬ (x2.length : Int) = (y2.length : Int) := by omega
    have HE := Lib.hid (show r = decide (x2.length < y2.length) by rw [HR.out]; exact kB_len hle)
    clear hle HR
    go_wp2_with fail
    go_ret
    exact ⟨ret_bool HE.out.symm, bwT⟩
theorem infoKK : ∃ i, Try.prog.info? 31 = some i ∧ i.desc = .slice 36 := by
  have h : (Try.prog.info? 31).map (·.desc) = some (.slice 36) := by kernel_rfl
  cases hi : Try.prog.info? 31 with
  | none => rw [hi] at h; cases h
  | some i => rw [hi] at h; exact ⟨i, rfl, Option.some.inj h⟩
theorem infoK : ∃ i, Try.prog.info? 36 = some i ∧ i.size = 2 ∧ i.hasPointers = true ∧ i.bytes = 32 := by
  have h : (Try.prog.info? 36).map (fun i => (i.size, i.hasPointers, i.bytes)) = some (2, true, 32) := by kernel_rfl
  cases hi : Try.prog.info? 36 with
  | none => rw [hi] at h; cases h
  | some i =>
    rw [hi] at h
    have h2 := Option.some.inj h
    simp only [Prod.mk.injEq] at h2
    exact ⟨i, rfl, h2.1, h2.2.1, h2.2.2⟩
theorem swapKK {n : Nat} {ie : TypeInfo} (hp : ie.hasPointers = true) (hb : ie.bytes = 32) : Lib.swapperK n ie 25 = if n = 0 then 1 else if n = 1 then 2 else 9 := by
  unfold Lib.swapperK
  rw [hp, hb]
  by_cases h0 : n = 0
  · simp [h0]
  · by_cases h1 : n = 1
    · simp [h1]
    · simp [h0, h1]
theorem sortN_any {lo up : Nat} (w : World) (B : Nat) (v : Value) (o : List Kin) (hB : w.cell? ⟨B, 0, none⟩ = some v) (hBl : B < w.heap.size) (hBv : some B ≠ v.ownBlock) (hown : Ow lo up w [v] o) (hl : o.length ≤ 1000000) :
    Calls Try.prog 76 #[.iface 31 v, .func (.func 77) #[] #[.pointer (some ⟨B, 0, none⟩)]] w (PostStK lo up w v.ownBlock.toList v o) := by
  obtain ⟨i, hi, hd⟩ := infoKK
  obtain ⟨ie, hie, hs, hp, hb⟩ := infoK
  obtain ⟨ao, n, cap, rfl, hn, -⟩ := hown.rd.shape
  subst hn
  by_cases h2 : 2 ≤ o.length
  · obtain ⟨blk, off, -, -, rfl, -⟩ := hown.rd.at (i := 0) (by omega)
    have hne : B ≠ blk := fun e => hBv (by rw [e]; rfl)
    have hless : LessS Try.prog 77 #[.pointer (some ⟨B, 0, none⟩)] kB w blk (.slice (some ⟨blk, off, none⟩) o.length cap) o := by
      intro W ys hyl _ hoff hR i j hi hj
      exact lessN_b (B := B) ((World.cell?_of_block (w := w) (a := ⟨B, 0, none⟩) (hoff.block B hBl (by simpa using hne))).trans hB) hR i j hi hj (by omega) _ rfl
    have hS := stable_lays 31 36 i ie hi hd (by kernel_rfl) hie 25 (fun _ => by kernel_rfl) hs (by show (0 : Nat) < 2; omega) (fun _ => by kernel_rfl) kB 77 #[.pointer (some ⟨B, 0, none⟩)]
      (enters_of Try.func77 (by kernel_rfl) rfl) 117 o.length h2 hl (by rw [swapKK hp hb, if_neg (by omega), if_neg (by omega)]; kernel_rfl) false
      (fun args W => run_callFunc_extern Try.func117 (by kernel_rfl) (by kernel_rfl) (by kernel_rfl) (e := Extern.ReflectliteSwapper.swap false) (by kernel_rfl) args W) w blk off cap o hown hless
    refine hS.mono ?_
    rintro e w' ⟨he, ys, h1, h3, h4, h5⟩
    exact ⟨he, ys, h1, .inr h3, h4, h5⟩
  · refine (Any.sort_SliceStable_tiny ss8 31 36 i ie hi hd (by kernel_rfl) hie 25 (fun _ => by kernel_rfl) ao o.length cap (by omega) (if o.length = 0 then 109 else 110)
      (by
        rw [swapKK hp hb]
        by_cases h0 : o.length = 0
        · rw [if_pos h0, if_pos h0]; kernel_rfl
        · rw [if_neg h0, if_neg h0, if_pos (by omega)]; kernel_rfl) (.func 77) #[] #[.pointer (some ⟨B, 0, none⟩)] w).mono ?_
    rintro e w' ⟨rfl, os, rfl⟩
    have hb : Below w.heap.size w (Sort.grow w os) := ⟨rfl, rfl, rfl, by simp, fun b hb => Sort.heap_grow_old w os hb⟩
    exact ⟨rfl, o, List.Perm.refl _, .inl ⟨by omega, rfl⟩, hown.below hb, ⟨rfl, rfl, rfl, hb.size, fun b h _ => hb.block b h⟩⟩
end Go.Proofs.Ytoipdgoejichbaa
