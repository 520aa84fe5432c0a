/- Texts laid one behind the other (merge.py): TypsS, Sub. -/
import Derived.Test.YtefbbbhidnnchaaZ14X
import Derived.Test.YtefbbbhidnnchaaZ14V
namespace Go.Proofs.Ytefbbbhidnnchaa
set_option linter.unusedVariables false
set_option linter.unusedSimpArgs false
open Go.RowKit

/-! ### TypsS -/
section

set_option maxRecDepth 20000 in
set_option maxHeartbeats 16000000 in
theorem l3MoreS_any {z : Bool} {lo hi : Nat} (w : World) (a b : Value) (t : Kin) (h : Rd z lo hi w [a, b] t) (ht : isKin t = true) (hl : t.2.length < 8) : Calls Try.prog 75 #[.agg #[a, b]] w (PostOw w (more t)) := by
  obtain ⟨rfl, hI, hb⟩ := h.kin
  obtain ⟨ao, n, cap, rfl, hn, hnc, hcm, hnone⟩ := hb.shape
  subst hn
  unfold maxLen at *
  have HI := Lib.hid hI
  have HK := Lib.hid (fun s => isKin_snoc ht hl s)
  have hZ := Lib.hid hb
  clear h hI hb ht hnone
  obtain ⟨W0, hW0⟩ : ∃ W0 : World, W0 = w.alloc (.cells #[.int .i64 t.1, .slice ao t.2.length cap] 49) := ⟨_, rfl⟩
  have hB0 : Below w.heap.size w W0 := by subst hW0; exact bwT
  have sz0 : W0.heap.size = w.heap.size + 1 := by subst hW0; simp
  have qa_t0 : W0.cell? ⟨w.heap.size, 0, none⟩ = some (.int .i64 t.1) := by subst hW0; simp [go_sem]
  have qa_t1 : W0.cell? ⟨w.heap.size, 1, none⟩ = some (.slice ao t.2.length cap) := by subst hW0; simp [go_sem]
  have HG0 := Lib.hid (show GL true W0.heap.size W0.heap.size (W0.alloc (.cells #[] 49)).heap.size (W0.alloc (.cells #[] 49)) 49 (.slice (some ⟨w.heap.size + 1, 0, none⟩) 0 0) (moreTo t 0) by
    rw [show w.heap.size + 1 = W0.heap.size from sz0.symm]
    exact (GL.lit0 (α := Kin) true W0.heap.size W0.heap.size W0 49 (Nat.le_refl _)).top)
  have lw0 : w.heap.size < W0.heap.size := by omega
  go_enter Try.func75, Try.ntmps75
  go_wp2
  rw [← hW0]
  clear hW0 sz0
  go_loopw [3, 4, 5] (fun s3 s4 _ wr => ∃ (j : Nat) (kv : Int), j ≤ 8 ∧ kv = (j : Int) + 1 ∧ s4 = .int .i64 kv ∧ Hid (GL true W0.heap.size W0.heap.size wr.heap.size wr 49 s3 (moreTo t j)) ∧ Below W0.heap.size W0 wr) (fun _ s4 _ _ => 9 - (intOf s4).toNat)
  case atStart => exact ⟨0, 1, by omega, rfl, rfl, HG0, bwT⟩
  case round =>
    clear HG0
    obtain ⟨we, hwe⟩ : ∃ wm : World, wm = wr := ⟨_, rfl⟩
    subst hwe
    obtain ⟨j, kv, hj1, hkv, rfl, hM, hee⟩ := hrel
    have sE := hee.size
    have q_t0 := oldc hee lw0 qa_t0
    have q_t1 := oldc hee lw0 qa_t1
    have l_t : w.heap.size < we.heap.size := by omega
    have hew : Below w.heap.size w we := hB0.trans (hee.mono hB0.size)
    by_cases hlj : j < 8
    · have hk8 : kv ≤ 8 := by omega
      have hk1 : 1 ≤ kv := by omega
      obtain ⟨r1, hlet_r1⟩ : ∃ r, r = isKin (t.1, t.2 ++ [(kv, 0)]) := ⟨_, rfl⟩
      have HF := Lib.hid hlet_r1
      clear hlet_r1
      have hKS := Lib.hid (show moreTo t (j + 1) = moreTo t j ++ (if r1 = true then [(t.1, t.2 ++ [(kv, 0)])] else []) by rw [moreTo_succ, ← hkv, kinMore, ← HK.out, ← HF.out])
      have hkvn := Lib.hid (show kv + 1 = ((j + 1 : Nat) : Int) + 1 by omega)
      have hll : (moreTo t j).length ≤ 8 := by have := moreTo_len t j; omega
      clear hkv
      go_wp2_with (at_builtin; refine wpList_spread_flat rfl rfl slStep (by show (0 : Nat) < 2; omega) (GL.start true (we.heap.size + 1) (we.heap.size + 1) (we.heap.size + 1) _ _) rfl rfl (hZ.out.below ?k1) (by unfold maxLen; simp; omega) (by simp; omega) (by simp) ?_)
      case k1 => exact bwT
      intro v1 w1 hG1 _ hb1
      (try simp only [List.nil_append] at hG1)
      obtain ⟨vao, vcap, rfl, hv1, hv2⟩ := hG1.len
      have s1 := hb1.size
      simp only [World.size_alloc] at s1
      have u0 : w1.cell? ⟨we.heap.size, 0, none⟩ = some (.int .i64 t.1) := oldc hb1 (by omega) (by simp [go_sem])
      have u1 : w1.cell? ⟨we.heap.size, 1, none⟩ = some (.slice none 0 0) := oldc hb1 (by omega) (by simp [go_sem])
      have uf : ∀ o, w1.frozen? ⟨we.heap.size, o, none⟩ = false := fun o => (hb1.frozen (p := ⟨we.heap.size, o, none⟩) (by simp)).trans (by simp [go_sem])
      have hbe1 : Below we.heap.size we w1 := Below.trans (show Below we.heap.size we _ from bwT) (hb1.mono (by omega))
      clear hb1
      go_wp2_with (at_builtin; refine wpList_push_at rfl rfl slStep (by show (0 : Nat) < 2; omega) ((hG1.keep ?k2 ?k3).alloc _) rfl (ad := ⟨w1.heap.size, 0, none⟩) rfl (cs := [.int .i64 kv, .int .i64 0]) (y := ((kv, 0) : Stp)) (lx := w1.heap.size + 1) (hx' := w1.heap.size + 1) ?k4 (It.flat (z := true) (w0 := w1) (fp := []) (repStp_mk ⟨by omega, by omega⟩ ⟨by omega, by omega⟩)) (by omega) (.inl (by omega)) (by unfold maxLen; omega) (by omega) ?k5 ?_)
      case k2 => exact znT
      case k3 => exact znT
      case k4 =>
        intro j c hj
        match j, hj with
        | 0, hj => simp at hj; subst hj; simp [Addr.add, go_sem]
        | 1, hj => simp at hj; subst hj; simp [Addr.add, go_sem]
      case k5 => simp; omega
      intro g4 cap4 w4 hG4 hg4 hb4 hat4
      have s4 := hb4.size
      simp only [World.size_alloc, World.size_setCell] at s4
      have lu : we.heap.size < w1.heap.size := by omega
      have q_u0 : w4.cell? ⟨we.heap.size, 0, none⟩ = some (.int .i64 t.1) := oldc hb4 (by omega) (by simp [go_sem, u0, u1, lu])
      have q_u1 : w4.cell? ⟨we.heap.size, 1, none⟩ = some (.slice vao t.2.length vcap) := oldc hb4 (by omega) (by simp [go_sem, u0, u1, lu])
      have f_u : ∀ o, w4.frozen? ⟨we.heap.size, o, none⟩ = false := fun o => (hb4.frozen (p := ⟨we.heap.size, o, none⟩) (by simp)).trans (by simp [go_sem, uf, lu])
      have HO4 := Lib.hid (hG4.ow (l0 := we.heap.size + 1) (Nat.le_refl _) (Nat.le_refl _))
      have hbe4 : Below we.heap.size we w4 := Below.trans (show Below we.heap.size we _ from (hbe1.setCell (p := ⟨we.heap.size, 1, none⟩) (Nat.le_refl _) _).alloc (by simp; omega) _) (hb4.mono (by omega))
      clear hG1 hG4 hg4 hb4 hat4 u0 u1 uf
      go_wp2_with fail
      refine (isTypeS_b _ _ _ (t.1, t.2 ++ [(kv, 0)]) (Rd.kin_mk HI.out (HO4.out.rd.keep ?k6)) r1 HF.out).mono ?_
      case k6 => exact znT
      rintro e w6 ⟨rfl, hb6⟩
      have s6 := hb6.size
      simp only [World.size_setCell] at s6
      have HO6 : Ow (we.heap.size + 1) w4.heap.size w6 [.int .i64 t.1, .slice (some ⟨g4, 0, none⟩) (t.2.length + 1) cap4] ((t.1, t.2 ++ [(kv, 0)]) : Kin) := by
        refine Ow.below (Ow.kin_mk HI.out (HO4.out.keep ?_)) hb6
        exact znT
      have HO6 := Lib.hid HO6
      have q_u0 : w6.cell? ⟨we.heap.size, 0, none⟩ = some (.int .i64 t.1) := oldc hb6 (by simp; omega) (by simp [go_sem, q_u0, q_u1])
      have q_u1 : w6.cell? ⟨we.heap.size, 1, none⟩ = some (.slice (some ⟨g4, 0, none⟩) (t.2.length + 1) cap4) := oldc hb6 (by simp; omega) (by simp [go_sem, q_u0, q_u1])
      have hbe6 : Below we.heap.size we w6 := Below.trans (show Below we.heap.size we _ from hbe4.setCell (p := ⟨we.heap.size, 1, none⟩) (Nat.le_refl _) _) (hb6.mono (by simp; omega))
      have hM6 := Lib.hid (hM.out.below hbe6)
      have hee6 : Below W0.heap.size W0 w6 := hee.trans (hbe6.mono sE)
      clear hb6 HO4 hM hbe6 hbe4 hbe1 HF
      cases r1
      · have HN := Lib.hid hM6.out.top
        rw [show moreTo t j = moreTo t (j + 1) by rw [hKS.out]; simp] at HN
        clear hM6 hKS HO6
        go_wp2
        go_roundw
        case rel => exact ⟨j + 1, kv + 1, by omega, hkvn.out, rfl, HN, hee6⟩
        case measure => simp [intOf]; omega
      · go_wp2_with (at_builtin; refine wpList_push_at rfl rfl slKin (by show (0 : Nat) < 2; omega) (hM6.out.alloc _) rfl (ad := ⟨w6.heap.size, 0, none⟩) rfl (cs := [.int .i64 t.1, .slice (some ⟨g4, 0, none⟩) (t.2.length + 1) cap4]) (y := ((t.1, t.2 ++ [(kv, 0)]) : Kin)) (lx := we.heap.size + 1) (hx' := w4.heap.size) ?k7 ((Ow.it HO6.out).keep ?k8) (by omega) (.inl (by omega)) (by unfold maxLen; omega) (by omega) ?k9 ?_)
        case k7 =>
          intro j c hj
          match j, hj with
          | 0, hj => simp at hj; subst hj; simp [Addr.add, go_sem]
          | 1, hj => simp at hj; subst hj; simp [Addr.add, go_sem]
        case k8 => exact Zone.alloc (Zone.refl _ _ _) (by omega) _
        case k9 => simp; omega
        intro g8 cap8 w8 hG8 hg8 hb8 hat8
        have HN := Lib.hid hG8
        rw [show moreTo t j ++ [(t.1, t.2 ++ [(kv, 0)])] = moreTo t (j + 1) by rw [hKS.out]; simp] at HN
        have hee8 : Below W0.heap.size W0 w8 := Below.trans (hee6.alloc (by omega) _) hb8
        clear hM6 hKS HO6 hG8 hg8 hb8 hat8
        go_wp2
        go_roundw
        case rel => exact ⟨j + 1, kv + 1, by omega, hkvn.out, rfl, HN, hee8⟩
        case measure => simp [intOf]; omega
    · obtain rfl : j = 8 := by omega
      have hk8 : ¬ kv ≤ 8 := by omega
      have HW := Lib.hid (hM.out.ow (l0 := w.heap.size) (by omega) (by omega))
      clear hM
      go_wp2
      go_ret
      exact ⟨_, rfl, HW.out, hew⟩

end

/-! ### Sub -/
section

theorem sub_flat {α : Type} {a b : List (List α)} (h : List.Sublist a b) : List.Sublist a.flatten b.flatten := by
  induction h with
  | slnil => exact List.Sublist.refl _
  | cons x _ ih => rw [List.flatten_cons]; exact ih.trans (List.sublist_append_right x _)
  | cons_cons x _ ih => rw [List.flatten_cons, List.flatten_cons]; exact (List.Sublist.refl x).append ih
/-- The row is the call's own, from lo on; the items' footprints are some of FP, in order; all of them lie below lo. -/
def GS {α : Type} [Rep α] (lo : Nat) (w : World) (E : TypeId) (v : Value) (xs : List α) (FP : List (List Nat)) : Prop :=
  ∃ css fps, w.ownsRow lo E (Rep.sz α) v xs.length css.flatten ∧ Zip (Rep.rep true w) css xs fps ∧ List.Sublist fps FP ∧ ∀ b ∈ fps.flatten, b < lo

section
variable {α : Type} [Rep α] {lo : Nat} {w w' : World} {E : TypeId} {v : Value} {xs : List α} {FP : List (List Nat)}
theorem GS.start (lo : Nat) (w : World) (E : TypeId) : GS (α := α) lo w E (.slice none 0 0) [] [] :=
  ⟨[], [], by simpa using World.ownsRow_nil w lo E (Rep.sz α), trivial, List.Sublist.refl _, by simp⟩
theorem GS.skip (h : GS lo w E v xs FP) (f : List Nat) : GS lo w E v xs (FP ++ [f]) := by
  obtain ⟨css, fps, ho, hz, hs, hb⟩ := h
  exact ⟨css, fps, ho, hz, hs.trans (List.sublist_append_left _ _), hb⟩
theorem GS.below (h : GS lo w E v xs FP) (hb : Below w.heap.size w w') : GS lo w' E v xs FP := by
  obtain ⟨css, fps, ho, hz, hs, hl⟩ := h
  refine ⟨css, fps, ⟨ho.1, ?_⟩, hz.keep (fun b hb' => hb.block b (hz.lt b hb')), hs, hl⟩
  rcases ho.2 with h | ⟨g, cap, cur, rfl, hbb, hh, r⟩
  · exact .inl h
  · exact .inr ⟨g, cap, cur, rfl, hbb, by rw [hb.block g (ho.lt g rfl).2]; exact hh, r⟩
theorem GS.alloc (h : GS lo w E v xs FP) (o : Obj) : GS lo (w.alloc o) E v xs FP := h.below ((Below.refl _ _).alloc (Nat.le_refl _) o)
theorem GS.len (h : GS lo w E v xs FP) : ∃ ao cap, v = .slice ao xs.length cap ∧ xs.length ≤ cap ∧ cap ≤ maxLen := by
  obtain ⟨css, fps, ho, _⟩ := h
  rcases ho.2 with ⟨rfl, h⟩ | ⟨g, cap, cur, rfl, hbb, hh, h1, h2, r⟩
  · rw [h]; exact ⟨none, 0, rfl, Nat.le_refl _, by simp [maxLen]⟩
  · exact ⟨_, cap, rfl, h1, h2⟩
/-- What has been picked is owned. -/
theorem GS.ow (h : GS lo w E v xs FP) (hn : FP.flatten.Nodup) {l0 : Nat} (h0 : l0 ≤ lo) (hz0 : ∀ b ∈ FP.flatten, l0 ≤ b) : Ow l0 w.heap.size w [v] xs := by
  obtain ⟨css, fps, ho, hz, hs, hl⟩ := h
  have hsub : List.Sublist fps.flatten FP.flatten := sub_flat hs
  rcases ho.2 with ⟨rfl, h⟩ | ⟨g, cap, cur, rfl, hbb, hh, h3, h4, h5, h6⟩
  · exact ⟨[], ⟨_, rfl, none, 0, 0, rfl, h, Nat.le_refl _, by simp [maxLen], fun _ => rfl, .inl ⟨rfl, rfl⟩⟩, (fun _ h => by cases h), List.nodup_nil⟩
  · refine ⟨g :: fps.flatten, ⟨_, rfl, some ⟨g, 0, none⟩, xs.length, cap, rfl, rfl, h3, h4, (fun h => by cases h), .inr ⟨g, 0, css, fps, rfl, (ho.lt g rfl).2, rfl, hz, ?_, ?_⟩⟩, ?_, List.nodup_cons.2 ⟨fun hm => by have := hl g hm; omega, hsub.nodup hn⟩⟩
    · intro j c hj
      have := ho.cells (g := g) rfl j c hj
      by_cases hj0 : j = 0
      · subst hj0; simpa [Addr.add] using this
      · simpa [Addr.add, hj0] using this
    · intro _ o
      simp [World.frozen?, hh]
    · intro b hb
      rcases List.mem_cons.1 hb with rfl | hb
      · exact ⟨Nat.le_trans h0 hbb, (ho.lt b rfl).2⟩
      · exact ⟨hz0 b (hsub.subset hb), hz.lt b hb⟩
end
section
variable {P : Program} {α : Type} [Rep α] {lo : Nat} {w : World} {E : TypeId} {v : Value} {xs : List α} {FP : List (List Nat)}
end
/-! ### a list that may still be the empty literal -/
section
variable {P : Program} (w : World)
end
/-- As GS, or nothing has been picked and the list is an empty literal. -/
def GZ {α : Type} [Rep α] (lo : Nat) (w : World) (E : TypeId) (v : Value) (xs : List α) (FP : List (List Nat)) : Prop := GS lo w E v xs FP ∨ (xs = [] ∧ ∃ a0, v = .slice (some a0) 0 0)
section
variable {α : Type} [Rep α] {lo : Nat} {w w' : World} {E : TypeId} {v : Value} {xs : List α} {FP : List (List Nat)}
theorem GZ.skip (h : GZ lo w E v xs FP) (f : List Nat) : GZ lo w E v xs (FP ++ [f]) := h.imp (fun h => h.skip f) id
theorem GZ.below (h : GZ lo w E v xs FP) (hb : Below w.heap.size w w') : GZ lo w' E v xs FP := h.imp (fun h => h.below hb) id
theorem GZ.alloc (h : GZ lo w E v xs FP) (o : Obj) : GZ lo (w.alloc o) E v xs FP := h.imp (fun h => h.alloc o) id
theorem GZ.start (lo : Nat) (w : World) (E : TypeId) : GZ (α := α) lo w E (.slice none 0 0) [] [] := .inl (GS.start _ _ _)
theorem GZ.lit0 (lo : Nat) (w : World) (E : TypeId) (a0 : Addr) : GZ (α := α) lo w E (.slice (some a0) 0 0) [] [] := .inr ⟨rfl, a0, rfl⟩
theorem GZ.len (h : GZ lo w E v xs FP) : ∃ ao cap, v = .slice ao xs.length cap ∧ xs.length ≤ cap ∧ cap ≤ maxLen := by
  rcases h with h | ⟨rfl, a0, rfl⟩
  · exact h.len
  · exact ⟨_, 0, rfl, Nat.le_refl _, by simp [maxLen]⟩
theorem GZ.ow (h : GZ lo w E v xs FP) (hn : FP.flatten.Nodup) {l0 : Nat} (h0 : l0 ≤ lo) (hz0 : ∀ b ∈ FP.flatten, l0 ≤ b) : Ow l0 w.heap.size w [v] xs := by
  rcases h with h | ⟨rfl, a0, rfl⟩
  · exact h.ow hn h0 hz0
  · exact ⟨[], ⟨_, rfl, _, 0, 0, rfl, rfl, Nat.le_refl _, by simp [maxLen], (fun h => by cases h), .inl ⟨rfl, rfl⟩⟩, (fun _ h => by cases h), List.nodup_nil⟩
end
section
variable {P : Program} {α : Type} [Rep α] {lo : Nat} {w : World} {E : TypeId} {v : Value} {xs : List α} {FP : List (List Nat)}
end
/-- The items of an owned list, with their footprints. -/
theorem Ow.items {α : Type} [Rep α] {lo hi : Nat} {w : World} {ao : Option Addr} {n cap : Nat} {xs : List α} (h : Ow lo hi w [.slice ao n cap] xs) : ∃ FPS : List (List Nat), FPS.length = xs.length ∧ FPS.flatten.Nodup ∧ (∀ b ∈ FPS.flatten, lo ≤ b ∧ b < hi) ∧
    ∀ i x, xs[i]? = some x → ∃ b off cs fp, ao = some ⟨b, off, none⟩ ∧ FPS[i]? = some fp ∧ Rep.rep true w cs x fp ∧ (∀ j c, cs[j]? = some c → w.cell? ⟨b, off + (i * Rep.sz α + j), none⟩ = some c) := by
  obtain ⟨fp, ⟨_, e, ao', n', cap', e2, e1, -, -, -, hr⟩, hz, hn⟩ := h
  simp only [List.cons.injEq, and_true] at e
  subst e
  simp only [Value.slice.injEq] at e2
  obtain ⟨rfl, rfl, rfl⟩ := e2
  rcases hr with ⟨h0, rfl⟩ | ⟨b, off, css, fps, rfl, hb, rfl, hzip, hcells, -⟩
  · have hx : xs = [] := List.eq_nil_of_length_eq_zero (by omega)
    subst hx
    exact ⟨[], rfl, List.nodup_nil, (fun b hb => by simp at hb), fun i x hi => by simp at hi⟩
  · refine ⟨fps, hzip.lens.2, (List.nodup_cons.1 hn).2, fun b hb => hz b (List.mem_cons_of_mem _ hb), fun i x hi => ?_⟩
    obtain ⟨cs, f, h1, h2, h3⟩ := hzip.get hi
    refine ⟨b, off, cs, f, rfl, h2, h3, fun j c hj => ?_⟩
    have hjl : j < Rep.sz α := by
      have := (List.getElem?_eq_some_iff.1 hj).1
      rw [Rep.len h3] at this; exact this
    refine hcells _ c ?_
    rw [cellsAt_flat hzip.sizes h1 j hjl]; exact hj

end

end Go.Proofs.Ytefbbbhidnnchaa
