/- The sort that impl.AllRegular makes: the systems that the call owns, ascending. -/
import Derived.Test.YtlnhhfebmeekhaaSortI
import Derived.Test.YtlnhhfebmeekhaaDClasses
import Derived.Test.YtlnhhfebmeekhaaArg
namespace Go.Proofs.Ytlnhhfebmeekhaa
set_option linter.unusedVariables false
set_option linter.unusedSimpArgs false
open Go.RowKit Go.Shelf

set_option maxHeartbeats 2000000 in
theorem lessA_b {lo hi : Nat} {W : World} {v : Value} {B : Nat} {ys : List Cls} (hB : W.cell? ⟨B, 0, none⟩ = some v) (h : Rd false lo hi W [v] ys) (i j : Nat) (hi' : i < ys.length) (hj : j < ys.length) (hl : ys.length < 4611686018427387904) (r : Bool) (hr : r = lexC ys[i] ys[j]) :
    Calls Try.prog 43 #[.int .i64 i, .int .i64 j, .pointer (some ⟨B, 0, none⟩)] W (PostB W r) := by
  obtain ⟨ao, n, cap, rfl, hn, -⟩ := h.shape
  subst hn
  obtain ⟨b, off, x1, y1, vx, vy, e, hx, c0, c1, hvx, hvy, hR1, -, -, hb⟩ := h.dCls_at hi'
  subst e
  obtain ⟨b2, off2, x2, y2, vx2, vy2, e, hy, d0, d1, hvx2, hvy2, hR2, -, -, -⟩ := h.dCls_at hj
  simp only [Option.some.injEq, Addr.mk.injEq, and_true] at e
  obtain ⟨rfl, rfl⟩ := e
  obtain ⟨a1, n1, p1, rfl, -⟩ := hvx.shape
  obtain ⟨a2, n2, p2, rfl, -⟩ := hvy.shape
  obtain ⟨a3, n3, p3, rfl, -⟩ := hvx2.shape
  obtain ⟨a4, n4, p4, rfl, -⟩ := hvy2.shape
  have e1 : ys[i] = (x1, y1) := by have := hx.out; rw [List.getElem?_eq_getElem hi'] at this; exact Option.some.inj this
  have e2 : ys[j] = (x2, y2) := by have := hy.out; rw [List.getElem?_eq_getElem hj] at this; exact Option.some.inj this
  rw [e1, e2] at hr
  have HR := Lib.hid hr
  have H1 := Lib.hid hR1
  have H2 := Lib.hid hR2
  have hiI : (i : Int) < (ys.length : Int) := by omega
  have hjI : (j : Int) < (ys.length : Int) := by omega
  have hBl : B < W.heap.size := World.block_lt_of_cell? W ⟨B, 0, none⟩ hB
  clear hr hR1 hR2 h hx hy e1 e2 hvx hvy hvx2 hvy2
  go_enter Try.func43, Try.ntmps43
  go_upto_region 1 with fail
  refine wp_region_held_drew (S := (fun w' => w'.cell? ⟨B, 0, none⟩ = some (.slice (some ⟨b, off, none⟩) ys.length cap) ∧ w'.cell? ⟨b, off + i * 2, none⟩ = some (.slice a1 n1 p1) ∧ w'.cell? ⟨b, off + i * 2 + 1, none⟩ = some (.slice a2 n2 p2) ∧ w'.cell? ⟨b, off + j * 2, none⟩ = some (.slice a3 n3 p3) ∧ w'.cell? ⟨b, off + j * 2 + 1, none⟩ = some (.slice a4 n4 p4))) (by kernel_rfl) ?_ (fun hHeld => ?_)
  · first | exact trivial | ((try dsimp only); go_keep)
  refine tkR 0 (v := ?_) ?_ ?_
  rotate_left
  · intro w hSw; (try dsimp only at hSw); go_simp <;> with_reducible rfl
  try simp only [Act.put, List.setIfInBounds_toArray, List.set_cons_zero, List.set_cons_succ]
  refine tkR 1 (v := ?_) ?_ ?_
  rotate_left
  · intro w hSw; (try dsimp only at hSw); go_simp <;> with_reducible rfl
  try simp only [Act.put, List.setIfInBounds_toArray, List.set_cons_zero, List.set_cons_succ]
  refine tkR 4 (v := ?_) ?_ ?_
  rotate_left
  · intro w hSw; (try dsimp only at hSw); go_simp <;> with_reducible rfl
  try simp only [Act.put, List.setIfInBounds_toArray, List.set_cons_zero, List.set_cons_succ]
  refine tkR 5 (v := ?_) ?_ ?_
  rotate_left
  · intro w hSw; (try dsimp only at hSw); go_simp <;> with_reducible rfl
  try simp only [Act.put, List.setIfInBounds_toArray, List.set_cons_zero, List.set_cons_succ]
  refine tkR 2 (v := ?_) ?_ ?_
  rotate_left
  · intro w hSw; (try dsimp only at hSw); go_simp <;> with_reducible rfl
  try simp only [Act.put, List.setIfInBounds_toArray, List.set_cons_zero, List.set_cons_succ]
  refine tkR 6 (v := ?_) ?_ ?_
  rotate_left
  · intro w hSw; (try dsimp only at hSw); go_simp <;> with_reducible rfl
  try simp only [Act.put, List.setIfInBounds_toArray, List.set_cons_zero, List.set_cons_succ]
  refine tkR 3 (v := ?_) ?_ ?_
  rotate_left
  · intro w hSw; (try dsimp only at hSw); go_simp <;> with_reducible rfl
  try simp only [Act.put, List.setIfInBounds_toArray, List.set_cons_zero, List.set_cons_succ]
  refine tkR 7 (v := ?_) ?_ ?_
  rotate_left
  · intro w hSw; (try dsimp only at hSw); go_simp <;> with_reducible rfl
  try simp only [Act.put, List.setIfInBounds_toArray, List.set_cons_zero, List.set_cons_succ]
  refine wpAnyH_ready (rs := [8]) (by kernel_rfl) (by simp) ?_
  refine rdR (fun K hK => ?_) ?_
  · go_simp
    refine (lessClasses_b _ _ _ _ _ (x1, y1) (x2, y2) (H1.out.below ?b0) (H2.out.below ?b1) r HR.out).mono ?_
    case b0 => exact bwT
    case b1 => exact bwT
    rintro e5 w5 ⟨rfl, hb5⟩
    have hp5 : Below W.heap.size W w5 := Below.trans (show Below W.heap.size W _ from bwT) (hb5.mono szT)
    have hS5 := And.intro (oldc hp5 hBl hB) (And.intro (oldc hp5 hb c0) (And.intro (oldc hp5 hb c1) (And.intro (oldc hp5 hb d0) (oldc hp5 hb d1))))
    clear hb5
    refine hK.out _ _ ?_ (fun hHeld => ?_)
    · exact kpT
    clear hK K
    try simp only [Act.put, List.setIfInBounds_toArray, List.set_cons_zero, List.set_cons_succ]
    refine tkR 9 (v := ?_) ?_ ?_
    rotate_left
    · intro w hSw; (try dsimp only at hSw); go_simp <;> with_reducible rfl
    try simp only [Act.put, List.setIfInBounds_toArray, List.set_cons_zero, List.set_cons_succ]
    refine wpAnyH_done (by kernel_rfl) ?_ _
    clear hHeld
    go_wp2
    go_ret
    exact ⟨rfl, hp5⟩
  exact AllReadyH.nil
theorem infoCC : ∃ i, Try.prog.info? 22 = some i ∧ i.desc = .slice 30 := by
  have h : (Try.prog.info? 22).map (·.desc) = some (.slice 30) := by kernel_rfl
  cases hi : Try.prog.info? 22 with
  | none => rw [hi] at h; cases h
  | some i => rw [hi] at h; exact ⟨i, rfl, Option.some.inj h⟩
theorem infoC : ∃ i, Try.prog.info? 30 = some i ∧ i.size = 2 ∧ i.hasPointers = true ∧ i.bytes = 48 := by
  have h : (Try.prog.info? 30).map (fun i => (i.size, i.hasPointers, i.bytes)) = some (2, true, 48) := by kernel_rfl
  cases hi : Try.prog.info? 30 with
  | none => rw [hi] at h; cases h
  | some i =>
    rw [hi] at h
    have h2 := Option.some.inj h
    simp only [Prod.mk.injEq] at h2
    exact ⟨i, rfl, h2.1, h2.2.1, h2.2.2⟩
theorem swapKC {n : Nat} {ie : TypeInfo} (hp : ie.hasPointers = true) (hb : ie.bytes = 48) : Lib.swapperK n ie 25 = if n = 0 then 1 else if n = 1 then 2 else 9 := by
  unfold Lib.swapperK
  rw [hp, hb]
  by_cases h0 : n = 0
  · simp [h0]
  · by_cases h1 : n = 1
    · simp [h1]
    · simp [h0, h1]
theorem sortA_any {lo up : Nat} (w : World) (B : Nat) (v : Value) (o : List Cls) (hB : w.cell? ⟨B, 0, none⟩ = some v) (hBl : B < w.heap.size) (hBv : some B ≠ v.ownBlock) (hown : Ow lo up w [v] o) (hl : o.length ≤ 12) :
    Calls Try.prog 42 #[.iface 22 v, .func (.func 43) #[] #[.pointer (some ⟨B, 0, none⟩)]] w (PostSrt lexC lo up w v.ownBlock.toList v o) := by
  obtain ⟨i, hi, hd⟩ := infoCC
  obtain ⟨ie, hie, hs, hp, hb⟩ := infoC
  obtain ⟨ao, n, cap, rfl, hn, -⟩ := hown.rd.shape
  subst hn
  by_cases h2 : 2 ≤ o.length
  · obtain ⟨blk, off, -, -, rfl, -⟩ := hown.rd.at (i := 0) (by omega)
    have hne : B ≠ blk := fun e => hBv (by rw [e]; rfl)
    have hless : LessB Try.prog 43 #[.pointer (some ⟨B, 0, none⟩)] lexC w blk (.slice (some ⟨blk, off, none⟩) o.length cap) o := by
      intro W ys hyl _ hoff hR i j hi hj
      exact lessA_b (B := B) ((World.cell?_of_block (w := w) (a := ⟨B, 0, none⟩) (hoff.block B hBl (by simpa using hne))).trans hB) hR i j hi hj (by omega) _ rfl
    have hS := sort_lays 22 30 i ie hi hd (by kernel_rfl) hie 25 (fun _ => by kernel_rfl) hs (by show (0 : Nat) < 2; omega) (fun _ => by kernel_rfl) lexC lexC_wo 43 #[.pointer (some ⟨B, 0, none⟩)]
      (enters_of Try.func43 (by kernel_rfl) rfl) 112 o.length h2 hl (by rw [swapKC hp hb, if_neg (by omega), if_neg (by omega)]; kernel_rfl) false
      (fun args W => run_callFunc_extern Try.func112 (by kernel_rfl) (by kernel_rfl) (by kernel_rfl) (e := Extern.ReflectliteSwapper.swap false) (by kernel_rfl) args W) w blk off cap o hown hless
    exact hS
  · have hS := sort_few (α := Cls) sa6 22 30 i ie hi hd (by kernel_rfl) hie 25 (fun _ => by kernel_rfl) lexC (.func 43) #[] #[.pointer (some ⟨B, 0, none⟩)] (if o.length = 0 then 104 else 105) ao o.length cap (by omega)
      (by
        rw [swapKC hp hb]
        by_cases h0 : o.length = 0
        · rw [if_pos h0, if_pos h0]; kernel_rfl
        · rw [if_neg h0, if_neg h0, if_pos (by omega)]; kernel_rfl) w o (Value.slice ao o.length cap).ownBlock.toList hown
    exact hS
end Go.Proofs.Ytlnhhfebmeekhaa
