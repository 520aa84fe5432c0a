/- Contracts of tiesOf (impl) and of the function that it makes. -/
import Derived.Test.YtefbbbhidnnchaaAsg
import Derived.Test.YtefbbbhidnnchaaZ14D
namespace Go.Proofs.Ytefbbbhidnnchaa
set_option linter.unusedVariables false
set_option linter.unusedSimpArgs false
open Go.RowKit

section
variable {P : Program} {α : Type} [Rep α] {nd : Bool} {lo lo' hi : Nat} {w : World} {E : TypeId} {v : Value} {xs : List α}
theorem step_pushes {ops : Array Oper} {o : Oper} {a : Act} {K : Act → World → Prop} {Q : Exit → Act → World → Prop} {EE : Prop} (hgd : o.guard = none) {s x : Operand} {t : TypeId}
    (ho : o.op = .call { callee := .builtin .append, args := #[s, x], argTypes := #[t, t] })
    {z0 : Value} {bytes : Nat} (hT : SlTy P t E z0 (Rep.sz α) bytes) (hsz : 0 < Rep.sz α) (hG : GL nd lo lo' hi w E v xs) (hs : a.eval s = v)
    {ad : Addr} {m c : Nat} (hx : a.eval x = .slice (some ad) m c) {css' : List (List Value)} {ys : List α} {fps' : List (List Nat)} (hm : ys.length = m) (hm0 : 0 < m) (hz' : Zip (Rep.rep nd w) css' ys fps') (hcells : ∀ j u, css'.flatten[j]? = some u → w.cell? (ad.add j) = some u)
    (hd : ∀ b ∈ fps'.flatten, lo' ≤ b ∧ some b ≠ v.ownBlock) (hn' : nd = true → fps'.flatten.Nodup ∧ ∀ b ∈ fps'.flatten, hi ≤ b ∨ b < lo')
    (h63 : xs.length + m ≤ maxLen) (hbytes : (xs.length + m) * bytes ≤ 140737488355328) (hlo : lo ≤ w.heap.size) {H : Nat} (hH : w.heap.size = H) {n : Nat} (hn : xs.length + m = n)
    (h : ∀ g cap w', GL nd lo lo' w'.heap.size w' E (.slice (some ⟨g, 0, none⟩) n cap) (xs ++ ys) → w.grownBy w' v.ownBlock → (v.ownBlock = some g ∨ g = H) → lo ≤ g → g < w'.heap.size → Below lo w w' → K (a.put o.dst (.slice (some ⟨g, 0, none⟩) n cap)) w') :
    if Region.wanted o (yielded ops a.tmps) = true then Oper.wp P o a w K Q else EE := by
  have hw : Region.wanted o (yielded ops a.tmps) = true := by simp [Region.wanted, hgd]
  rw [if_pos hw]
  subst hH hn hm
  obtain ⟨v', w', hrun, h2, h3, hv, h5⟩ := run_push (P := P) (t := t) (ty := o.type) hT hsz hG (ao := some ad) (c := c) hz' (fun h => by cases h)
    (fun a e => by simp only [Option.some.injEq] at e; subst e; exact hcells) hd hn' h63 hbytes hlo
  unfold Oper.wp execOp
  simp only [ho, resolve, invoke, builtin, Sem.run_bind, Sem.run_pure, Result.andThen_ok, List.map_toArray, List.map_cons, List.map_nil, hs, hx]
  rw [hrun]
  obtain ⟨g, cap, e, hlg, hgw⟩ := h2.form (by rw [List.length_append]; omega)
  rw [List.length_append] at e
  subst e
  refine h g cap w' h2 h3 ?_ hlg hgw h5
  rcases hv with hv | hv
  · exact .inl (by rw [← hv]; rfl)
  · right; simpa [Value.ownBlock] using hv
end

theorem slTie : SlTy Try.prog 73 115 (.agg #[.int .i64 0, .int .i64 0, .slice none 0 0]) 3 40 := SlTy.of Try.underlying73 (by kernel_rfl) rfl
theorem repTie_mk {z : Bool} {w : World} {a b : Int} {v : Value} {π : List Int} {fp : List Nat} (ha : I64 a) (hb : I64 b) (h : Rep.rep z w [v] π fp) : Rep.rep z w [.int .i64 a, .int .i64 b, v] ((a, b, π) : Tie) fp :=
  ⟨[_], _, [], fp, rfl, rfl, ⟨rfl, ha, rfl⟩, ⟨[_], _, [], fp, rfl, rfl, ⟨rfl, hb, rfl⟩, h⟩⟩
theorem repTie_inv {z : Bool} {w : World} {cs : List Value} {t : Tie} {fp : List Nat} (h : Rep.rep z w cs t fp) : ∃ v, cs = [.int .i64 t.1, .int .i64 t.2.1, v] ∧ I64 t.1 ∧ I64 t.2.1 ∧ Rep.rep z w [v] t.2.2 fp := by
  obtain ⟨c1, c2, f1, f2, rfl, rfl, ⟨rfl, h1, rfl⟩, ⟨c3, c4, f3, f4, rfl, rfl, ⟨rfl, h2, rfl⟩, h3⟩⟩ := h
  have h3' := h3
  obtain ⟨v, rfl, _⟩ := h3'
  exact ⟨v, rfl, h1, h2, h3⟩
theorem Rd.tie_at {z : Bool} {lo hi : Nat} {w : World} {xs : List Tie} {ao : Option Addr} {n cap : Nat} (h : Rd z lo hi w [.slice ao n cap] xs) {i : Nat} (hi' : i < n) :
    ∃ (b off : Nat) (t : Tie) (v : Value), ao = some ⟨b, off, none⟩ ∧ Hid (xs[i]? = some t) ∧ w.cell? ⟨b, off + i * 3, none⟩ = some (.int .i64 t.1) ∧ w.cell? ⟨b, off + i * 3 + 1, none⟩ = some (.int .i64 t.2.1) ∧ w.cell? ⟨b, off + i * 3 + 2, none⟩ = some v ∧ I64 t.1 ∧ I64 t.2.1 ∧ Rd z lo hi w [v] t.2.2 ∧ lo ≤ b ∧ b < hi ∧ b < w.heap.size := by
  obtain ⟨b, off, t, cs, e, hx, ⟨fp, hr, hz⟩, _, g1, g2, g3, hc, hf⟩ := h.at hi'
  obtain ⟨v, rfl, h1, h2, h3⟩ := repTie_inv hr
  refine ⟨b, off, t, v, e, hx, ?_, ?_, ?_, h1, h2, ⟨fp, h3, hz⟩, g1, g2, g3⟩
  · have := hc 0 (.int .i64 t.1) rfl; simpa [Rep.sz, Nat.add_assoc] using this
  · have := hc 1 (.int .i64 t.2.1) rfl; simpa [Rep.sz, Nat.add_assoc] using this
  · have := hc 2 v rfl; simpa [Rep.sz, Nat.add_assoc] using this

theorem ints_far {w : World} {B : Nat} {u : Value} {T : TypeId} (hv : w.heap[B]? = some (.cells #[u] T (0, 0))) (hu : ∀ k x, u ≠ .int k x) {v : Value} {π : List Int} {fp : List Nat} (h : Rep.rep false w [v] π fp) (hn : 0 < π.length) : ∀ b ∈ fp, b ≠ B := by
  obtain ⟨_, e, ao, n, cap, rfl, hl, -, -, -, hr⟩ := h
  simp only [List.cons.injEq, and_true] at e; subst e
  rcases hr with ⟨h0, -⟩ | ⟨b, off, css, fps, rfl, hb, rfl, hz, hc, -⟩
  · omega
  · obtain ⟨hfl, -⟩ := flats hz
    intro c hcm e
    rw [hfl] at hcm
    simp only [List.mem_singleton] at hcm
    subst hcm e
    obtain ⟨x, hx⟩ : ∃ x, π[0]? = some x := ⟨π[0], List.getElem?_eq_getElem hn⟩
    obtain ⟨c0, f0, h1, -, rfl, -, -⟩ := hz.get hx
    have h2 : css.flatten[0]? = some (.int .i64 x) := by
      cases css with
      | nil => simp at h1
      | cons d ds => simp at h1; subst h1; simp
    have h3 := hc 0 _ h2
    rw [Nat.add_zero] at h3
    by_cases h0 : off = 0
    · subst h0
      have := (cell_of_one hv).symm.trans h3
      exact hu _ _ (Option.some.inj this)
    · have : w.cell? ⟨c, off, none⟩ = none := by
        unfold World.cell?
        simp only [hv]
        simp; omega
      rw [this] at h3; cases h3
theorem ties_far {w : World} {B : Nat} {u : Value} {T : TypeId} (hv : w.heap[B]? = some (.cells #[u] T (0, 0))) (hu : ∀ k x, u ≠ .int k x) : ∀ {css : List (List Value)} {xs : List Tie} {fps : List (List Nat)}, Zip (Rep.rep false w) css xs fps → (∀ t ∈ xs, 0 < t.2.2.length) → ∀ b ∈ fps.flatten, b ≠ B
  | [], [], [], _, _ => fun b hb => by simp at hb
  | c :: css, t :: xs, f :: fps, h, hn => fun b hb => by
    obtain ⟨h1, h2⟩ := h
    rw [List.flatten_cons, List.mem_append] at hb
    rcases hb with hb | hb
    · obtain ⟨v, -, -, -, h3⟩ := repTie_inv h1
      exact ints_far hv hu h3 (hn t (by simp)) b hb
    · exact ties_far hv hu h2 (fun t ht => hn t (by simp [ht])) b hb
  | _ :: _, [], _, h, _ => h.elim
  | [], _ :: _, _, h, _ => h.elim
  | [], [], _ :: _, h, _ => h.elim
  | _ :: _, _ :: _, [], h, _ => h.elim
/-- The variable that holds the list is written. -/
theorem GL.cellB {LO hi B : Nat} {w : World} {E : TypeId} {v : Value} {xs : List Tie} (h : GL false LO 0 hi w E v xs) (hB : B < LO) {u : Value} {T : TypeId} (hv : w.heap[B]? = some (.cells #[u] T (0, 0))) (hu : ∀ k x, u ≠ .int k x) (hn : ∀ t ∈ xs, 0 < t.2.2.length) (u' : Value) : GL false LO 0 hi (w.setCell ⟨B, 0, none⟩ u') E v xs := by
  obtain ⟨css, fps, ho, hz, hf, hg, hnd⟩ := h
  have hfar := ties_far hv hu hz hn
  refine ⟨css, fps, ownsRow_setCell_other ho (fun e => ?_) _, hz.keep (fun b hb => Below.heap_setCell w ⟨B, 0, none⟩ _ b (hfar b hb)), hf, hg, hnd⟩
  have := (ho.lt B e).1
  omega

def PostAdd (a b : Int) (π : List Int) (B LO : Nat) (v : Value) (xs : List Tie) (w : World) (e : Ending) (w' : World) : Prop :=
  e = .returned (.tuple #[]) ∧ ∃ g cap, w'.heap[B]? = some (.cells #[.slice (some ⟨g, 0, none⟩) (xs.length + 2) cap] 73 (0, 0)) ∧ GL false LO 0 w'.heap.size w' 115 (.slice (some ⟨g, 0, none⟩) (xs.length + 2) cap) (xs ++ [(a, b, π), (b, a, inv π)]) ∧ Below B w w' ∧ (v.ownBlock = some g ∨ w.heap.size ≤ g) ∧ ∀ k, k < w.heap.size → k ≠ B → v.ownBlock ≠ some k → w'.heap[k]? = w.heap[k]?
set_option maxRecDepth 20000 in
set_option maxHeartbeats 4000000 in
theorem add_any {z : Bool} {plo phi LO hi : Nat} (w : World) (a b : Int) (ha : I64 a) (hb : I64 b) (vp : Value) (π : List Int) (hp : Rd z plo phi w [vp] π) (hr : InRange π.length π) (hl0 : 0 < π.length) (hl : π.length ≤ 8) (B : Nat) (v : Value) (xs : List Tie) (hv : w.heap[B]? = some (.cells #[v] 73 (0, 0))) (hG : GL false LO 0 hi w 115 v xs) (hd : phi ≤ LO ∨ hi ≤ plo) (hB : B < LO) (hLO : LO ≤ w.heap.size) (hxs : xs.length ≤ 400) (hne : ∀ t ∈ xs, 0 < t.2.2.length) :
    Calls Try.prog 79 #[.int .i64 a, .int .i64 b, vp, .pointer (some ⟨B, 0, none⟩)] w (PostAdd a b π B LO v xs w) := by
  obtain ⟨q1, q2, q3, rfl, hq, hqc, hqm, -⟩ := hp.shape
  subst hq
  obtain ⟨g0, cap0, rfl, hc1, hc2⟩ := hG.len
  have hc := cell_of_one hv
  have hf := free_of_one hv
  have hgh := (show ∀ g, (Value.slice g0 xs.length cap0).ownBlock = some g → LO ≤ g ∧ g < hi ∧ g < w.heap.size from fun g e => by
    obtain ⟨_, _, ho, _, _, hgg, _⟩ := hG
    have := ho.lt g e
    exact ⟨this.1, hgg g e, this.2⟩)
  unfold maxLen at *
  have HR := Lib.hid hr
  have HG := Lib.hid hG
  have HA := Lib.hid ha
  have HB := Lib.hid hb
  have HV := Lib.hid hv
  have HGH := Lib.hid hgh
  have HNE := Lib.hid hne
  have lB : B < w.heap.size := by omega
  clear hr hG ha hb hv hgh hne
  go_enter Try.func79, Try.ntmps79
  go_upto_region 0 with fail
  refine wp_region_held_drew (S := (fun w' => True)) (by kernel_rfl) ?_ (fun hHeld => ?_)
  · first | exact trivial | ((try dsimp only); go_keep)
  refine tkR 1 (v := ?_) ?_ ?_
  rotate_left
  · intro w hSw; (try dsimp only at hSw); go_simp <;> with_reducible rfl
  try simp only [Act.put, List.setIfInBounds_toArray, List.set_cons_zero, List.set_cons_succ]
  refine tkR 2 (v := ?_) ?_ ?_
  rotate_left
  · intro w hSw; (try dsimp only at hSw); go_simp <;> with_reducible rfl
  try simp only [Act.put, List.setIfInBounds_toArray, List.set_cons_zero, List.set_cons_succ]
  refine tkR 3 (v := ?_) ?_ ?_
  rotate_left
  · intro w hSw; (try dsimp only at hSw); go_simp <;> with_reducible rfl
  try simp only [Act.put, List.setIfInBounds_toArray, List.set_cons_zero, List.set_cons_succ]
  refine tkR 5 (v := ?_) ?_ ?_
  rotate_left
  · intro w hSw; (try dsimp only at hSw); go_simp <;> with_reducible rfl
  try simp only [Act.put, List.setIfInBounds_toArray, List.set_cons_zero, List.set_cons_succ]
  refine tkR 6 (v := ?_) ?_ ?_
  rotate_left
  · intro w hSw; (try dsimp only at hSw); go_simp <;> with_reducible rfl
  try simp only [Act.put, List.setIfInBounds_toArray, List.set_cons_zero, List.set_cons_succ]
  refine tkR 7 (v := ?_) ?_ ?_
  rotate_left
  · intro w hSw; (try dsimp only at hSw); go_simp <;> with_reducible rfl
  try simp only [Act.put, List.setIfInBounds_toArray, List.set_cons_zero, List.set_cons_succ]
  refine tkR 4 (v := ?_) ?_ ?_
  rotate_left
  · intro w hSw; (try dsimp only at hSw); go_simp <;> with_reducible rfl
  try simp only [Act.put, List.setIfInBounds_toArray, List.set_cons_zero, List.set_cons_succ]
  refine wpAnyH_ready (rs := [0, 8]) (by kernel_rfl) (by simp) ?_
  refine rdR (fun K hK => ?_) ?_
  · go_simp
    refine hK.out _ _ ?_ (fun hHeld => ?_)
    · exact kpT
    clear hK K
    try simp only [Act.put, List.setIfInBounds_toArray, List.set_cons_zero, List.set_cons_succ]
    refine wpAnyH_ready (rs := [8]) (by kernel_rfl) (by simp) ?_
    refine rdR (fun K hK => ?_) ?_
    · go_simp
      refine (invI_any _ _ _ (hp.below bwT) (by omega) HR.out).mono ?_
      rintro e w1 ⟨ui, rfl, hoi, hb1⟩
      obtain ⟨i1, i2, i3, rfl, hi2, hi3, hi4, -⟩ := hoi.rd.shape
      obtain rfl : i2 = π.length := by rw [← hi2, inv_len]
      have hbw1 : Below w.heap.size w w1 := Below.trans bwT hb1
      have s1 := hbw1.size
      have lB1 : B < w1.heap.size := by omega
      have hc := oldc hbw1 lB hc
      have hf : w1.frozen? ⟨B, 0, none⟩ = false := (hbw1.frozen (p := ⟨B, 0, none⟩) lB).trans hf
      have HG1 := Lib.hid (HG.out.below hbw1)
      have HP1 := Lib.hid (hp.below hbw1)
      have HO1 := Lib.hid hoi
      have HV1 := Lib.hid ((hbw1.block B lB).trans HV.out)
      clear hb1 hoi hi2 hi3 hi4
      refine hK.out _ _ ?_ (fun hHeld => ?_)
      · exact kpT
      clear hK K
      try simp only [Act.put, List.setIfInBounds_toArray, List.set_cons_zero, List.set_cons_succ]
      refine tkR 9 (v := ?_) ?_ ?_
      rotate_left
      · intro w hSw; (try dsimp only at hSw); go_simp <;> with_reducible rfl
      try simp only [Act.put, List.setIfInBounds_toArray, List.set_cons_zero, List.set_cons_succ]
      refine wpAnyH_ready (rs := [10]) (by kernel_rfl) (by simp) ?_
      refine rdR (fun K hK => ?_) ?_
      · go_simp
        refine hK.out _ _ ?_ (fun hHeld => ?_)
        · exact kpT
        clear hK K
        try simp only [Act.put, List.setIfInBounds_toArray, List.set_cons_zero, List.set_cons_succ]
        refine wpAnyH_ready (rs := [11]) (by kernel_rfl) (by simp) ?_
        refine rdR (fun K hK => ?_) ?_
        · obtain ⟨fp1, hr1, hz1⟩ := HP1.out.weak
          obtain ⟨fp2, hr2, hz2⟩ := HO1.out.rd.weak
          refine step_pushes rfl rfl slTie (by show (0 : Nat) < 3; omega) (HG1.out.below bwT) (by simp [Act.eval, Act.put]) (ad := ⟨w1.heap.size, 0, none⟩) (m := 2) (c := 2) (by simp [Act.eval, Act.put]) (css' := [[.int .i64 a, .int .i64 b, .slice q1 π.length q3], [.int .i64 b, .int .i64 a, .slice i1 π.length i3]]) (ys := [(a, b, π), (b, a, inv π)]) (fps' := [fp1, fp2]) rfl (by omega) ⟨repTie_mk HA.out HB.out (Rep.keep hr1 (fun b hb => Below.heap_alloc w1 _ b (Rep.lt hr1 b hb))), repTie_mk HB.out HA.out (Rep.keep hr2 (fun b hb => Below.heap_alloc w1 _ b (Rep.lt hr2 b hb))), trivial⟩ ?c1 ?c2 (fun h => by cases h) (by unfold maxLen; omega) (by omega) (by simp; omega) rfl rfl ?_
          case c1 =>
            intro j u hj
            match j, hj with
            | 0, hj => simp at hj; subst hj; simp [Addr.add]
            | 1, hj => simp at hj; subst hj; simp [Addr.add]
            | 2, hj => simp at hj; subst hj; simp [Addr.add]
            | 3, hj => simp at hj; subst hj; simp [Addr.add]
            | 4, hj => simp at hj; subst hj; simp [Addr.add]
            | 5, hj => simp at hj; subst hj; simp [Addr.add]
          case c2 =>
            intro b' hb'
            refine ⟨Nat.zero_le _, fun e => ?_⟩
            have h1 := HGH.out b' e.symm
            simp only [List.flatten_cons, List.flatten_nil, List.append_nil, List.mem_append] at hb'
            rcases hb' with hb' | hb'
            · have := hz1 b' hb'; omega
            · have := hz2 b' hb'; simp at this; omega
          rintro g5 cap5 w5 hG5 hg5 hat5 hlg5 hgw5 hb5
          have hbB5 : Below B w1 w5 := Below.trans (show Below B w1 _ from bwT) (hb5.mono (by omega))
          have HV5 := Lib.hid ((hg5.block B (by simp; omega) (by intro e; have := HGH.out B e.symm; omega)).trans ((Below.heap_alloc w1 _ B (by omega)).trans HV1.out))
          have hc5 := cell_of_one HV5.out
          have hf5 := free_of_one HV5.out
          have hfr5 := Lib.hid (show ∀ k, k < w.heap.size → k ≠ B → (Value.slice g0 xs.length cap0).ownBlock ≠ some k → w5.heap[k]? = w.heap[k]? from fun k h1 h2 h3 => (hg5.block k (by simp; omega) (fun e => h3 e.symm)).trans ((Below.heap_alloc w1 _ k (by omega)).trans (hbw1.block k h1)))
          clear hr1 hr2 hz1 hz2 HG1 HP1 HO1 HV1 hc hf
          refine hK.out _ _ ?_ (fun hHeld => ?_)
          · exact kpT
          clear hK K
          try simp only [Act.put, List.setIfInBounds_toArray, List.set_cons_zero, List.set_cons_succ]
          refine wpAnyH_ready (rs := [12]) (by kernel_rfl) (by simp) ?_
          refine rdR (fun K hK => ?_) ?_
          · go_simp
            refine hK.out _ _ ?_ (fun hHeld => ?_)
            · exact kpT
            clear hK K
            try simp only [Act.put, List.setIfInBounds_toArray, List.set_cons_zero, List.set_cons_succ]
            refine wpAnyH_done (by kernel_rfl) ?_ _
            have HN := Lib.hid (GL.cellB hG5 hB HV5.out (by simp) (fun t ht => by
              rw [List.mem_append] at ht
              rcases ht with ht | ht
              · exact HNE.out t ht
              · simp only [List.mem_cons, List.not_mem_nil, or_false] at ht
                rcases ht with rfl | rfl
                · exact hl0
                · show 0 < (inv π).length; rw [inv_len]; exact hl0) (.slice (some ⟨g5, 0, none⟩) (xs.length + 2) cap5))
            go_wp2
            go_end0
            exact ⟨rfl, g5, cap5, one_setCell HV5.out, by simpa using HN.out, (Below.trans (hbw1.mono (by omega)) hbB5).setCell (p := ⟨B, 0, none⟩) (Nat.le_refl _) _, (by rcases hat5 with h | h; exact .inl h; right; have := h; simp at this; omega), fun k h1 h2 h3 => (Below.heap_setCell w5 ⟨B, 0, none⟩ _ k h2).trans (hfr5.out k h1 h2 h3)⟩
          exact AllReadyH.nil
        exact AllReadyH.nil
      exact AllReadyH.nil
    exact AllReadyH.nil
  refine rdR (fun K hK => ?_) ?_
  · go_simp
    refine (invI_any _ _ _ (hp.below bwT) (by omega) HR.out).mono ?_
    rintro e w1 ⟨ui, rfl, hoi, hb1⟩
    obtain ⟨i1, i2, i3, rfl, hi2, hi3, hi4, -⟩ := hoi.rd.shape
    obtain rfl : i2 = π.length := by rw [← hi2, inv_len]
    have hbw1 : Below w.heap.size w w1 := Below.trans bwT hb1
    have s1 := hbw1.size
    have lB1 : B < w1.heap.size := by omega
    have hc := oldc hbw1 lB hc
    have hf : w1.frozen? ⟨B, 0, none⟩ = false := (hbw1.frozen (p := ⟨B, 0, none⟩) lB).trans hf
    have HG1 := Lib.hid (HG.out.below hbw1)
    have HP1 := Lib.hid (hp.below hbw1)
    have HO1 := Lib.hid hoi
    have HV1 := Lib.hid ((hbw1.block B lB).trans HV.out)
    clear hb1 hoi hi2 hi3 hi4
    refine hK.out _ _ ?_ (fun hHeld => ?_)
    · exact kpT
    clear hK K
    try simp only [Act.put, List.setIfInBounds_toArray, List.set_cons_zero, List.set_cons_succ]
    refine tkR 9 (v := ?_) ?_ ?_
    rotate_left
    · intro w hSw; (try dsimp only at hSw); go_simp <;> with_reducible rfl
    try simp only [Act.put, List.setIfInBounds_toArray, List.set_cons_zero, List.set_cons_succ]
    refine wpAnyH_ready (rs := [0, 10]) (by kernel_rfl) (by simp) ?_
    refine rdR (fun K hK => ?_) ?_
    · go_simp
      refine hK.out _ _ ?_ (fun hHeld => ?_)
      · exact kpT
      clear hK K
      try simp only [Act.put, List.setIfInBounds_toArray, List.set_cons_zero, List.set_cons_succ]
      refine wpAnyH_ready (rs := [10]) (by kernel_rfl) (by simp) ?_
      refine rdR (fun K hK => ?_) ?_
      · go_simp
        refine hK.out _ _ ?_ (fun hHeld => ?_)
        · exact kpT
        clear hK K
        try simp only [Act.put, List.setIfInBounds_toArray, List.set_cons_zero, List.set_cons_succ]
        refine wpAnyH_ready (rs := [11]) (by kernel_rfl) (by simp) ?_
        refine rdR (fun K hK => ?_) ?_
        · obtain ⟨fp1, hr1, hz1⟩ := HP1.out.weak
          obtain ⟨fp2, hr2, hz2⟩ := HO1.out.rd.weak
          refine step_pushes rfl rfl slTie (by show (0 : Nat) < 3; omega) (HG1.out.below bwT) (by simp [Act.eval, Act.put]) (ad := ⟨w1.heap.size, 0, none⟩) (m := 2) (c := 2) (by simp [Act.eval, Act.put]) (css' := [[.int .i64 a, .int .i64 b, .slice q1 π.length q3], [.int .i64 b, .int .i64 a, .slice i1 π.length i3]]) (ys := [(a, b, π), (b, a, inv π)]) (fps' := [fp1, fp2]) rfl (by omega) ⟨repTie_mk HA.out HB.out (Rep.keep hr1 (fun b hb => Below.heap_alloc w1 _ b (Rep.lt hr1 b hb))), repTie_mk HB.out HA.out (Rep.keep hr2 (fun b hb => Below.heap_alloc w1 _ b (Rep.lt hr2 b hb))), trivial⟩ ?c1 ?c2 (fun h => by cases h) (by unfold maxLen; omega) (by omega) (by simp; omega) rfl rfl ?_
          case c1 =>
            intro j u hj
            match j, hj with
            | 0, hj => simp at hj; subst hj; simp [Addr.add]
            | 1, hj => simp at hj; subst hj; simp [Addr.add]
            | 2, hj => simp at hj; subst hj; simp [Addr.add]
            | 3, hj => simp at hj; subst hj; simp [Addr.add]
            | 4, hj => simp at hj; subst hj; simp [Addr.add]
            | 5, hj => simp at hj; subst hj; simp [Addr.add]
          case c2 =>
            intro b' hb'
            refine ⟨Nat.zero_le _, fun e => ?_⟩
            have h1 := HGH.out b' e.symm
            simp only [List.flatten_cons, List.flatten_nil, List.append_nil, List.mem_append] at hb'
            rcases hb' with hb' | hb'
            · have := hz1 b' hb'; omega
            · have := hz2 b' hb'; simp at this; omega
          rintro g5 cap5 w5 hG5 hg5 hat5 hlg5 hgw5 hb5
          have hbB5 : Below B w1 w5 := Below.trans (show Below B w1 _ from bwT) (hb5.mono (by omega))
          have HV5 := Lib.hid ((hg5.block B (by simp; omega) (by intro e; have := HGH.out B e.symm; omega)).trans ((Below.heap_alloc w1 _ B (by omega)).trans HV1.out))
          have hc5 := cell_of_one HV5.out
          have hf5 := free_of_one HV5.out
          have hfr5 := Lib.hid (show ∀ k, k < w.heap.size → k ≠ B → (Value.slice g0 xs.length cap0).ownBlock ≠ some k → w5.heap[k]? = w.heap[k]? from fun k h1 h2 h3 => (hg5.block k (by simp; omega) (fun e => h3 e.symm)).trans ((Below.heap_alloc w1 _ k (by omega)).trans (hbw1.block k h1)))
          clear hr1 hr2 hz1 hz2 HG1 HP1 HO1 HV1 hc hf
          refine hK.out _ _ ?_ (fun hHeld => ?_)
          · exact kpT
          clear hK K
          try simp only [Act.put, List.setIfInBounds_toArray, List.set_cons_zero, List.set_cons_succ]
          refine wpAnyH_ready (rs := [12]) (by kernel_rfl) (by simp) ?_
          refine rdR (fun K hK => ?_) ?_
          · go_simp
            refine hK.out _ _ ?_ (fun hHeld => ?_)
            · exact kpT
            clear hK K
            try simp only [Act.put, List.setIfInBounds_toArray, List.set_cons_zero, List.set_cons_succ]
            refine wpAnyH_done (by kernel_rfl) ?_ _
            have HN := Lib.hid (GL.cellB hG5 hB HV5.out (by simp) (fun t ht => by
              rw [List.mem_append] at ht
              rcases ht with ht | ht
              · exact HNE.out t ht
              · simp only [List.mem_cons, List.not_mem_nil, or_false] at ht
                rcases ht with rfl | rfl
                · exact hl0
                · show 0 < (inv π).length; rw [inv_len]; exact hl0) (.slice (some ⟨g5, 0, none⟩) (xs.length + 2) cap5))
            go_wp2
            go_end0
            exact ⟨rfl, g5, cap5, one_setCell HV5.out, by simpa using HN.out, (Below.trans (hbw1.mono (by omega)) hbB5).setCell (p := ⟨B, 0, none⟩) (Nat.le_refl _) _, (by rcases hat5 with h | h; exact .inl h; right; have := h; simp at this; omega), fun k h1 h2 h3 => (Below.heap_setCell w5 ⟨B, 0, none⟩ _ k h2).trans (hfr5.out k h1 h2 h3)⟩
          exact AllReadyH.nil
        exact AllReadyH.nil
      exact AllReadyH.nil
    refine rdR (fun K hK => ?_) ?_
    · go_simp
      refine hK.out _ _ ?_ (fun hHeld => ?_)
      · exact kpT
      clear hK K
      try simp only [Act.put, List.setIfInBounds_toArray, List.set_cons_zero, List.set_cons_succ]
      refine wpAnyH_ready (rs := [0]) (by kernel_rfl) (by simp) ?_
      refine rdR (fun K hK => ?_) ?_
      · go_simp
        refine hK.out _ _ ?_ (fun hHeld => ?_)
        · exact kpT
        clear hK K
        try simp only [Act.put, List.setIfInBounds_toArray, List.set_cons_zero, List.set_cons_succ]
        refine wpAnyH_ready (rs := [11]) (by kernel_rfl) (by simp) ?_
        refine rdR (fun K hK => ?_) ?_
        · obtain ⟨fp1, hr1, hz1⟩ := HP1.out.weak
          obtain ⟨fp2, hr2, hz2⟩ := HO1.out.rd.weak
          refine step_pushes rfl rfl slTie (by show (0 : Nat) < 3; omega) (HG1.out.below bwT) (by simp [Act.eval, Act.put]) (ad := ⟨w1.heap.size, 0, none⟩) (m := 2) (c := 2) (by simp [Act.eval, Act.put]) (css' := [[.int .i64 a, .int .i64 b, .slice q1 π.length q3], [.int .i64 b, .int .i64 a, .slice i1 π.length i3]]) (ys := [(a, b, π), (b, a, inv π)]) (fps' := [fp1, fp2]) rfl (by omega) ⟨repTie_mk HA.out HB.out (Rep.keep hr1 (fun b hb => Below.heap_alloc w1 _ b (Rep.lt hr1 b hb))), repTie_mk HB.out HA.out (Rep.keep hr2 (fun b hb => Below.heap_alloc w1 _ b (Rep.lt hr2 b hb))), trivial⟩ ?c1 ?c2 (fun h => by cases h) (by unfold maxLen; omega) (by omega) (by simp; omega) rfl rfl ?_
          case c1 =>
            intro j u hj
            match j, hj with
            | 0, hj => simp at hj; subst hj; simp [Addr.add]
            | 1, hj => simp at hj; subst hj; simp [Addr.add]
            | 2, hj => simp at hj; subst hj; simp [Addr.add]
            | 3, hj => simp at hj; subst hj; simp [Addr.add]
            | 4, hj => simp at hj; subst hj; simp [Addr.add]
            | 5, hj => simp at hj; subst hj; simp [Addr.add]
          case c2 =>
            intro b' hb'
            refine ⟨Nat.zero_le _, fun e => ?_⟩
            have h1 := HGH.out b' e.symm
            simp only [List.flatten_cons, List.flatten_nil, List.append_nil, List.mem_append] at hb'
            rcases hb' with hb' | hb'
            · have := hz1 b' hb'; omega
            · have := hz2 b' hb'; simp at this; omega
          rintro g5 cap5 w5 hG5 hg5 hat5 hlg5 hgw5 hb5
          have hbB5 : Below B w1 w5 := Below.trans (show Below B w1 _ from bwT) (hb5.mono (by omega))
          have HV5 := Lib.hid ((hg5.block B (by simp; omega) (by intro e; have := HGH.out B e.symm; omega)).trans ((Below.heap_alloc w1 _ B (by omega)).trans HV1.out))
          have hc5 := cell_of_one HV5.out
          have hf5 := free_of_one HV5.out
          have hfr5 := Lib.hid (show ∀ k, k < w.heap.size → k ≠ B → (Value.slice g0 xs.length cap0).ownBlock ≠ some k → w5.heap[k]? = w.heap[k]? from fun k h1 h2 h3 => (hg5.block k (by simp; omega) (fun e => h3 e.symm)).trans ((Below.heap_alloc w1 _ k (by omega)).trans (hbw1.block k h1)))
          clear hr1 hr2 hz1 hz2 HG1 HP1 HO1 HV1 hc hf
          refine hK.out _ _ ?_ (fun hHeld => ?_)
          · exact kpT
          clear hK K
          try simp only [Act.put, List.setIfInBounds_toArray, List.set_cons_zero, List.set_cons_succ]
          refine wpAnyH_ready (rs := [12]) (by kernel_rfl) (by simp) ?_
          refine rdR (fun K hK => ?_) ?_
          · go_simp
            refine hK.out _ _ ?_ (fun hHeld => ?_)
            · exact kpT
            clear hK K
            try simp only [Act.put, List.setIfInBounds_toArray, List.set_cons_zero, List.set_cons_succ]
            refine wpAnyH_done (by kernel_rfl) ?_ _
            have HN := Lib.hid (GL.cellB hG5 hB HV5.out (by simp) (fun t ht => by
              rw [List.mem_append] at ht
              rcases ht with ht | ht
              · exact HNE.out t ht
              · simp only [List.mem_cons, List.not_mem_nil, or_false] at ht
                rcases ht with rfl | rfl
                · exact hl0
                · show 0 < (inv π).length; rw [inv_len]; exact hl0) (.slice (some ⟨g5, 0, none⟩) (xs.length + 2) cap5))
            go_wp2
            go_end0
            exact ⟨rfl, g5, cap5, one_setCell HV5.out, by simpa using HN.out, (Below.trans (hbw1.mono (by omega)) hbB5).setCell (p := ⟨B, 0, none⟩) (Nat.le_refl _) _, (by rcases hat5 with h | h; exact .inl h; right; have := h; simp at this; omega), fun k h1 h2 h3 => (Below.heap_setCell w5 ⟨B, 0, none⟩ _ k h2).trans (hfr5.out k h1 h2 h3)⟩
          exact AllReadyH.nil
        exact AllReadyH.nil
      exact AllReadyH.nil
    exact AllReadyH.nil
  exact AllReadyH.nil

theorem GL.ownlt {α : Type} [Rep α] {nd : Bool} {lo lo' hi : Nat} {w : World} {E : TypeId} {v : Value} {xs : List α} (h : GL nd lo lo' hi w E v xs) {g : Nat} (hg : v.ownBlock = some g) : g < w.heap.size := by
  obtain ⟨css, fps, ho, _⟩ := h
  exact (ho.lt g hg).2
theorem ties_pos {f : Fam} {c : Cls} (hE : EdOk f c) (h1 : 1 ≤ c.1.length) {es : List Ed} (hs : ∀ e ∈ es, e ∈ edges f c) : ∀ t ∈ tiesOf es, 0 < t.2.2.length := by
  intro t ht
  unfold tiesOf at ht
  rw [List.mem_flatMap] at ht
  obtain ⟨e, he, ht⟩ := ht
  have h2 := (hE.len e (hs e he)).2
  simp only [both, List.mem_cons, List.not_mem_nil, or_false] at ht
  rcases ht with rfl | rfl
  · dsimp only; omega
  · dsimp only; rw [inv_len]; omega
theorem edTo_sub {f : Fam} {c : Cls} : ∀ {k : Nat}, k ≤ f.1.length → ∀ e ∈ edTo f c k, e ∈ edges f c := fun {k} hk e he => by
  unfold edges
  refine List.mem_append_left _ ?_
  unfold edTo at he ⊢
  rw [List.mem_flatMap] at he ⊢
  obtain ⟨p, hp, h⟩ := he
  exact ⟨p, List.mem_range.2 (by have := List.mem_range.1 hp; omega), h⟩
theorem edU_sub {f : Fam} {c : Cls} {k : Nat} : ∀ e ∈ edU c (f.2.take k), e ∈ edges f c := fun e he => by
  unfold edges
  refine List.mem_append_right _ ?_
  unfold edU at he ⊢
  rw [List.mem_map] at he ⊢
  obtain ⟨u, hu, h⟩ := he
  exact ⟨u, List.mem_of_mem_take hu, h⟩

set_option maxRecDepth 20000 in
set_option maxHeartbeats 16000000 in
theorem tiesOfI_any {z z1 : Bool} {lo hi lo1 hi1 : Nat} (w : World) (v v2 u1 u2 : Value) (f : Fam) (c : Cls) (h : Rd z lo hi w [v, v2] f) (hc : Rd z1 lo1 hi1 w [u1, u2] c) (hfam : famB f = true) (hcls : isCls c = true) :
    Calls Try.prog 44 #[.agg #[v, v2], .agg #[u1, u2]] w (fun e w' => ∃ u, e = .returned u ∧ Rd false 0 w'.heap.size w' [u] (tiesOf (edges f c)) ∧ Below w.heap.size w w') := by
  obtain ⟨ha, hb⟩ := h.fam
  obtain ⟨hw, hq⟩ := hc.two rfl
  obtain ⟨ao, n, cap, rfl, hn, hnc, hcm, hnone⟩ := ha.shape
  obtain ⟨ao2, n2, cap2, rfl, hn2, hnc2, hcm2, hnone2⟩ := hb.shape
  subst hn hn2
  obtain ⟨bo, n3, dap, rfl, hn3, hnc3, hcm3, hnone3⟩ := hw.shape
  obtain ⟨bo2, n4, dap2, rfl, hn4, hnc4, hcm4, hnone4⟩ := hq.shape
  subst hn3 hn4
  unfold maxLen at *
  obtain ⟨h40, h60, hP, hU⟩ := famB_facts hfam
  obtain ⟨c0, c8, c12, hp1, hp2⟩ := isCls_facts hcls
  have hE := edOk hfam hcls
  have HP := Lib.hid hP
  have HR1 := Lib.hid (isPerm_range hp1)
  have HR2 := Lib.hid (isPerm_range hp2)
  have HIR := Lib.hid (show InRange c.2.length (inv c.1) by rw [c12]; exact inv_range)
  have hbm : isPerm (byM c) = true := bij_comp (isPerm_inv hp1) hp2 (by rw [inv_len, c12])
  have HRM := Lib.hid (isPerm_range hbm)
  have HBL := Lib.hid (show (byM c).length = c.1.length by unfold byM; rw [comp_len, inv_len])
  have HU := Lib.hid (show ∀ (k : Nat) (u : Uni), f.2[k]? = some u → (0 ≤ u.1 ∧ u.1 < f.1.length) ∧ (0 ≤ u.2.1 ∧ u.2.1 < f.1.length) from fun k u hu => by
    obtain ⟨m, wo, fr, tl⟩ := u
    exact uniOk_facts (hU k (List.getElem?_eq_some_iff.1 hu).1) hu)
  have HNT := Lib.hid (show ∀ k, k ≤ f.1.length → (tiesOf (edTo f c k)).length ≤ 160 ∧ ∀ t ∈ tiesOf (edTo f c k), 0 < t.2.2.length from fun k hk => ⟨by rw [tiesOf_len]; have := edTo_len f c k; omega, ties_pos hE c0 (edTo_sub hk)⟩)
  have HNU := Lib.hid (show ∀ k, k ≤ f.2.length → (tiesOf (edTo f c f.1.length ++ edU c (f.2.take k))).length ≤ 280 ∧ ∀ t ∈ tiesOf (edTo f c f.1.length ++ edU c (f.2.take k)), 0 < t.2.2.length from fun k hk => ⟨by rw [tiesOf_len, List.length_append, edU_len, List.length_take]; have := edTo_len f c f.1.length; omega, ties_pos hE c0 (fun e he => by
    rw [List.mem_append] at he
    rcases he with he | he
    · exact edTo_sub (Nat.le_refl _) e he
    · exact edU_sub e he)⟩)
  have HC := Lib.hid c12
  have c28 : c.2.length ≤ 8 := by omega
  have hl1 : 0 < c.1.length := c0
  have hl2 : 0 < c.2.length := by omega
  have hAz := Lib.hid ha.top
  have hBz := Lib.hid hb.top
  have hWz := Lib.hid hw.top
  have hQz := Lib.hid hq.top
  obtain ⟨w0, hw0⟩ : ∃ w0 : World, w0 = ((w.alloc (.cells #[.slice ao f.1.length cap, .slice ao2 f.2.length cap2] 26)).alloc (.cells #[.slice bo c.1.length dap, .slice bo2 c.2.length dap2] 44)).alloc (.cells #[.slice none 0 0] 73) := ⟨_, rfl⟩
  have s0 : w0.heap.size = w.heap.size + 3 := by subst hw0; simp
  have hB0 : Below w.heap.size w w0 := by subst hw0; exact bwT
  have qa_f0 : w0.cell? ⟨w.heap.size, 0, none⟩ = some (.slice ao f.1.length cap) := by subst hw0; simp [go_sem]
  have qa_f1 : w0.cell? ⟨w.heap.size, 1, none⟩ = some (.slice ao2 f.2.length cap2) := by subst hw0; simp [go_sem]
  have qa_c0 : w0.cell? ⟨w.heap.size + 1, 0, none⟩ = some (.slice bo c.1.length dap) := by subst hw0; simp [go_sem]
  have qa_c1 : w0.cell? ⟨w.heap.size + 1, 1, none⟩ = some (.slice bo2 c.2.length dap2) := by subst hw0; simp [go_sem]
  have HV0 := Lib.hid (show w0.heap[w.heap.size + 1 + 1]? = some (.cells #[.slice none 0 0] 73 (0, 0)) by subst hw0; have := heap_alloc_new ((w.alloc (.cells #[.slice ao f.1.length cap, .slice ao2 f.2.length cap2] 26)).alloc (.cells #[.slice bo c.1.length dap, .slice bo2 c.2.length dap2] 44)) (.cells #[.slice none 0 0] 73); simpa using this)
  clear c12 hP hU hp1 hp2 hbm hE hnone hnone2 hnone3 hnone4 ha hb hw hq h hc hfam hcls
  go_enter Try.func44, Try.ntmps44
  go_wp2
  rw [← hw0]
  go_loopw [7, 8, 15] (fun _ _ s15 wr => ∃ (a : Nat) (v : Value), a ≤ f.1.length ∧ s15 = .int .i64 a ∧ Hid (wr.heap[w.heap.size + 1 + 1]? = some (.cells #[v] 73 (0, 0))) ∧ Hid (GL false (w.heap.size + 3) 0 wr.heap.size wr 115 v (tiesOf (edTo f c a))) ∧ Below (w.heap.size + 1 + 1) w0 wr) (fun _ _ s15 _ => f.1.length - (intOf s15).toNat)
  case atStart => exact ⟨0, _, Nat.zero_le _, rfl, HV0, Lib.hid (GL.start _ _ _ _ _ _), Below.refl _ _⟩
  case round =>
    clear HV0 hw0
    obtain ⟨wb, hwb⟩ : ∃ wm : World, wm = wr := ⟨_, rfl⟩
    subst hwb
    obtain ⟨a, v, ha1, rfl, hV, hG, hbb⟩ := hrel
    have sR := hbb.size
    have lB : w.heap.size + 1 + 1 < wb.heap.size := by omega
    have hbw : Below w.heap.size w wb := hB0.trans (hbb.mono (by omega))
    have q_f1 := oldc hbb (by omega) qa_f1
    have q_c0 := oldc hbb (by omega) qa_c0
    have q_c1 := oldc hbb (by omega) qa_c1
    have l_f : w.heap.size < wb.heap.size := by omega
    have l_c : w.heap.size + 1 < wb.heap.size := by omega
    by_cases hla : a < f.1.length
    · have hIa : (a : Int) < (f.1.length : Int) := by omega
      obtain ⟨pb, poff, nm, sx, fa, mo, bo', di, rfl, hx, p0, p1, p2, p3, p4, p5, -, -, -, -, -, -, -, -, hbl, -⟩ := (hAz.out.below hbw).per_at hla
      obtain ⟨-, -, -, hfa, hmo, -⟩ := HP.out.at hla hx.out
      have HD := Lib.hid (edTo_succ (c := c) hx.out)
      have HM := Lib.hid (show ∀ es : List Ed, (∃ es', edTo f c (a + 1) = es ++ es') → (tiesOf es).length ≤ 400 ∧ ∀ t ∈ tiesOf es, 0 < t.2.2.length from fun es ⟨es', he⟩ => by
        have h1 := HNT.out (a + 1) (by omega)
        have h2 : tiesOf (edTo f c (a + 1)) = tiesOf es ++ tiesOf es' := by rw [he]; simp [tiesOf]
        rw [h2] at h1
        refine ⟨?_, fun t ht => h1.2 t (List.mem_append_left _ ht)⟩
        have := h1.1
        rw [List.length_append] at this; omega)
      clear hx
      have hVA := Lib.hid (show ∀ o : Obj, (wb.alloc o).heap[w.heap.size + 1 + 1]? = some (.cells #[v] 73 (0, 0)) from fun o => (Below.heap_alloc wb o _ lB).trans hV.out)
      rcases hfa with rfl | ⟨hfa0, hfa1⟩
      · have HG1 := Lib.hid (show GL false (w.heap.size + 3) 0 wb.heap.size wb 115 v (tiesOf (edTo f c a ++ edFa c a (nm, sx, -1, mo, bo', di))) by rw [show edFa c a (nm, sx, -1, mo, bo', di) = [] from rfl, List.append_nil]; exact hG.out)
        clear hG
        rcases hmo with rfl | ⟨hmo0, hmo1⟩
        · have HN := Lib.hid (show GL false (w.heap.size + 3) 0 wb.heap.size wb 115 v (tiesOf (edTo f c (a + 1))) by rw [HD.out, show edMo c a (nm, sx, -1, -1, bo', di) = [] from rfl, List.append_nil]; exact HG1.out)
          clear HG1 HD HM
          go_wp2
          go_roundw
          case rel => exact ⟨a + 1, v, by omega, by go_num, Lib.hid (hVA.out _), Lib.hid ((HN.out.alloc _).mono (by simp)), hbb.alloc (by omega) _⟩
          case measure => simp [intOf]; omega
        · obtain ⟨mn, rfl⟩ := Int.eq_ofNat_of_zero_le hmo0
          have hown := Lib.hid (show ∀ g, (v : Value).ownBlock = some g → g < wb.heap.size from fun g e => GL.ownlt HG1.out e)
          have HMM := Lib.hid (HM.out _ ⟨_, HD.out⟩)
          clear HM
          go_upto_region 9 with fail
          refine wp_region_held_drew (S := (fun w' => w'.cell? ⟨w.heap.size + 1, 0, none⟩ = some (.slice bo c.1.length dap) ∧ w'.cell? ⟨w.heap.size + 1, 1, none⟩ = some (.slice bo2 c.2.length dap2) ∧ w'.cell? ⟨wb.heap.size, 3, none⟩ = some (.int .i64 (mn : Int)))) (by kernel_rfl) ?_ (fun hHeld => ?_)
          · first | exact trivial | ((try dsimp only); go_keep)
          refine tkR 0 (v := ?_) ?_ ?_
          rotate_left
          · intro w hSw; (try dsimp only at hSw); go_simp <;> with_reducible rfl
          try simp only [Act.put, List.setIfInBounds_toArray, List.set_cons_zero, List.set_cons_succ]
          refine tkR 1 (v := ?_) ?_ ?_
          rotate_left
          · intro w hSw; (try dsimp only at hSw); go_simp <;> with_reducible rfl
          try simp only [Act.put, List.setIfInBounds_toArray, List.set_cons_zero, List.set_cons_succ]
          refine tkR 3 (v := ?_) ?_ ?_
          rotate_left
          · intro w hSw; (try dsimp only at hSw); go_simp <;> with_reducible rfl
          try simp only [Act.put, List.setIfInBounds_toArray, List.set_cons_zero, List.set_cons_succ]
          refine tkR 4 (v := ?_) ?_ ?_
          rotate_left
          · intro w hSw; (try dsimp only at hSw); go_simp <;> with_reducible rfl
          try simp only [Act.put, List.setIfInBounds_toArray, List.set_cons_zero, List.set_cons_succ]
          refine tkR 7 (v := ?_) ?_ ?_
          rotate_left
          · intro w hSw; (try dsimp only at hSw); go_simp <;> with_reducible rfl
          try simp only [Act.put, List.setIfInBounds_toArray, List.set_cons_zero, List.set_cons_succ]
          refine tkR 2 (v := ?_) ?_ ?_
          rotate_left
          · intro w hSw; (try dsimp only at hSw); go_simp <;> with_reducible rfl
          try simp only [Act.put, List.setIfInBounds_toArray, List.set_cons_zero, List.set_cons_succ]
          refine tkR 5 (v := ?_) ?_ ?_
          rotate_left
          · intro w hSw; (try dsimp only at hSw); go_simp <;> with_reducible rfl
          try simp only [Act.put, List.setIfInBounds_toArray, List.set_cons_zero, List.set_cons_succ]
          refine tkR 8 (v := ?_) ?_ ?_
          rotate_left
          · intro w hSw; (try dsimp only at hSw); go_simp <;> with_reducible rfl
          try simp only [Act.put, List.setIfInBounds_toArray, List.set_cons_zero, List.set_cons_succ]
          refine wpAnyH_ready (rs := [6]) (by kernel_rfl) (by simp) ?_
          refine rdR (fun K hK => ?_) ?_
          · go_simp
            refine (invI_any _ _ _ (hWz.out.below ?b41) (by omega) HR1.out).mono ?_
            case b41 => exact bwT
            rintro e w4 ⟨ui, rfl, hoi, hb4⟩
            have s4 := hb4.size
            simp only [World.size_alloc, World.size_drew] at s4
            have hS4 := And.intro (oldc hb4 ltT hHeld.1) (And.intro (oldc hb4 ltT hHeld.2.1) (oldc hb4 ltT hHeld.2.2))
            refine hK.out _ _ ?_ (fun hHeld => ?_)
            · exact kpT
            clear hK K
            try simp only [Act.put, List.setIfInBounds_toArray, List.set_cons_zero, List.set_cons_succ]
            refine wpAnyH_ready (rs := [9]) (by kernel_rfl) (by simp) ?_
            refine rdR (fun K hK => ?_) ?_
            · go_simp
              refine (composedI_any _ _ _ _ _ hoi.rd (hQz.out.below ?b51) (by rw [inv_len]; omega) HIR.out).mono ?_
              case b51 => exact Below.trans (show Below w.heap.size w _ from bwT) (hb4.mono ltT)
              rintro e w5 ⟨uc, rfl, hoc, hb5⟩
              have s5 := hb5.size
              have hS5 := And.intro (oldc hb5 (by omega) hHeld.1) (And.intro (oldc hb5 (by omega) hHeld.2.1) (oldc hb5 (by omega) hHeld.2.2))
              have hb45 := Lib.hid (Below.trans ((Below.refl _ _).drew) (Below.trans hb4 (hb5.mono hb4.size)))
              clear hS4
              refine hK.out _ _ ?_ (fun hHeld => ?_)
              · exact kpT
              clear hK K
              try simp only [Act.put, List.setIfInBounds_toArray, List.set_cons_zero, List.set_cons_succ]
              refine wpAnyH_ready (rs := [10]) (by kernel_rfl) (by simp) ?_
              refine rdR (fun K hK => ?_) ?_
              · go_simp
                refine (add_any _ (mn : Int) (a : Int) ⟨by omega, by omega⟩ ⟨by omega, by omega⟩ _ (byM c) hoc.rd HRM.out (by have := HBL.out; omega) (by have := HBL.out; omega) (w.heap.size + 1 + 1) v (tiesOf (edTo f c a ++ edFa c a (nm, sx, -1, (mn : Int), bo', di))) ((hb45.out.block _ ltT).trans (hVA.out _)) ((HG1.out.alloc _).below hb45.out) (.inr (by omega)) (by omega) (by omega) HMM.out.1 HMM.out.2).mono ?_
                rintro e w6 ⟨rfl, g6, cap6, hv6, hG6, hb6, -, hfr6⟩
                have s6 := hb6.size
                have hS6 := And.intro (oldc hb6 (by omega) hHeld.1) (And.intro (oldc hb6 (by omega) hHeld.2.1) ((World.cell?_of_block (a := ⟨wb.heap.size, 3, none⟩) (hfr6 wb.heap.size (by omega) (by omega) (fun e => by have := hown.out _ e; omega))).trans hHeld.2.2))
                refine hK.out _ _ ?_ (fun hHeld => ?_)
                · exact kpT
                clear hK K
                try simp only [Act.put, List.setIfInBounds_toArray, List.set_cons_zero, List.set_cons_succ]
                refine wpAnyH_done (by kernel_rfl) ?_ _
                have hbb6 : Below (w.heap.size + 1 + 1) w0 w6 := Below.trans (Below.trans (show Below (w.heap.size + 1 + 1) w0 _ from bwT) (hb45.out.mono ltT)) hb6
                have hV6 := Lib.hid hv6
                have HG6 := Lib.hid (show GL false (w.heap.size + 3) 0 w6.heap.size w6 115 (.slice (some ⟨g6, 0, none⟩) ((tiesOf (edTo f c a ++ edFa c a (nm, sx, -1, (mn : Int), bo', di))).length + 2) cap6) (tiesOf (edTo f c (a + 1))) by
                  rw [HD.out, show edMo c a (nm, sx, -1, (mn : Int), bo', di) = [(mn, a, byM c)] by simp [edMo], tiesOf_snoc]
                  exact hG6)
                clear hS5 hS6 hHeld hb6 hfr6 hG6 hv6 hoc hoi hb4 hb5 hb45 HG1 HD HMM hown
                go_wp2
                go_roundw
                case rel => exact ⟨a + 1, _, by omega, by go_num, hV6, HG6, hbb6⟩
                case measure => simp [intOf]; omega
              exact AllReadyH.nil
            exact AllReadyH.nil
          exact AllReadyH.nil
      · obtain ⟨fn, rfl⟩ := Int.eq_ofNat_of_zero_le hfa0
        have hown := Lib.hid (show ∀ g, v.ownBlock = some g → g < wb.heap.size from fun g e => GL.ownlt hG.out e)
        go_wp2_with fail
        refine (add_any _ (fn : Int) (a : Int) ⟨by omega, by omega⟩ ⟨by omega, by omega⟩ _ c.2 (hQz.out.below ?b1) HR2.out hl2 c28 (w.heap.size + 1 + 1) v (tiesOf (edTo f c a)) (hVA.out _) (hG.out.alloc _) (.inl (by omega)) (by omega) (by simp; omega) (HM.out _ ⟨_, by rw [HD.out, List.append_assoc]⟩).1 (HM.out _ ⟨_, by rw [HD.out, List.append_assoc]⟩).2).mono ?_
        case b1 => exact bwT
        rintro e w3 ⟨rfl, g3, cap3, hv3, hG3, hb3, hg3, hfr3⟩
        have s3 := hb3.size
        simp only [World.size_alloc] at s3 hg3
        have hg3n : ¬ g3 = wb.heap.size := by
          rcases hg3 with h | h
          · have := hown.out _ h; omega
          · omega
        have q_f1 := oldc hb3 (by omega) (oldc ((Below.refl _ _).alloc (Nat.le_refl _) _) (by omega) q_f1)
        have q_c0 := oldc hb3 (by omega) (oldc ((Below.refl _ _).alloc (Nat.le_refl _) _) (by omega) q_c0)
        have q_c1 := oldc hb3 (by omega) (oldc ((Below.refl _ _).alloc (Nat.le_refl _) _) (by omega) q_c1)
        have q_m3 : w3.cell? ⟨wb.heap.size, 3, none⟩ = some (.int .i64 mo) := (World.cell?_of_block (a := ⟨wb.heap.size, 3, none⟩) (hfr3 wb.heap.size (by simp) (by omega) (fun e => by have := hown.out _ e; omega))).trans (by simp [go_sem])
        have hbb3 : Below (w.heap.size + 1 + 1) w0 w3 := Below.trans (show Below (w.heap.size + 1 + 1) w0 _ from hbb.alloc (by omega) _) hb3
        have hV3 := Lib.hid hv3
        have HG1 := Lib.hid (show GL false (w.heap.size + 3) 0 w3.heap.size w3 115 (.slice (some ⟨g3, 0, none⟩) ((tiesOf (edTo f c a)).length + 2) cap3) (tiesOf (edTo f c a ++ edFa c a (nm, sx, (fn : Int), mo, bo', di))) by
          rw [show edFa c a (nm, sx, (fn : Int), mo, bo', di) = [(fn, a, c.2)] by simp [edFa], tiesOf_snoc]
          exact hG3)
        have hbw3 : Below w.heap.size w w3 := hB0.trans (hbb3.mono (by omega))
        have lB3 : w.heap.size + 1 + 1 < w3.heap.size := by omega
        clear hv3 hG3 hb3 hfr3 hg3 hG hV hVA hown p0 p1 p2 p3 p4 p5 hbw hbb
        rcases hmo with rfl | ⟨hmo0, hmo1⟩
        · have HN := Lib.hid (show GL false (w.heap.size + 3) 0 w3.heap.size w3 115 (.slice (some ⟨g3, 0, none⟩) ((tiesOf (edTo f c a)).length + 2) cap3) (tiesOf (edTo f c (a + 1))) by rw [HD.out, show edMo c a (nm, sx, (fn : Int), -1, bo', di) = [] from rfl, List.append_nil]; exact HG1.out)
          clear HG1 HD HM
          go_wp2
          go_roundw
          case rel => exact ⟨a + 1, (.slice (some ⟨g3, 0, none⟩) ((tiesOf (edTo f c a)).length + 2) cap3), by omega, by go_num, hV3, HN, hbb3⟩
          case measure => simp [intOf]; omega
        · obtain ⟨mn, rfl⟩ := Int.eq_ofNat_of_zero_le hmo0
          have hown := Lib.hid (show ∀ g, ((.slice (some ⟨g3, 0, none⟩) ((tiesOf (edTo f c a)).length + 2) cap3) : Value).ownBlock = some g → g < w3.heap.size from fun g e => GL.ownlt HG1.out e)
          have HMM := Lib.hid (HM.out _ ⟨_, HD.out⟩)
          clear HM
          go_upto_region 9 with fail
          refine wp_region_held_drew (S := (fun w' => w'.cell? ⟨w.heap.size + 1, 0, none⟩ = some (.slice bo c.1.length dap) ∧ w'.cell? ⟨w.heap.size + 1, 1, none⟩ = some (.slice bo2 c.2.length dap2) ∧ w'.cell? ⟨wb.heap.size, 3, none⟩ = some (.int .i64 (mn : Int)))) (by kernel_rfl) ?_ (fun hHeld => ?_)
          · first | exact trivial | ((try dsimp only); go_keep)
          refine tkR 0 (v := ?_) ?_ ?_
          rotate_left
          · intro w hSw; (try dsimp only at hSw); go_simp <;> with_reducible rfl
          try simp only [Act.put, List.setIfInBounds_toArray, List.set_cons_zero, List.set_cons_succ]
          refine tkR 1 (v := ?_) ?_ ?_
          rotate_left
          · intro w hSw; (try dsimp only at hSw); go_simp <;> with_reducible rfl
          try simp only [Act.put, List.setIfInBounds_toArray, List.set_cons_zero, List.set_cons_succ]
          refine tkR 3 (v := ?_) ?_ ?_
          rotate_left
          · intro w hSw; (try dsimp only at hSw); go_simp <;> with_reducible rfl
          try simp only [Act.put, List.setIfInBounds_toArray, List.set_cons_zero, List.set_cons_succ]
          refine tkR 4 (v := ?_) ?_ ?_
          rotate_left
          · intro w hSw; (try dsimp only at hSw); go_simp <;> with_reducible rfl
          try simp only [Act.put, List.setIfInBounds_toArray, List.set_cons_zero, List.set_cons_succ]
          refine tkR 7 (v := ?_) ?_ ?_
          rotate_left
          · intro w hSw; (try dsimp only at hSw); go_simp <;> with_reducible rfl
          try simp only [Act.put, List.setIfInBounds_toArray, List.set_cons_zero, List.set_cons_succ]
          refine tkR 2 (v := ?_) ?_ ?_
          rotate_left
          · intro w hSw; (try dsimp only at hSw); go_simp <;> with_reducible rfl
          try simp only [Act.put, List.setIfInBounds_toArray, List.set_cons_zero, List.set_cons_succ]
          refine tkR 5 (v := ?_) ?_ ?_
          rotate_left
          · intro w hSw; (try dsimp only at hSw); go_simp <;> with_reducible rfl
          try simp only [Act.put, List.setIfInBounds_toArray, List.set_cons_zero, List.set_cons_succ]
          refine tkR 8 (v := ?_) ?_ ?_
          rotate_left
          · intro w hSw; (try dsimp only at hSw); go_simp <;> with_reducible rfl
          try simp only [Act.put, List.setIfInBounds_toArray, List.set_cons_zero, List.set_cons_succ]
          refine wpAnyH_ready (rs := [6]) (by kernel_rfl) (by simp) ?_
          refine rdR (fun K hK => ?_) ?_
          · go_simp
            refine (invI_any _ _ _ (hWz.out.below ?b42) (by omega) HR1.out).mono ?_
            case b42 => exact bwT
            rintro e w4 ⟨ui, rfl, hoi, hb4⟩
            have s4 := hb4.size
            simp only [World.size_alloc, World.size_drew] at s4
            have hS4 := And.intro (oldc hb4 ltT hHeld.1) (And.intro (oldc hb4 ltT hHeld.2.1) (oldc hb4 ltT hHeld.2.2))
            refine hK.out _ _ ?_ (fun hHeld => ?_)
            · exact kpT
            clear hK K
            try simp only [Act.put, List.setIfInBounds_toArray, List.set_cons_zero, List.set_cons_succ]
            refine wpAnyH_ready (rs := [9]) (by kernel_rfl) (by simp) ?_
            refine rdR (fun K hK => ?_) ?_
            · go_simp
              refine (composedI_any _ _ _ _ _ hoi.rd (hQz.out.below ?b52) (by rw [inv_len]; omega) HIR.out).mono ?_
              case b52 => exact Below.trans (show Below w.heap.size w _ from bwT) (hb4.mono ltT)
              rintro e w5 ⟨uc, rfl, hoc, hb5⟩
              have s5 := hb5.size
              have hS5 := And.intro (oldc hb5 (by omega) hHeld.1) (And.intro (oldc hb5 (by omega) hHeld.2.1) (oldc hb5 (by omega) hHeld.2.2))
              have hb45 := Lib.hid (Below.trans ((Below.refl _ _).drew) (Below.trans hb4 (hb5.mono hb4.size)))
              clear hS4
              refine hK.out _ _ ?_ (fun hHeld => ?_)
              · exact kpT
              clear hK K
              try simp only [Act.put, List.setIfInBounds_toArray, List.set_cons_zero, List.set_cons_succ]
              refine wpAnyH_ready (rs := [10]) (by kernel_rfl) (by simp) ?_
              refine rdR (fun K hK => ?_) ?_
              · go_simp
                refine (add_any _ (mn : Int) (a : Int) ⟨by omega, by omega⟩ ⟨by omega, by omega⟩ _ (byM c) hoc.rd HRM.out (by have := HBL.out; omega) (by have := HBL.out; omega) (w.heap.size + 1 + 1) (.slice (some ⟨g3, 0, none⟩) ((tiesOf (edTo f c a)).length + 2) cap3) (tiesOf (edTo f c a ++ edFa c a (nm, sx, (fn : Int), (mn : Int), bo', di))) ((hb45.out.block _ ltT).trans hV3.out) (HG1.out.below hb45.out) (.inr (by omega)) (by omega) (by omega) HMM.out.1 HMM.out.2).mono ?_
                rintro e w6 ⟨rfl, g6, cap6, hv6, hG6, hb6, -, hfr6⟩
                have s6 := hb6.size
                have hS6 := And.intro (oldc hb6 (by omega) hHeld.1) (And.intro (oldc hb6 (by omega) hHeld.2.1) ((World.cell?_of_block (a := ⟨wb.heap.size, 3, none⟩) (hfr6 wb.heap.size (by omega) (by omega) (fun e => by simp [Value.ownBlock] at e; omega))).trans hHeld.2.2))
                refine hK.out _ _ ?_ (fun hHeld => ?_)
                · exact kpT
                clear hK K
                try simp only [Act.put, List.setIfInBounds_toArray, List.set_cons_zero, List.set_cons_succ]
                refine wpAnyH_done (by kernel_rfl) ?_ _
                have hbb6 : Below (w.heap.size + 1 + 1) w0 w6 := Below.trans (Below.trans (show Below (w.heap.size + 1 + 1) w0 _ from bwT) (hb45.out.mono ltT)) hb6
                have hV6 := Lib.hid hv6
                have HG6 := Lib.hid (show GL false (w.heap.size + 3) 0 w6.heap.size w6 115 (.slice (some ⟨g6, 0, none⟩) ((tiesOf (edTo f c a ++ edFa c a (nm, sx, (fn : Int), (mn : Int), bo', di))).length + 2) cap6) (tiesOf (edTo f c (a + 1))) by
                  rw [HD.out, show edMo c a (nm, sx, (fn : Int), (mn : Int), bo', di) = [(mn, a, byM c)] by simp [edMo], tiesOf_snoc]
                  exact hG6)
                clear hS5 hS6 hHeld hb6 hfr6 hG6 hv6 hoc hoi hb4 hb5 hb45 HG1 HD HMM hown
                go_wp2
                go_roundw
                case rel => exact ⟨a + 1, _, by omega, by go_num, hV6, HG6, hbb6⟩
                case measure => simp [intOf]; omega
              exact AllReadyH.nil
            exact AllReadyH.nil
          exact AllReadyH.nil
    · obtain rfl : a = f.1.length := by omega
      have nIa : ¬ (f.1.length : Int) < (f.1.length : Int) := by omega
      have hGU := Lib.hid (show GL false (w.heap.size + 3) 0 wb.heap.size wb 115 v (tiesOf (edTo f c f.1.length ++ edU c (f.2.take 0))) by simpa [edU] using hG.out)
      clear hG
      go_wp2
      go_loopw [10, 48] (fun _ s48 wr => ∃ (j : Nat) (v : Value), j ≤ f.2.length ∧ s48 = .int .i64 j ∧ Hid (wr.heap[w.heap.size + 1 + 1]? = some (.cells #[v] 73 (0, 0))) ∧ Hid (GL false (w.heap.size + 3) 0 wr.heap.size wr 115 v (tiesOf (edTo f c f.1.length ++ edU c (f.2.take j)))) ∧ Below (w.heap.size + 1 + 1) w0 wr) (fun _ s48 _ => f.2.length - (intOf s48).toNat)
      case atStart => exact ⟨0, v, Nat.zero_le _, rfl, hV, hGU, hbb⟩
      case round =>
        clear hV hGU hbb hbw q_f1 q_c0 q_c1 l_f l_c lB sR
        obtain ⟨wd, hwd⟩ : ∃ wm : World, wm = wr := ⟨_, rfl⟩
        subst hwd
        obtain ⟨j, v, hj1, rfl, hV, hG, hbb⟩ := hrel
        have sR := hbb.size
        have lB : w.heap.size + 1 + 1 < wd.heap.size := by omega
        have hbw : Below w.heap.size w wd := hB0.trans (hbb.mono (by omega))
        have q_c0 := oldc hbb (by omega) qa_c0
        have l_c : w.heap.size + 1 < wd.heap.size := by omega
        by_cases hlj : j < f.2.length
        · have hIj : (j : Int) < (f.2.length : Int) := by omega
          obtain ⟨ub, uoff, ma, wo, fr, tl, rfl, hu, p0, p1, p2, p3, -, -, -, -, -, -, ubl, -⟩ := (hBz.out.below hbw).uni_at hlj
          obtain ⟨⟨um1, um2⟩, ⟨uw1, uw2⟩⟩ := HU.out j _ hu.out
          dsimp only at um1 um2 uw1 uw2
          obtain ⟨mi, rfl⟩ := Int.eq_ofNat_of_zero_le um1
          obtain ⟨wi, rfl⟩ := Int.eq_ofNat_of_zero_le uw1
          have HN := HNU.out j hj1
          have HTK := Lib.hid (edU_take (c := c) hu.out)
          clear hu
          go_wp2_with fail
          refine (add_any _ (mi : Int) (wi : Int) ⟨by omega, by omega⟩ ⟨by omega, by omega⟩ _ c.1 (hWz.out.below ?b2) HR1.out hl1 c8 (w.heap.size + 1 + 1) v (tiesOf (edTo f c f.1.length ++ edU c (f.2.take j))) ((Below.heap_alloc wd _ _ lB).trans hV.out) (hG.out.alloc _) (.inl (by omega)) (by omega) (by simp; omega) (by have := HN.1; omega) HN.2).mono ?_
          case b2 => exact bwT
          rintro e w3 ⟨rfl, g3, cap3, hv3, hG3, hb3, -, hfr3⟩
          have hbb3 : Below (w.heap.size + 1 + 1) w0 w3 := Below.trans (show Below (w.heap.size + 1 + 1) w0 _ from hbb.alloc (by omega) _) hb3
          have hV3 := Lib.hid hv3
          have HG3 := Lib.hid (show GL false (w.heap.size + 3) 0 w3.heap.size w3 115 (.slice (some ⟨g3, 0, none⟩) ((tiesOf (edTo f c f.1.length ++ edU c (f.2.take j))).length + 2) cap3) (tiesOf (edTo f c f.1.length ++ edU c (f.2.take (j + 1)))) by
            rw [HTK.out, ← List.append_assoc, tiesOf_snoc]; exact hG3)
          clear hv3 hG3 hb3 hfr3 hG hV HN p0 p1 p2 p3
          go_wp2
          go_roundw
          case rel => exact ⟨j + 1, _, by omega, by go_num, hV3, HG3, hbb3⟩
          case measure => simp [intOf]; omega
        · obtain rfl : j = f.2.length := by omega
          have nIj : ¬ (f.2.length : Int) < (f.2.length : Int) := by omega
          have hcv := cell_of_one hV.out
          have HF := Lib.hid (GL.rd (l0 := 0) hG.out (Nat.zero_le _) (Nat.le_refl _))
          rw [List.take_length] at HF
          clear hG hV
          go_wp2
          go_ret
          exact ⟨v, rfl, HF.out, hbw⟩
end Go.Proofs.Ytefbbbhidnnchaa
