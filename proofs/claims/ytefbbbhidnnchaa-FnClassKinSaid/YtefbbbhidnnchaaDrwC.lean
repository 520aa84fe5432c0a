/- Contracts: the reference's draw of a system of classes: it is valid and not too great. -/
import Derived.Test.YtefbbbhidnnchaaZ14H
import Derived.Test.YtefbbbhidnnchaaProdS
import Derived.Test.YtefbbbhidnnchaaZ14T
import Derived.Test.YtefbbbhidnnchaaZ14D
import Derived.Test.YtefbbbhidnnchaaZ14U
namespace Go.Proofs.Ytefbbbhidnnchaa
set_option linter.unusedVariables false
set_option linter.unusedSimpArgs false
open Go.RowKit

theorem flatMap_left {α β : Type} {f g : α → List β} : ∀ l : List α, (∀ a ∈ l, (f a).Perm (g a)) → (l.flatMap f).Perm (l.flatMap g)
  | [], _ => List.Perm.refl _
  | a :: l, h => by
    rw [List.flatMap_cons, List.flatMap_cons]
    exact (h a (by simp)).append (flatMap_left l fun b hb => h b (by simp [hb]))
theorem flatMap_right {α β : Type} {f : α → List β} {a b : List α} (h : a.Perm b) : (a.flatMap f).Perm (b.flatMap f) := by
  rw [List.flatMap_def, List.flatMap_def]
  exact (h.map f).flatten
theorem prodL_isP {n m : Nat} {p q : List Int} (hp : IsP n p) (hq : IsP m q) : IsP (n * m) (prodL m p q) := by
  unfold prodL
  have h1 : (p.flatMap fun x : Int => q.map fun y : Int => x * (m : Int) + y).Perm ((idL n).flatMap fun x : Int => (idL m).map fun y : Int => x * (m : Int) + y) :=
    (flatMap_left _ fun x _ => List.Perm.map _ hq).trans (flatMap_right hp)
  refine h1.trans ?_
  have e : ∀ k : Nat, ((idL k).flatMap fun x : Int => (idL m).map fun y : Int => x * (m : Int) + y) = idL (k * m) := by
    intro k
    induction k with
    | zero => simp [idL]
    | succ k ih =>
      rw [idL_succ, List.flatMap_append, ih]
      apply List.ext_getElem?
      intro i
      simp only [List.flatMap_cons, List.flatMap_nil, List.append_nil]
      by_cases hi : i < k * m
      · rw [List.getElem?_append_left (by rw [idL_len]; exact hi), idL_at hi, idL_at (by rw [Nat.add_mul]; omega)]
      · rw [List.getElem?_append_right (by rw [idL_len]; omega), idL_len, List.getElem?_map]
        by_cases hj : i - k * m < m
        · rw [idL_at hj, idL_at (by rw [Nat.add_mul]; omega)]
          simp only [Option.map_some, Option.some.injEq]
          rw [Int.natCast_sub (by omega), Int.natCast_mul]; omega
        · rw [List.getElem?_eq_none (by rw [idL_len]; omega), List.getElem?_eq_none (by rw [idL_len, Nat.add_mul]; omega)]; rfl
  rw [e n]
theorem isCls_mk {c : Cls} {n : Nat} (hc : COk n c) (h1 : 1 ≤ n) (h8 : n ≤ 8) : isCls c = true := by
  unfold isCls
  simp only [Bool.and_eq_true, decide_eq_true_eq]
  rw [hc.w.len, hc.ch.len]
  exact ⟨⟨⟨h1, h8, rfl⟩, (isPerm_of hc.w).1⟩, (isPerm_of hc.ch).1⟩
theorem prodC_cls {c d : Cls} (h : prodV c d = true) : isCls (prodC c d) = true := by
  have h' := h
  simp only [prodV, Bool.and_eq_true, decide_eq_true_eq] at h
  obtain ⟨⟨hc, hd⟩, h8⟩ := h
  have kc := cOk_of hc
  have kd := cOk_of hd
  have p1 := (isCls_parts hc).1
  have p2 := (isCls_parts hd).1
  unfold prodC
  rw [if_pos h']
  exact isCls_mk (n := c.1.length * d.1.length) ⟨prodL_isP kc.w kd.w, prodL_isP kc.ch kd.ch⟩ (Nat.mul_pos p1 p2) h8
theorem relabC_cls {c : Cls} (hc : isCls c = true) {s : List Int} (hs : IsP c.1.length s) : relabV c s = true ∧ isCls (relabC c s) = true ∧ (relabC c s).1.length = c.1.length := by
  have hv : relabV c s = true := by
    unfold relabV
    rw [hc, (isPerm_of hs).1, hs.len]; simp
  have k := cOk_of hc
  have p := isCls_parts hc
  unfold relabC
  rw [if_pos hv]
  refine ⟨hv, isCls_mk (n := c.1.length) ⟨?_, ?_⟩ p.1 p.2.1, by rw [relab_len, hs.len]⟩
  · show IsP _ (relab s c.1)
    rw [relab_cj hs k.w]; exact cj_isP hs k.w
  · show IsP _ (relab s c.2)
    rw [relab_cj hs k.ch]; exact cj_isP hs k.ch
theorem samp_cls {s : ByteArray} (h : s ∈ [(⟨#[107, 97, 114, 105, 101, 114, 97]⟩ : ByteArray), ⟨#[99, 105, 114, 99, 108, 101]⟩, ⟨#[109, 111, 105, 101, 116, 105, 101, 115]⟩, ⟨#[109, 111, 105, 101, 116, 105, 101, 115]⟩]) : isCls (sampC s.toList) = true ∧ (sampC s.toList).1.length ≤ 4 := by
  simp only [List.mem_cons, List.not_mem_nil, or_false] at h
  rcases h with rfl | rfl | rfl | rfl <;> (rw [ByteArray.toList_eq]; decide +kernel)

/-- A valid system is drawn. -/
def PostDC (p most : Nat) (w : World) (e : Ending) (w' : World) : Prop := ∃ a b c, e = .returned (.agg #[a, b]) ∧ Ow w.heap.size w'.heap.size w' [a, b] c ∧ Hid (isCls c = true ∧ c.1.length ≤ most) ∧ CurOk p w' ∧ OffF [p] w w'
def PostMC (most : Nat) (w : World) (e : Ending) (w' : World) : Prop := ∃ a b c, e = .returned (.agg #[a, b]) ∧ Ow w.heap.size w'.heap.size w' [a, b] c ∧ Hid (isCls c = true ∧ c.1.length ≤ most) ∧ Below w.heap.size w w'
set_option maxRecDepth 20000 in
set_option maxHeartbeats 8000000 in
theorem l6Draw_any (w : World) (p : Nat) (h : CurOk p w) (most : Nat) (h1 : 1 ≤ most) (h8 : most ≤ 8) :
    Calls Try.prog 39 #[.pointer (some ⟨p, 0, none⟩), .int .i64 most] w (PostDC p most w) := by
  have hp := h.lt
  go_enter Try.func39, Try.ntmps39
  go_wp2_with fail
  refine (l01Once_any _ p (h.grow bwT) 3 (by omega) (by omega)).mono ?_
  rintro e w1 ⟨r, rfl, hC1, hO1⟩
  have hF1 : OffF [p] w w1 := ((OffF.refl [p] w).alloc _).trans hO1
  have s1 : w.heap.size < w1.heap.size := by have := hO1.size; simp at this; omega
  have r0 : w1.cell? ⟨w.heap.size, 0, none⟩ = some (.slice none 0 0) := offq hO1 (by omega) (by simp) (by simp [go_sem])
  have r1 : w1.cell? ⟨w.heap.size, 1, none⟩ = some (.slice none 0 0) := offq hO1 (by omega) (by simp) (by simp [go_sem])
  have rf : ∀ o, w1.frozen? ⟨w.heap.size, o, none⟩ = false := offfr hO1 (by omega) (by simp) (by simp [go_sem])
  clear h hO1
  cases r
  · skip
    go_wp2_with fail
    refine (l01Below_any _ p hC1 most (by omega) (by omega)).mono ?_
    rintro e wa ⟨rn, rfl, ⟨hr0, hr1⟩, hCa, hOa⟩
    have hFa := hF1.trans hOa
    have sa : w.heap.size < wa.heap.size := Nat.lt_of_lt_of_le (by assumption) hOa.size
    have r0 := offq hOa (by omega) (by assumption) r0
    have r1 := offq hOa (by omega) (by assumption) r1
    have rf := offfr hOa (by omega) (by assumption) rf
    obtain ⟨m, hm⟩ : ∃ m : Nat, (1 : Int) + rn = (m : Int) := ⟨(1 + rn).toNat, by omega⟩
    have hm1 : 1 ≤ m := by omega
    have hm8 : m ≤ most := by omega
    go_wp2_with fail
    refine (l6Shuffle_any _ p hCa m (by omega)).mono ?_
    rintro e wb ⟨u1, xs, rfl, hw1, hX1, hCb, hOb⟩
    have hFb := hFa.trans hOb
    have sb := hOb.size
    have r0 := offq hOb (by omega) (by omega) r0
    have r1 := offq hOb (by omega) (by omega) r1
    have rf := offfr hOb (by omega) (by omega) rf
    clear hCa hOa hOb
    go_wp2_with fail
    refine (l6Shuffle_any _ p hCb m (by omega)).mono ?_
    rintro e wc ⟨u2, ys, rfl, hw2, hX2, hCc, hOc⟩
    have hFc := hFb.trans hOc
    have sc := hOc.size
    have r0 := offq hOc (by omega) (by omega) r0
    have r1 := offq hOc (by omega) (by omega) r1
    have rf := offfr hOc (by omega) (by omega) rf
    have hw1 := hw1.keep (offzn hOc (.inl (by omega)) (Nat.le_refl _))
    obtain ⟨a1, k1, c1, rfl, -, -⟩ := hw1.rd.shape
    obtain ⟨a2, k2, c2, rfl, -, -⟩ := hw2.rd.shape
    have HW1 := Lib.hid hw1
    have HW2 := Lib.hid hw2
    have HEnd := Lib.hid (show ∀ W : World, Below w.heap.size wc W → CurOk p W ∧ OffF [p] w W from fun W hb => ⟨hCc.below (hb.mono (by omega)), hFc.belowA hb⟩)
    have hck : COk m (xs, ys) := ⟨hX1.out, hX2.out⟩
    have HCL := Lib.hid (show isCls (xs, ys) = true ∧ (xs, ys).1.length ≤ most from ⟨isCls_mk hck hm1 (by omega), by rw [hck.w.len]; exact hm8⟩)
    clear hw1 hw2 hCb hCc hFc hFb hFa hOc hX1 hX2 hck
    go_wp2
    refine bodyPost_ret (v := .agg #[.slice a1 k1 c1, .slice a2 k2 c2]) (by simp [results, go_sem, r0, r1]) rfl ⟨_, _, (xs, ys), rfl, ?_, HCL, HEnd.out _ bwT⟩
    have zz : ∀ (lo hi : Nat), w.heap.size < lo → Zone lo hi wc _ := fun lo hi h => Zone.setCell (Zone.setCell (Zone.refl lo hi wc) (p := ⟨w.heap.size, 0, none⟩) (Or.inl (by show w.heap.size < lo; omega)) (.slice a1 k1 c1)) (p := ⟨w.heap.size, 1, none⟩) (Or.inl (by show w.heap.size < lo; omega)) (.slice a2 k2 c2)
    exact Ow.pair (HW1.out.keep (zz _ _ (by omega))) (HW2.out.keep (zz _ _ (by omega))) (.inl (Nat.le_refl _)) (by omega) (by omega) (by simp; omega) (by simp)
  · go_wp2_with (go_at_call 70; refine (l01Pick_any _ p (hC1.grow bwT) _ [(⟨#[107, 97, 114, 105, 101, 114, 97]⟩ : ByteArray), ⟨#[99, 105, 114, 99, 108, 101]⟩, ⟨#[109, 111, 105, 101, 116, 105, 101, 115]⟩, ⟨#[109, 111, 105, 101, 116, 105, 101, 115]⟩] (Ow.strs_lit0 w1 9 [(⟨#[107, 97, 114, 105, 101, 114, 97]⟩ : ByteArray), ⟨#[99, 105, 114, 99, 108, 101]⟩, ⟨#[109, 111, 105, 101, 116, 105, 101, 115]⟩, ⟨#[109, 111, 105, 101, 116, 105, 101, 115]⟩] (by intro x hx; simp only [List.mem_cons, List.not_mem_nil, or_false] at hx; rcases hx with rfl | rfl | rfl | rfl <;> (unfold maxLen; decide)) (by unfold maxLen; decide)).rd (by decide) (by decide) (.inl (by omega)) (by simp)).mono ?_)
    rintro e w2 ⟨sn, rfl, hsm, hC2, hO2⟩
    have hO12 : OffF [p] w1 w2 := ((OffF.refl [p] w1).alloc _).trans hO2
    have hF2 := hF1.trans hO12
    have s2 := hO12.size
    have r0 := offq hO12 (by omega) (by omega) r0
    have r1 := offq hO12 (by omega) (by omega) r1
    have rf := offfr hO12 (by omega) (by omega) rf
    obtain ⟨hx1, hx2⟩ := samp_cls hsm
    clear hO2 hO12 hC1 hF1 hsm
    go_wp2_with fail
    refine (sampS_any sn _).mono ?_
    rintro e w3 ⟨xa, xb, rfl, hox, hb3⟩
    obtain ⟨x, hx⟩ : ∃ x, x = sampC sn.toList := ⟨_, rfl⟩
    rw [← hx] at hox hx1 hx2
    obtain ⟨f1, f2⟩ := x
    clear hx
    obtain ⟨ao, nx, cap, bo, my, dap, rfl, rfl⟩ := shapeCls hox.rd
    obtain ⟨_, _, _, e3, hn3, -⟩ := (hox.rd.two rfl).1.shape
    simp only [Value.slice.injEq] at e3
    obtain ⟨-, rfl, -⟩ := e3
    dsimp only at hx2 hn3
    have hfl : f1.length ≤ 4 := hx2
    subst hn3
    have HX1 := Lib.hid hx1
    have HOX := Lib.hid hox
    have hC3 := hC2.grow hb3
    have hF3 : OffF [p] w w3 := hF2.belowA (hb3.mono (by omega))
    have s3 := hb3.size
    have r0 := oldc hb3 (by omega) r0
    have r1 := oldc hb3 (by omega) r1
    have rf : ∀ o, w3.frozen? ⟨w.heap.size, o, none⟩ = false := fun o => (hb3.frozen (p := ⟨w.heap.size, o, none⟩) (by show w.heap.size < _; omega)).trans (rf o)
    clear hox hC2 hF2 hb3 hx1 hx2
    go_upto_region 3 with fail
    go_cut [6, 7] (fun s6 s7 wx => ∃ (Y : Nat) (ya yb : Value) (y : Cls), s6 = .pointer (some ⟨Y, 0, none⟩) ∧ wx.cell? ⟨Y, 0, none⟩ = some ya ∧ wx.cell? ⟨Y, 1, none⟩ = some yb ∧ Y < wx.heap.size ∧ w.heap.size < Y ∧ Hid (Ow (w.heap.size + 1) wx.heap.size wx [ya, yb] y) ∧ Hid (isCls y = true ∧ y.1.length ≤ 4) ∧ Hid (CurOk p wx ∧ OffF [p] w wx) ∧ wx.cell? ⟨w.heap.size, 0, none⟩ = some (.slice none 0 0) ∧ wx.cell? ⟨w.heap.size, 1, none⟩ = some (.slice none 0 0) ∧ ∀ o, wx.frozen? ⟨w.heap.size, o, none⟩ = false)
    case first =>
      refine wp_region_held_drew (S := (fun w' => w'.cell? ⟨w3.heap.size, 0, none⟩ = some (.slice ao f1.length cap) ∧ w'.cell? ⟨w3.heap.size, 1, none⟩ = some (.slice bo my dap))) (by kernel_rfl) ?_ (fun hHeld => ?_)
      · first | exact trivial | ((try dsimp only); go_keep)
      refine tkR 0 (v := ?_) ?_ ?_
      rotate_left
      · intro w hSw; (try dsimp only at hSw); go_simp <;> with_reducible rfl
      try simp only [Act.put, List.setIfInBounds_toArray, List.set_cons_zero, List.set_cons_succ]
      refine tkR 1 (v := ?_) ?_ ?_
      rotate_left
      · intro w hSw; (try dsimp only at hSw); go_simp <;> with_reducible rfl
      try simp only [Act.put, List.setIfInBounds_toArray, List.set_cons_zero, List.set_cons_succ]
      refine tkR 2 (v := ?_) ?_ ?_
      rotate_left
      · intro w hSw; (try dsimp only at hSw); go_simp <;> with_reducible rfl
      try simp only [Act.put, List.setIfInBounds_toArray, List.set_cons_zero, List.set_cons_succ]
      refine tkR 3 (v := ?_) ?_ ?_
      rotate_left
      · intro w hSw; (try dsimp only at hSw); go_simp <;> with_reducible rfl
      try simp only [Act.put, List.setIfInBounds_toArray, List.set_cons_zero, List.set_cons_succ]
      refine tkR 4 (v := ?_) ?_ ?_
      rotate_left
      · intro w hSw; (try dsimp only at hSw); go_simp <;> with_reducible rfl
      try simp only [Act.put, List.setIfInBounds_toArray, List.set_cons_zero, List.set_cons_succ]
      refine wpAnyH_ready (rs := [5, 10]) (by kernel_rfl) (by simp) ?_
      refine rdR (fun K hK => ?_) ?_
      · go_simp
        refine (l6Shuffle_any _ p (hC3.grow ?b1) f1.length (by omega)).mono ?_
        case b1 => exact bwT
        rintro e w4 ⟨us, sh, rfl, hos, hsh, hC4, hO4⟩
        obtain ⟨as4, ks4, cs4, rfl, -, -⟩ := hos.rd.shape
        have hO34 : OffF [p] w3 w4 := (OffF.below (OffF.refl [p] w3) bwT).trans hO4
        have s4 : w3.heap.size < w4.heap.size := (by have := hO4.size; (try simp only [World.size_alloc, World.size_drew] at this); omega)
        have hF4 := hF3.trans hO34
        have hS4 := And.intro (offq hO4 (show w3.heap.size ≠ p by omega) (by first | (simp; omega) | simp) hHeld.1) (offq hO4 (show w3.heap.size ≠ p by omega) (by first | (simp; omega) | simp) hHeld.2)
        have r0 := offq hO34 (by omega) (by omega) r0
        have r1 := offq hO34 (by omega) (by omega) r1
        have rf := offfr hO34 (by omega) (by omega) rf
        have HOX := Lib.hid (HOX.out.keep (offzn hO34 (.inl (by omega)) (Nat.le_refl _)))
        have HSH := Lib.hid (relabC_cls HX1.out hsh.out)
        have hshl : sh.length ≤ 1048576 := (by have := hsh.out.length_eq; rw [idL_len] at this; omega)
        refine hK.out _ _ ?_ (fun hHeld => ?_)
        · exact kpT
        clear hK K
        try simp only [Act.put, List.setIfInBounds_toArray, List.set_cons_zero, List.set_cons_succ]
        refine wpAnyH_ready (rs := [6, 10]) (by kernel_rfl) (by simp) ?_
        refine rdR (fun K hK => ?_) ?_
        · go_simp
          refine (relabS_any _ _ _ _ (f1, f2) sh (HOX.out.rd.below ?b1) (hos.rd.below ?b2) (show f1.length ≤ 1048576 by omega) hshl).mono ?_
          case b1 => exact bwT
          case b2 => exact bwT
          rintro e w5 ⟨ya, yb, rfl, hoy, hb5⟩
          obtain ⟨ao5, ny5, cap5, bo5, my5, dap5, rfl, rfl⟩ := shapeCls hoy.rd
          have hb45 : Below w4.heap.size w4 w5 := Below.after bwT hb5 (by first | omega | (simp; omega) | simp)
          have s5 := hb45.size
          have hC5 := hC4.grow hb45
          have hF5 := hF4.belowA (hb45.mono (by omega))
          have hS5 := And.intro (oldc hb5 (by first | (simp; omega) | (simp; done) | omega) hHeld.1) (oldc hb5 (by first | (simp; omega) | (simp; done) | omega) hHeld.2)
          have r0 := oldc hb45 (by omega) r0
          have r1 := oldc hb45 (by omega) r1
          have rf : ∀ o, w5.frozen? ⟨w.heap.size, o, none⟩ = false := (fun o => (hb45.frozen (p := ⟨w.heap.size, o, none⟩) (by show w.heap.size < _; omega)).trans (rf o))
          have HOY := Lib.hid hoy
          (try simp only [World.size_alloc, World.size_drew] at HOY)
          have HEnd := Lib.hid (show ∀ W : World, Below (w.heap.size + 1) w5 W → CurOk p W ∧ OffF [p] w W from fun W hb => ⟨hC5.below (hb.mono (by omega)), hF5.belowA (hb.mono (by omega))⟩)
          have ne1 : ¬ w3.heap.size = w5.heap.size := (by omega)
          have ne2 : ¬ w5.heap.size = w3.heap.size := (by omega)
          have ne3 : ¬ w.heap.size = w5.heap.size := (by omega)
          have ne4 : ¬ w5.heap.size = w.heap.size := (by omega)
          have lR : w.heap.size < w5.heap.size := (by omega)
          have ne5 : ¬ w.heap.size = w3.heap.size + 1 := (by omega)
          have ne6 : ¬ w3.heap.size + 1 = w.heap.size := (by omega)
          refine hK.out _ _ ?_ (fun hHeld => ?_)
          · exact kpT
          clear hK K
          try simp only [Act.put, List.setIfInBounds_toArray, List.set_cons_zero, List.set_cons_succ]
          refine tkR 7 (v := ?_) ?_ ?_
          rotate_left
          · intro w hSw; (try dsimp only at hSw); go_simp <;> with_reducible rfl
          try simp only [Act.put, List.setIfInBounds_toArray, List.set_cons_zero, List.set_cons_succ]
          refine tkR 8 (v := ?_) ?_ ?_
          rotate_left
          · intro w hSw; (try dsimp only at hSw); go_simp <;> with_reducible rfl
          try simp only [Act.put, List.setIfInBounds_toArray, List.set_cons_zero, List.set_cons_succ]
          refine tkR 9 (v := ?_) ?_ ?_
          rotate_left
          · intro w hSw; (try dsimp only at hSw); go_simp <;> with_reducible rfl
          try simp only [Act.put, List.setIfInBounds_toArray, List.set_cons_zero, List.set_cons_succ]
          refine wpAnyH_ready (rs := [10]) (by kernel_rfl) (by simp) ?_
          refine rdR (fun K hK => ?_) ?_
          · go_simp
            refine hK.out _ _ ?_ (fun hHeld => ?_)
            · exact kpT
            clear hK K
            try simp only [Act.put, List.setIfInBounds_toArray, List.set_cons_zero, List.set_cons_succ]
            refine wpAnyH_ready (rs := [11]) (by kernel_rfl) (by simp) ?_
            refine rdR (fun K hK => ?_) ?_
            · go_simp
              refine hK.out _ _ ?_ (fun hHeld => ?_)
              · exact kpT
              clear hK K
              try simp only [Act.put, List.setIfInBounds_toArray, List.set_cons_zero, List.set_cons_succ]
              refine tkR 12 (v := ?_) ?_ ?_
              rotate_left
              · intro w hSw; (try dsimp only at hSw); go_simp <;> with_reducible rfl
              try simp only [Act.put, List.setIfInBounds_toArray, List.set_cons_zero, List.set_cons_succ]
              refine wpAnyH_done (by kernel_rfl) ?_ _
              go_wp2_with fail
              go_meet
              exact ⟨_, _, _, _, rfl, by simp [go_sem, *], by simp [go_sem, *], by first | (simp; omega) | simp, by omega, Lib.hid ((HOY.out.keep zmT).mono (by first | omega | (simp; omega)) (by first | omega | (simp; omega) | simp)), Lib.hid ⟨HSH.out.2.1, by rw [HSH.out.2.2]; exact hfl⟩, Lib.hid (HEnd.out _ bwT), by first | (with_reducible assumption) | simp [go_sem, *], by first | (with_reducible assumption) | simp [go_sem, *], fun o => by first | (with_reducible exact rf o) | simp [go_sem, *]⟩
            exact AllReadyH.nil
          exact AllReadyH.nil
        refine rdR (fun K hK => ?_) ?_
        · go_simp
          refine hK.out _ _ ?_ (fun hHeld => ?_)
          · exact kpT
          clear hK K
          try simp only [Act.put, List.setIfInBounds_toArray, List.set_cons_zero, List.set_cons_succ]
          refine wpAnyH_ready (rs := [6]) (by kernel_rfl) (by simp) ?_
          refine rdR (fun K hK => ?_) ?_
          · go_simp
            refine (relabS_any _ _ _ _ (f1, f2) sh (HOX.out.rd.below ?b1) (hos.rd.below ?b2) (show f1.length ≤ 1048576 by omega) hshl).mono ?_
            case b1 => exact bwT
            case b2 => exact bwT
            rintro e w5 ⟨ya, yb, rfl, hoy, hb5⟩
            obtain ⟨ao5, ny5, cap5, bo5, my5, dap5, rfl, rfl⟩ := shapeCls hoy.rd
            have hb45 : Below w4.heap.size w4 w5 := Below.after bwT hb5 (by first | omega | (simp; omega) | simp)
            have s5 := hb45.size
            have hC5 := hC4.grow hb45
            have hF5 := hF4.belowA (hb45.mono (by omega))
            have hS5 := And.intro (oldc hb5 (by first | (simp; omega) | (simp; done) | omega) hHeld.1) (oldc hb5 (by first | (simp; omega) | (simp; done) | omega) hHeld.2)
            have r0 := oldc hb45 (by omega) r0
            have r1 := oldc hb45 (by omega) r1
            have rf : ∀ o, w5.frozen? ⟨w.heap.size, o, none⟩ = false := (fun o => (hb45.frozen (p := ⟨w.heap.size, o, none⟩) (by show w.heap.size < _; omega)).trans (rf o))
            have HOY := Lib.hid hoy
            (try simp only [World.size_alloc, World.size_drew] at HOY)
            have HEnd := Lib.hid (show ∀ W : World, Below (w.heap.size + 1) w5 W → CurOk p W ∧ OffF [p] w W from fun W hb => ⟨hC5.below (hb.mono (by omega)), hF5.belowA (hb.mono (by omega))⟩)
            have y0 : w5.cell? ⟨w4.heap.size, 0, none⟩ = some (.slice none 0 0) := oldc hb5 (by simp) (by simp [go_sem])
            have y1 : w5.cell? ⟨w4.heap.size, 1, none⟩ = some (.slice none 0 0) := oldc hb5 (by simp) (by simp [go_sem])
            have yf : ∀ o, w5.frozen? ⟨w4.heap.size, o, none⟩ = false := (fun o => (hb5.frozen (p := ⟨w4.heap.size, o, none⟩) (by simp)).trans (by simp [go_sem]))
            have yl : w4.heap.size < w5.heap.size := (by have := hb5.size; simp at this; omega)
            have ne1 : ¬ w3.heap.size = w4.heap.size := (by omega)
            have ne2 : ¬ w4.heap.size = w3.heap.size := (by omega)
            have ne3 : ¬ w.heap.size = w4.heap.size := (by omega)
            have ne4 : ¬ w4.heap.size = w.heap.size := (by omega)
            have lR : w.heap.size < w5.heap.size := (by omega)
            have ne5 : ¬ w.heap.size = w3.heap.size + 1 := (by omega)
            have ne6 : ¬ w3.heap.size + 1 = w.heap.size := (by omega)
            refine hK.out _ _ ?_ (fun hHeld => ?_)
            · exact kpT
            clear hK K
            try simp only [Act.put, List.setIfInBounds_toArray, List.set_cons_zero, List.set_cons_succ]
            refine tkR 7 (v := ?_) ?_ ?_
            rotate_left
            · intro w hSw; (try dsimp only at hSw); go_simp <;> with_reducible rfl
            try simp only [Act.put, List.setIfInBounds_toArray, List.set_cons_zero, List.set_cons_succ]
            refine tkR 8 (v := ?_) ?_ ?_
            rotate_left
            · intro w hSw; (try dsimp only at hSw); go_simp <;> with_reducible rfl
            try simp only [Act.put, List.setIfInBounds_toArray, List.set_cons_zero, List.set_cons_succ]
            refine tkR 9 (v := ?_) ?_ ?_
            rotate_left
            · intro w hSw; (try dsimp only at hSw); go_simp <;> with_reducible rfl
            try simp only [Act.put, List.setIfInBounds_toArray, List.set_cons_zero, List.set_cons_succ]
            refine wpAnyH_ready (rs := [11]) (by kernel_rfl) (by simp) ?_
            refine rdR (fun K hK => ?_) ?_
            · go_simp
              refine hK.out _ _ ?_ (fun hHeld => ?_)
              · exact kpT
              clear hK K
              try simp only [Act.put, List.setIfInBounds_toArray, List.set_cons_zero, List.set_cons_succ]
              refine tkR 12 (v := ?_) ?_ ?_
              rotate_left
              · intro w hSw; (try dsimp only at hSw); go_simp <;> with_reducible rfl
              try simp only [Act.put, List.setIfInBounds_toArray, List.set_cons_zero, List.set_cons_succ]
              refine wpAnyH_done (by kernel_rfl) ?_ _
              go_wp2_with fail
              go_meet
              exact ⟨_, _, _, _, rfl, by simp [go_sem, *], by simp [go_sem, *], by first | (simp; omega) | simp, by omega, Lib.hid ((HOY.out.keep zmT).mono (by first | omega | (simp; omega)) (by first | omega | (simp; omega) | simp)), Lib.hid ⟨HSH.out.2.1, by rw [HSH.out.2.2]; exact hfl⟩, Lib.hid (HEnd.out _ bwT), by first | (with_reducible assumption) | simp [go_sem, *], by first | (with_reducible assumption) | simp [go_sem, *], fun o => by first | (with_reducible exact rf o) | simp [go_sem, *]⟩
            exact AllReadyH.nil
          exact AllReadyH.nil
        exact AllReadyH.nil
      refine rdR (fun K hK => ?_) ?_
      · go_simp
        refine hK.out _ _ ?_ (fun hHeld => ?_)
        · exact kpT
        clear hK K
        try simp only [Act.put, List.setIfInBounds_toArray, List.set_cons_zero, List.set_cons_succ]
        refine wpAnyH_ready (rs := [5]) (by kernel_rfl) (by simp) ?_
        refine rdR (fun K hK => ?_) ?_
        · go_simp
          refine (l6Shuffle_any _ p (hC3.grow ?b1) f1.length (by omega)).mono ?_
          case b1 => exact bwT
          rintro e w4 ⟨us, sh, rfl, hos, hsh, hC4, hO4⟩
          obtain ⟨as4, ks4, cs4, rfl, -, -⟩ := hos.rd.shape
          have hO34 : OffF [p] w3 w4 := (OffF.below (OffF.refl [p] w3) bwT).trans hO4
          have s4 : w3.heap.size < w4.heap.size := (by have := hO4.size; (try simp only [World.size_alloc, World.size_drew] at this); omega)
          have hF4 := hF3.trans hO34
          have hS4 := And.intro (offq hO4 (show w3.heap.size ≠ p by omega) (by first | (simp; omega) | simp) hHeld.1) (offq hO4 (show w3.heap.size ≠ p by omega) (by first | (simp; omega) | simp) hHeld.2)
          have r0 := offq hO34 (by omega) (by omega) r0
          have r1 := offq hO34 (by omega) (by omega) r1
          have rf := offfr hO34 (by omega) (by omega) rf
          have HOX := Lib.hid (HOX.out.keep (offzn hO34 (.inl (by omega)) (Nat.le_refl _)))
          have HSH := Lib.hid (relabC_cls HX1.out hsh.out)
          have hshl : sh.length ≤ 1048576 := (by have := hsh.out.length_eq; rw [idL_len] at this; omega)
          have y0 : w4.cell? ⟨w3.heap.size + 1, 0, none⟩ = some (.slice none 0 0) := offq hO4 (show w3.heap.size + 1 ≠ p by omega) (by simp) (by simp [go_sem])
          have y1 : w4.cell? ⟨w3.heap.size + 1, 1, none⟩ = some (.slice none 0 0) := offq hO4 (show w3.heap.size + 1 ≠ p by omega) (by simp) (by simp [go_sem])
          have yf : ∀ o, w4.frozen? ⟨w3.heap.size + 1, o, none⟩ = false := offfr hO4 (show w3.heap.size + 1 ≠ p by omega) (by simp) (by simp [go_sem])
          have yl : w3.heap.size + 1 < w4.heap.size := (by have := hO4.size; (try simp only [World.size_alloc, World.size_drew] at this); omega)
          refine hK.out _ _ ?_ (fun hHeld => ?_)
          · exact kpT
          clear hK K
          try simp only [Act.put, List.setIfInBounds_toArray, List.set_cons_zero, List.set_cons_succ]
          refine wpAnyH_ready (rs := [6]) (by kernel_rfl) (by simp) ?_
          refine rdR (fun K hK => ?_) ?_
          · go_simp
            refine (relabS_any _ _ _ _ (f1, f2) sh (HOX.out.rd.below ?b1) (hos.rd.below ?b2) (show f1.length ≤ 1048576 by omega) hshl).mono ?_
            case b1 => exact bwT
            case b2 => exact bwT
            rintro e w5 ⟨ya, yb, rfl, hoy, hb5⟩
            obtain ⟨ao5, ny5, cap5, bo5, my5, dap5, rfl, rfl⟩ := shapeCls hoy.rd
            have hb45 : Below w4.heap.size w4 w5 := Below.after bwT hb5 (by first | omega | (simp; omega) | simp)
            have s5 := hb45.size
            have hC5 := hC4.grow hb45
            have hF5 := hF4.belowA (hb45.mono (by omega))
            have hS5 := And.intro (oldc hb5 (by first | (simp; omega) | (simp; done) | omega) hHeld.1) (oldc hb5 (by first | (simp; omega) | (simp; done) | omega) hHeld.2)
            have r0 := oldc hb45 (by omega) r0
            have r1 := oldc hb45 (by omega) r1
            have rf : ∀ o, w5.frozen? ⟨w.heap.size, o, none⟩ = false := (fun o => (hb45.frozen (p := ⟨w.heap.size, o, none⟩) (by show w.heap.size < _; omega)).trans (rf o))
            have HOY := Lib.hid hoy
            (try simp only [World.size_alloc, World.size_drew] at HOY)
            have HEnd := Lib.hid (show ∀ W : World, Below (w.heap.size + 1) w5 W → CurOk p W ∧ OffF [p] w W from fun W hb => ⟨hC5.below (hb.mono (by omega)), hF5.belowA (hb.mono (by omega))⟩)
            have y0 := oldc hb45 (by omega) y0
            have y1 := oldc hb45 (by omega) y1
            have yf : ∀ o, w5.frozen? ⟨w3.heap.size + 1, o, none⟩ = false := (fun o => (hb45.frozen (p := ⟨w3.heap.size + 1, o, none⟩) (by show w3.heap.size + 1 < _; omega)).trans (yf o))
            have lR : w.heap.size < w5.heap.size := (by omega)
            have ne5 : ¬ w.heap.size = w3.heap.size + 1 := (by omega)
            have ne6 : ¬ w3.heap.size + 1 = w.heap.size := (by omega)
            refine hK.out _ _ ?_ (fun hHeld => ?_)
            · exact kpT
            clear hK K
            try simp only [Act.put, List.setIfInBounds_toArray, List.set_cons_zero, List.set_cons_succ]
            refine tkR 7 (v := ?_) ?_ ?_
            rotate_left
            · intro w hSw; (try dsimp only at hSw); go_simp <;> with_reducible rfl
            try simp only [Act.put, List.setIfInBounds_toArray, List.set_cons_zero, List.set_cons_succ]
            refine tkR 8 (v := ?_) ?_ ?_
            rotate_left
            · intro w hSw; (try dsimp only at hSw); go_simp <;> with_reducible rfl
            try simp only [Act.put, List.setIfInBounds_toArray, List.set_cons_zero, List.set_cons_succ]
            refine tkR 9 (v := ?_) ?_ ?_
            rotate_left
            · intro w hSw; (try dsimp only at hSw); go_simp <;> with_reducible rfl
            try simp only [Act.put, List.setIfInBounds_toArray, List.set_cons_zero, List.set_cons_succ]
            refine wpAnyH_ready (rs := [11]) (by kernel_rfl) (by simp) ?_
            refine rdR (fun K hK => ?_) ?_
            · go_simp
              refine hK.out _ _ ?_ (fun hHeld => ?_)
              · exact kpT
              clear hK K
              try simp only [Act.put, List.setIfInBounds_toArray, List.set_cons_zero, List.set_cons_succ]
              refine tkR 12 (v := ?_) ?_ ?_
              rotate_left
              · intro w hSw; (try dsimp only at hSw); go_simp <;> with_reducible rfl
              try simp only [Act.put, List.setIfInBounds_toArray, List.set_cons_zero, List.set_cons_succ]
              refine wpAnyH_done (by kernel_rfl) ?_ _
              go_wp2_with fail
              go_meet
              exact ⟨_, _, _, _, rfl, by simp [go_sem, *], by simp [go_sem, *], by first | (simp; omega) | simp, by omega, Lib.hid ((HOY.out.keep zmT).mono (by first | omega | (simp; omega)) (by first | omega | (simp; omega) | simp)), Lib.hid ⟨HSH.out.2.1, by rw [HSH.out.2.2]; exact hfl⟩, Lib.hid (HEnd.out _ bwT), by first | (with_reducible assumption) | simp [go_sem, *], by first | (with_reducible assumption) | simp [go_sem, *], fun o => by first | (with_reducible exact rf o) | simp [go_sem, *]⟩
            exact AllReadyH.nil
          exact AllReadyH.nil
        exact AllReadyH.nil
      exact AllReadyH.nil
    case rest =>
      obtain ⟨w6, hw6⟩ : ∃ W : World, W = wc := ⟨_, rfl⟩
      subst hw6
      obtain ⟨Y, ya, yb, y, rfl, y0, y1, hYl, hwY, HY, HYC, HCF, r0, r1, rf⟩ := hcut
      clear HOX HX1 hC3 hF3
      obtain ⟨g1, g2⟩ := y
      obtain ⟨ao6, ny6, cap6, bo6, my6, dap6, rfl, rfl⟩ := shapeCls HY.out.rd
      obtain ⟨_, _, _, e6, hn6, -⟩ := (HY.out.rd.two rfl).1.shape
      simp only [Value.slice.injEq] at e6
      obtain ⟨-, rfl, -⟩ := e6
      dsimp only at hn6
      subst hn6
      have hgl : g1.length ≤ 4 := HYC.out.2
      have hC6 := Lib.hid HCF.out.1
      have hF6 := Lib.hid HCF.out.2
      have s6 : w.heap.size < w6.heap.size := by omega
      have ne7 : ¬ w.heap.size = Y := by omega
      have ne8 : ¬ Y = w.heap.size := by omega
      clear HCF
      go_upto_region 4 with fail
      go_cut [8, 9] (fun s8 s9 wx => ∃ (Z : Nat) (za zb : Value), s8 = .pointer (some ⟨Z, 0, none⟩) ∧ s9 = .bool (prodV (g1, g2) ([1, 0], [0, 1])) ∧ wx.cell? ⟨Z, 0, none⟩ = some za ∧ wx.cell? ⟨Z, 1, none⟩ = some zb ∧ Z < wx.heap.size ∧ w.heap.size < Z ∧ Hid (Ow (w.heap.size + 1) wx.heap.size wx [za, zb] (prodC (g1, g2) ([1, 0], [0, 1]))) ∧ Hid (CurOk p wx ∧ OffF [p] w wx) ∧ Hid (Ow (w.heap.size + 1) wx.heap.size wx [.slice ao6 g1.length cap6, .slice bo6 my6 dap6] (g1, g2)) ∧ wx.cell? ⟨Y, 0, none⟩ = some (.slice ao6 g1.length cap6) ∧ wx.cell? ⟨Y, 1, none⟩ = some (.slice bo6 my6 dap6) ∧ Y < wx.heap.size ∧ wx.cell? ⟨w.heap.size, 0, none⟩ = some (.slice none 0 0) ∧ wx.cell? ⟨w.heap.size, 1, none⟩ = some (.slice none 0 0) ∧ ∀ o, wx.frozen? ⟨w.heap.size, o, none⟩ = false)
      case first =>
        refine wp_region_held_drew (S := (fun w' => w'.cell? ⟨Y, 0, none⟩ = some (.slice ao6 g1.length cap6) ∧ w'.cell? ⟨Y, 1, none⟩ = some (.slice bo6 my6 dap6))) (by kernel_rfl) ?_ (fun hHeld => ?_)
        · first | exact trivial | ((try dsimp only); go_keep)
        refine tkR 0 (v := ?_) ?_ ?_
        rotate_left
        · intro w hSw; (try dsimp only at hSw); go_simp <;> with_reducible rfl
        try simp only [Act.put, List.setIfInBounds_toArray, List.set_cons_zero, List.set_cons_succ]
        refine wpAnyH_ready (rs := [1, 6]) (by kernel_rfl) (by simp) ?_
        refine rdR (fun K hK => ?_) ?_
        · go_simp
          refine (sampS_any _ _).mono ?_
          rintro e w7 ⟨ma, mb, rfl, hom, hb7⟩
          obtain ⟨mm, hmm⟩ : ∃ m, m = sampC (⟨#[109, 111, 105, 101, 116, 105, 101, 115]⟩ : ByteArray).toList := ⟨_, rfl⟩
          have hme : mm = (([1, 0], [0, 1]) : Cls) := by rw [hmm, ByteArray.toList_eq]; decide +kernel
          rw [← hmm, hme] at hom
          obtain ⟨ao7, n7, cap7, bo7, m7, dap7, rfl, rfl⟩ := shapeCls hom.rd
          clear hmm hme
          have hb67 : Below w6.heap.size w6 w7 := Below.after bwT hb7 (by first | omega | (simp; omega) | simp)
          have s7 := hb67.size
          have hS7 := And.intro (oldc hb7 (by first | (simp; omega) | (simp; done) | omega) hHeld.1) (oldc hb7 (by first | (simp; omega) | (simp; done) | omega) hHeld.2)
          have HOM := Lib.hid hom
          have y0 := oldc hb67 hYl y0
          have y1 := oldc hb67 hYl y1
          have r0 := oldc hb67 s6 r0
          have r1 := oldc hb67 s6 r1
          have rf : ∀ o, w7.frozen? ⟨w.heap.size, o, none⟩ = false := (fun o => (hb67.frozen (p := ⟨w.heap.size, o, none⟩) s6).trans (rf o))
          have HY := Lib.hid (HY.out.below hb67)
          have hYl7 : Y < w7.heap.size := by omega
          refine hK.out _ _ ?_ (fun hHeld => ?_)
          · exact kpT
          clear hK K
          try simp only [Act.put, List.setIfInBounds_toArray, List.set_cons_zero, List.set_cons_succ]
          refine wpAnyH_ready (rs := [2, 6]) (by kernel_rfl) (by simp) ?_
          refine rdR (fun K hK => ?_) ?_
          · go_simp
            refine (prodS_any _ _ _ _ _ (g1, g2) ([1, 0], [0, 1]) (HY.out.rd.below ?b1) (HOM.out.rd.below ?b2) (show g1.length ≤ 1048576 by omega) (by simp)).mono ?_
            case b1 => exact bwT
            case b2 => exact bwT
            rintro e w8 ⟨za, zb, rfl, hoz, hb8⟩
            obtain ⟨ao8, n8, cap8, bo8, m8, dap8, rfl, rfl⟩ := shapeCls hoz.rd
            have hb78 : Below w7.heap.size w7 w8 := Below.after bwT hb8 (by first | omega | (simp; omega) | simp)
            have s8 := hb78.size
            have hS8 := And.intro (oldc hb8 (by first | (simp; omega) | (simp; done) | omega) hHeld.1) (oldc hb8 (by first | (simp; omega) | (simp; done) | omega) hHeld.2)
            have y0 := oldc hb78 hYl7 y0
            have y1 := oldc hb78 hYl7 y1
            have r0 := oldc hb78 (by omega) r0
            have r1 := oldc hb78 (by omega) r1
            have rf : ∀ o, w8.frozen? ⟨w.heap.size, o, none⟩ = false := (fun o => (hb78.frozen (p := ⟨w.heap.size, o, none⟩) (by show w.heap.size < _; omega)).trans (rf o))
            have HY := Lib.hid (HY.out.below hb78)
            have HOZ := Lib.hid hoz
            (try simp only [World.size_alloc, World.size_drew] at HOZ)
            have hYl8 : Y < w8.heap.size := by omega
            have lR : w.heap.size < w8.heap.size := by omega
            have hb68 : Below w6.heap.size w6 w8 := hb67.trans (hb78.mono s7)
            have HEnd := Lib.hid (show ∀ W : World, Below (w.heap.size + 1) w8 W → CurOk p W ∧ OffF [p] w W from fun W hb => ⟨(hC6.out.grow hb68).below (hb.mono (by omega)), (hF6.out.belowA (hb68.mono (by omega))).belowA (hb.mono (by omega))⟩)
            have nq1 : ¬ Y = w6.heap.size := by omega
            have nq2 : ¬ w6.heap.size = Y := by omega
            have nq3 : ¬ Y = w7.heap.size := by omega
            have nq4 : ¬ w7.heap.size = Y := by omega
            have nq5 : ¬ w.heap.size = w6.heap.size := by omega
            have nq6 : ¬ w6.heap.size = w.heap.size := by omega
            have nq7 : ¬ w.heap.size = w7.heap.size := by omega
            have nq8 : ¬ w7.heap.size = w.heap.size := by omega
            refine hK.out _ _ ?_ (fun hHeld => ?_)
            · exact kpT
            clear hK K
            try simp only [Act.put, List.setIfInBounds_toArray, List.set_cons_zero, List.set_cons_succ]
            refine tkR 3 (v := ?_) ?_ ?_
            rotate_left
            · intro w hSw; (try dsimp only at hSw); go_simp <;> with_reducible rfl
            try simp only [Act.put, List.setIfInBounds_toArray, List.set_cons_zero, List.set_cons_succ]
            refine tkR 4 (v := ?_) ?_ ?_
            rotate_left
            · intro w hSw; (try dsimp only at hSw); go_simp <;> with_reducible rfl
            try simp only [Act.put, List.setIfInBounds_toArray, List.set_cons_zero, List.set_cons_succ]
            refine tkR 5 (v := ?_) ?_ ?_
            rotate_left
            · intro w hSw; (try dsimp only at hSw); go_simp <;> with_reducible rfl
            try simp only [Act.put, List.setIfInBounds_toArray, List.set_cons_zero, List.set_cons_succ]
            refine wpAnyH_ready (rs := [6]) (by kernel_rfl) (by simp) ?_
            refine rdR (fun K hK => ?_) ?_
            · go_simp
              refine hK.out _ _ ?_ (fun hHeld => ?_)
              · exact kpT
              clear hK K
              try simp only [Act.put, List.setIfInBounds_toArray, List.set_cons_zero, List.set_cons_succ]
              refine wpAnyH_ready (rs := [7]) (by kernel_rfl) (by simp) ?_
              refine rdR (fun K hK => ?_) ?_
              · go_simp
                refine hK.out _ _ ?_ (fun hHeld => ?_)
                · exact kpT
                clear hK K
                try simp only [Act.put, List.setIfInBounds_toArray, List.set_cons_zero, List.set_cons_succ]
                refine tkR 8 (v := ?_) ?_ ?_
                rotate_left
                · intro w hSw; (try dsimp only at hSw); go_simp <;> with_reducible rfl
                try simp only [Act.put, List.setIfInBounds_toArray, List.set_cons_zero, List.set_cons_succ]
                refine wpAnyH_done (by kernel_rfl) ?_ _
                go_wp2_with fail
                go_meet
                exact ⟨_, _, _, rfl, rfl, by simp [go_sem, *], by simp [go_sem, *], by first | (simp; omega) | simp, by omega, Lib.hid ((HOZ.out.keep zmT).mono (by first | omega | (simp; omega)) (by first | omega | (simp; omega) | simp)), Lib.hid (HEnd.out _ bwT), Lib.hid ((HY.out.keep zgT).mono (by omega) (by first | omega | (simp; omega) | simp)), by first | (with_reducible assumption) | simp [go_sem, *], by first | (with_reducible assumption) | simp [go_sem, *], by first | omega | (simp; omega), by first | (with_reducible assumption) | simp [go_sem, *], by first | (with_reducible assumption) | simp [go_sem, *], fun o => by first | (with_reducible exact rf o) | simp [go_sem, *]⟩
              exact AllReadyH.nil
            exact AllReadyH.nil
          refine rdR (fun K hK => ?_) ?_
          · go_simp
            refine hK.out _ _ ?_ (fun hHeld => ?_)
            · exact kpT
            clear hK K
            try simp only [Act.put, List.setIfInBounds_toArray, List.set_cons_zero, List.set_cons_succ]
            refine wpAnyH_ready (rs := [2]) (by kernel_rfl) (by simp) ?_
            refine rdR (fun K hK => ?_) ?_
            · go_simp
              refine (prodS_any _ _ _ _ _ (g1, g2) ([1, 0], [0, 1]) (HY.out.rd.below ?b1) (HOM.out.rd.below ?b2) (show g1.length ≤ 1048576 by omega) (by simp)).mono ?_
              case b1 => exact bwT
              case b2 => exact bwT
              rintro e w8 ⟨za, zb, rfl, hoz, hb8⟩
              obtain ⟨ao8, n8, cap8, bo8, m8, dap8, rfl, rfl⟩ := shapeCls hoz.rd
              have hb78 : Below w7.heap.size w7 w8 := Below.after bwT hb8 (by first | omega | (simp; omega) | simp)
              have s8 := hb78.size
              have hS8 := And.intro (oldc hb8 (by first | (simp; omega) | (simp; done) | omega) hHeld.1) (oldc hb8 (by first | (simp; omega) | (simp; done) | omega) hHeld.2)
              have y0 := oldc hb78 hYl7 y0
              have y1 := oldc hb78 hYl7 y1
              have r0 := oldc hb78 (by omega) r0
              have r1 := oldc hb78 (by omega) r1
              have rf : ∀ o, w8.frozen? ⟨w.heap.size, o, none⟩ = false := (fun o => (hb78.frozen (p := ⟨w.heap.size, o, none⟩) (by show w.heap.size < _; omega)).trans (rf o))
              have HY := Lib.hid (HY.out.below hb78)
              have HOZ := Lib.hid hoz
              (try simp only [World.size_alloc, World.size_drew] at HOZ)
              have hYl8 : Y < w8.heap.size := by omega
              have lR : w.heap.size < w8.heap.size := by omega
              have hb68 : Below w6.heap.size w6 w8 := hb67.trans (hb78.mono s7)
              have HEnd := Lib.hid (show ∀ W : World, Below (w.heap.size + 1) w8 W → CurOk p W ∧ OffF [p] w W from fun W hb => ⟨(hC6.out.grow hb68).below (hb.mono (by omega)), (hF6.out.belowA (hb68.mono (by omega))).belowA (hb.mono (by omega))⟩)
              have z0 : w8.cell? ⟨w7.heap.size, 0, none⟩ = some (.slice none 0 0) := oldc hb8 (by simp) (by simp [go_sem])
              have z1 : w8.cell? ⟨w7.heap.size, 1, none⟩ = some (.slice none 0 0) := oldc hb8 (by simp) (by simp [go_sem])
              have zf : ∀ o, w8.frozen? ⟨w7.heap.size, o, none⟩ = false := (fun o => (hb8.frozen (p := ⟨w7.heap.size, o, none⟩) (by simp)).trans (by simp [go_sem]))
              have zl : w7.heap.size < w8.heap.size := (by have := hb8.size; simp at this; omega)
              have nq1 : ¬ Y = w6.heap.size := by omega
              have nq2 : ¬ w6.heap.size = Y := by omega
              have nq3 : ¬ Y = w7.heap.size := by omega
              have nq4 : ¬ w7.heap.size = Y := by omega
              have nq5 : ¬ w.heap.size = w6.heap.size := by omega
              have nq6 : ¬ w6.heap.size = w.heap.size := by omega
              have nq7 : ¬ w.heap.size = w7.heap.size := by omega
              have nq8 : ¬ w7.heap.size = w.heap.size := by omega
              refine hK.out _ _ ?_ (fun hHeld => ?_)
              · exact kpT
              clear hK K
              try simp only [Act.put, List.setIfInBounds_toArray, List.set_cons_zero, List.set_cons_succ]
              refine tkR 3 (v := ?_) ?_ ?_
              rotate_left
              · intro w hSw; (try dsimp only at hSw); go_simp <;> with_reducible rfl
              try simp only [Act.put, List.setIfInBounds_toArray, List.set_cons_zero, List.set_cons_succ]
              refine tkR 4 (v := ?_) ?_ ?_
              rotate_left
              · intro w hSw; (try dsimp only at hSw); go_simp <;> with_reducible rfl
              try simp only [Act.put, List.setIfInBounds_toArray, List.set_cons_zero, List.set_cons_succ]
              refine tkR 5 (v := ?_) ?_ ?_
              rotate_left
              · intro w hSw; (try dsimp only at hSw); go_simp <;> with_reducible rfl
              try simp only [Act.put, List.setIfInBounds_toArray, List.set_cons_zero, List.set_cons_succ]
              refine wpAnyH_ready (rs := [7]) (by kernel_rfl) (by simp) ?_
              refine rdR (fun K hK => ?_) ?_
              · go_simp
                refine hK.out _ _ ?_ (fun hHeld => ?_)
                · exact kpT
                clear hK K
                try simp only [Act.put, List.setIfInBounds_toArray, List.set_cons_zero, List.set_cons_succ]
                refine tkR 8 (v := ?_) ?_ ?_
                rotate_left
                · intro w hSw; (try dsimp only at hSw); go_simp <;> with_reducible rfl
                try simp only [Act.put, List.setIfInBounds_toArray, List.set_cons_zero, List.set_cons_succ]
                refine wpAnyH_done (by kernel_rfl) ?_ _
                go_wp2_with fail
                go_meet
                exact ⟨_, _, _, rfl, rfl, by simp [go_sem, *], by simp [go_sem, *], by first | (simp; omega) | simp, by omega, Lib.hid ((HOZ.out.keep zmT).mono (by first | omega | (simp; omega)) (by first | omega | (simp; omega) | simp)), Lib.hid (HEnd.out _ bwT), Lib.hid ((HY.out.keep zgT).mono (by omega) (by first | omega | (simp; omega) | simp)), by first | (with_reducible assumption) | simp [go_sem, *], by first | (with_reducible assumption) | simp [go_sem, *], by first | omega | (simp; omega), by first | (with_reducible assumption) | simp [go_sem, *], by first | (with_reducible assumption) | simp [go_sem, *], fun o => by first | (with_reducible exact rf o) | simp [go_sem, *]⟩
              exact AllReadyH.nil
            exact AllReadyH.nil
          exact AllReadyH.nil
        refine rdR (fun K hK => ?_) ?_
        · go_simp
          refine hK.out _ _ ?_ (fun hHeld => ?_)
          · exact kpT
          clear hK K
          try simp only [Act.put, List.setIfInBounds_toArray, List.set_cons_zero, List.set_cons_succ]
          refine wpAnyH_ready (rs := [1]) (by kernel_rfl) (by simp) ?_
          refine rdR (fun K hK => ?_) ?_
          · go_simp
            refine (sampS_any _ _).mono ?_
            rintro e w7 ⟨ma, mb, rfl, hom, hb7⟩
            obtain ⟨mm, hmm⟩ : ∃ m, m = sampC (⟨#[109, 111, 105, 101, 116, 105, 101, 115]⟩ : ByteArray).toList := ⟨_, rfl⟩
            have hme : mm = (([1, 0], [0, 1]) : Cls) := by rw [hmm, ByteArray.toList_eq]; decide +kernel
            rw [← hmm, hme] at hom
            obtain ⟨ao7, n7, cap7, bo7, m7, dap7, rfl, rfl⟩ := shapeCls hom.rd
            clear hmm hme
            have hb67 : Below w6.heap.size w6 w7 := Below.after bwT hb7 (by first | omega | (simp; omega) | simp)
            have s7 := hb67.size
            have hS7 := And.intro (oldc hb7 (by first | (simp; omega) | (simp; done) | omega) hHeld.1) (oldc hb7 (by first | (simp; omega) | (simp; done) | omega) hHeld.2)
            have HOM := Lib.hid hom
            have y0 := oldc hb67 hYl y0
            have y1 := oldc hb67 hYl y1
            have r0 := oldc hb67 s6 r0
            have r1 := oldc hb67 s6 r1
            have rf : ∀ o, w7.frozen? ⟨w.heap.size, o, none⟩ = false := (fun o => (hb67.frozen (p := ⟨w.heap.size, o, none⟩) s6).trans (rf o))
            have HY := Lib.hid (HY.out.below hb67)
            have hYl7 : Y < w7.heap.size := by omega
            have z0 : w7.cell? ⟨w6.heap.size, 0, none⟩ = some (.slice none 0 0) := oldc hb7 (by simp) (by simp [go_sem])
            have z1 : w7.cell? ⟨w6.heap.size, 1, none⟩ = some (.slice none 0 0) := oldc hb7 (by simp) (by simp [go_sem])
            have zf : ∀ o, w7.frozen? ⟨w6.heap.size, o, none⟩ = false := (fun o => (hb7.frozen (p := ⟨w6.heap.size, o, none⟩) (by simp)).trans (by simp [go_sem]))
            have zl : w6.heap.size < w7.heap.size := (by have := hb7.size; simp at this; omega)
            refine hK.out _ _ ?_ (fun hHeld => ?_)
            · exact kpT
            clear hK K
            try simp only [Act.put, List.setIfInBounds_toArray, List.set_cons_zero, List.set_cons_succ]
            refine wpAnyH_ready (rs := [2]) (by kernel_rfl) (by simp) ?_
            refine rdR (fun K hK => ?_) ?_
            · go_simp
              refine (prodS_any _ _ _ _ _ (g1, g2) ([1, 0], [0, 1]) (HY.out.rd.below ?b1) (HOM.out.rd.below ?b2) (show g1.length ≤ 1048576 by omega) (by simp)).mono ?_
              case b1 => exact bwT
              case b2 => exact bwT
              rintro e w8 ⟨za, zb, rfl, hoz, hb8⟩
              obtain ⟨ao8, n8, cap8, bo8, m8, dap8, rfl, rfl⟩ := shapeCls hoz.rd
              have hb78 : Below w7.heap.size w7 w8 := Below.after bwT hb8 (by first | omega | (simp; omega) | simp)
              have s8 := hb78.size
              have hS8 := And.intro (oldc hb8 (by first | (simp; omega) | (simp; done) | omega) hHeld.1) (oldc hb8 (by first | (simp; omega) | (simp; done) | omega) hHeld.2)
              have y0 := oldc hb78 hYl7 y0
              have y1 := oldc hb78 hYl7 y1
              have r0 := oldc hb78 (by omega) r0
              have r1 := oldc hb78 (by omega) r1
              have rf : ∀ o, w8.frozen? ⟨w.heap.size, o, none⟩ = false := (fun o => (hb78.frozen (p := ⟨w.heap.size, o, none⟩) (by show w.heap.size < _; omega)).trans (rf o))
              have HY := Lib.hid (HY.out.below hb78)
              have HOZ := Lib.hid hoz
              (try simp only [World.size_alloc, World.size_drew] at HOZ)
              have hYl8 : Y < w8.heap.size := by omega
              have lR : w.heap.size < w8.heap.size := by omega
              have hb68 : Below w6.heap.size w6 w8 := hb67.trans (hb78.mono s7)
              have HEnd := Lib.hid (show ∀ W : World, Below (w.heap.size + 1) w8 W → CurOk p W ∧ OffF [p] w W from fun W hb => ⟨(hC6.out.grow hb68).below (hb.mono (by omega)), (hF6.out.belowA (hb68.mono (by omega))).belowA (hb.mono (by omega))⟩)
              have z0 := oldc hb78 (by omega) z0
              have z1 := oldc hb78 (by omega) z1
              have zf : ∀ o, w8.frozen? ⟨w6.heap.size, o, none⟩ = false := (fun o => (hb78.frozen (p := ⟨w6.heap.size, o, none⟩) (by show w6.heap.size < _; omega)).trans (zf o))
              have nq1 : ¬ Y = w6.heap.size := by omega
              have nq2 : ¬ w6.heap.size = Y := by omega
              have nq3 : ¬ Y = w7.heap.size := by omega
              have nq4 : ¬ w7.heap.size = Y := by omega
              have nq5 : ¬ w.heap.size = w6.heap.size := by omega
              have nq6 : ¬ w6.heap.size = w.heap.size := by omega
              have nq7 : ¬ w.heap.size = w7.heap.size := by omega
              have nq8 : ¬ w7.heap.size = w.heap.size := by omega
              refine hK.out _ _ ?_ (fun hHeld => ?_)
              · exact kpT
              clear hK K
              try simp only [Act.put, List.setIfInBounds_toArray, List.set_cons_zero, List.set_cons_succ]
              refine tkR 3 (v := ?_) ?_ ?_
              rotate_left
              · intro w hSw; (try dsimp only at hSw); go_simp <;> with_reducible rfl
              try simp only [Act.put, List.setIfInBounds_toArray, List.set_cons_zero, List.set_cons_succ]
              refine tkR 4 (v := ?_) ?_ ?_
              rotate_left
              · intro w hSw; (try dsimp only at hSw); go_simp <;> with_reducible rfl
              try simp only [Act.put, List.setIfInBounds_toArray, List.set_cons_zero, List.set_cons_succ]
              refine tkR 5 (v := ?_) ?_ ?_
              rotate_left
              · intro w hSw; (try dsimp only at hSw); go_simp <;> with_reducible rfl
              try simp only [Act.put, List.setIfInBounds_toArray, List.set_cons_zero, List.set_cons_succ]
              refine wpAnyH_ready (rs := [7]) (by kernel_rfl) (by simp) ?_
              refine rdR (fun K hK => ?_) ?_
              · go_simp
                refine hK.out _ _ ?_ (fun hHeld => ?_)
                · exact kpT
                clear hK K
                try simp only [Act.put, List.setIfInBounds_toArray, List.set_cons_zero, List.set_cons_succ]
                refine tkR 8 (v := ?_) ?_ ?_
                rotate_left
                · intro w hSw; (try dsimp only at hSw); go_simp <;> with_reducible rfl
                try simp only [Act.put, List.setIfInBounds_toArray, List.set_cons_zero, List.set_cons_succ]
                refine wpAnyH_done (by kernel_rfl) ?_ _
                go_wp2_with fail
                go_meet
                exact ⟨_, _, _, rfl, rfl, by simp [go_sem, *], by simp [go_sem, *], by first | (simp; omega) | simp, by omega, Lib.hid ((HOZ.out.keep zmT).mono (by first | omega | (simp; omega)) (by first | omega | (simp; omega) | simp)), Lib.hid (HEnd.out _ bwT), Lib.hid ((HY.out.keep zgT).mono (by omega) (by first | omega | (simp; omega) | simp)), by first | (with_reducible assumption) | simp [go_sem, *], by first | (with_reducible assumption) | simp [go_sem, *], by first | omega | (simp; omega), by first | (with_reducible assumption) | simp [go_sem, *], by first | (with_reducible assumption) | simp [go_sem, *], fun o => by first | (with_reducible exact rf o) | simp [go_sem, *]⟩
              exact AllReadyH.nil
            exact AllReadyH.nil
          exact AllReadyH.nil
        exact AllReadyH.nil
      case rest =>
        obtain ⟨w9, hw9⟩ : ∃ W : World, W = wc := ⟨_, rfl⟩
        subst hw9
        obtain ⟨Z, za, zb, rfl, rfl, z0, z1, hZl, hwZ, HZ, HCF, HY, y0, y1, hYl, r0, r1, rf⟩ := hcut
        have hC9 := Lib.hid HCF.out.1
        have hF9 := Lib.hid HCF.out.2
        have s9 : w.heap.size < w9.heap.size := by omega
        obtain ⟨V, hV⟩ : ∃ V, V = prodV (g1, g2) ([1, 0], [0, 1]) := ⟨_, rfl⟩
        rw [← hV]
        clear HCF hC6 hF6 s6 ne7 ne8
        cases V
        · clear hV
          by_cases hym : g1.length ≤ most
          · have hyI : (g1.length : Int) ≤ (most : Int) := by omega
            have HEnd := Lib.hid (show ∀ W' : World, Below w.heap.size w9 W' → CurOk p W' ∧ OffF [p] w W' from fun W' hb => ⟨(hC9.out).below (hb.mono (by omega)), (hF9.out).belowA hb⟩)
            go_wp2
            refine bodyPost_ret (v := .agg #[.slice ao6 g1.length cap6, .slice bo6 my6 dap6]) (by simp [results, go_sem, r0, r1]) rfl ⟨_, _, (g1, g2), rfl, ?_, Lib.hid ⟨HYC.out.1, hym⟩, HEnd.out _ bwT⟩
            exact (HY.out.keep (Zone.setCell (Zone.setCell (Zone.refl _ _ w9) (p := ⟨w.heap.size, 0, none⟩) (Or.inl (by show w.heap.size < _; omega)) (.slice ao6 g1.length cap6)) (p := ⟨w.heap.size, 1, none⟩) (Or.inl (by show w.heap.size < _; omega)) (.slice bo6 my6 dap6))).mono (by omega) (by simp)
          · have nyI : ¬ (g1.length : Int) ≤ (most : Int) := by omega
            go_wp2_with fail
            refine (l01Below_any _ p hC9.out most (by omega) (by omega)).mono ?_
            rintro e wa ⟨rn, rfl, ⟨hr0, hr1⟩, hCa, hOa⟩
            have hFa := hF9.out.trans hOa
            have sa : w.heap.size < wa.heap.size := Nat.lt_of_lt_of_le (by assumption) hOa.size
            have r0 := offq hOa (by omega) (by assumption) r0
            have r1 := offq hOa (by omega) (by assumption) r1
            have rf := offfr hOa (by omega) (by assumption) rf
            obtain ⟨m, hm⟩ : ∃ m : Nat, (1 : Int) + rn = (m : Int) := ⟨(1 + rn).toNat, by omega⟩
            have hm1 : 1 ≤ m := by omega
            have hm8 : m ≤ most := by omega
            go_wp2_with fail
            refine (l6Shuffle_any _ p hCa m (by omega)).mono ?_
            rintro e wb ⟨u1, xs, rfl, hw1, hX1, hCb, hOb⟩
            have hFb := hFa.trans hOb
            have sb := hOb.size
            have r0 := offq hOb (by omega) (by omega) r0
            have r1 := offq hOb (by omega) (by omega) r1
            have rf := offfr hOb (by omega) (by omega) rf
            clear hCa hOa hOb
            go_wp2_with fail
            refine (l6Shuffle_any _ p hCb m (by omega)).mono ?_
            rintro e wc ⟨u2, ys, rfl, hw2, hX2, hCc, hOc⟩
            have hFc := hFb.trans hOc
            have sc := hOc.size
            have r0 := offq hOc (by omega) (by omega) r0
            have r1 := offq hOc (by omega) (by omega) r1
            have rf := offfr hOc (by omega) (by omega) rf
            have hw1 := hw1.keep (offzn hOc (.inl (by omega)) (Nat.le_refl _))
            obtain ⟨a1, k1, c1, rfl, -, -⟩ := hw1.rd.shape
            obtain ⟨a2, k2, c2, rfl, -, -⟩ := hw2.rd.shape
            have HW1 := Lib.hid hw1
            have HW2 := Lib.hid hw2
            have HEnd := Lib.hid (show ∀ W : World, Below w.heap.size wc W → CurOk p W ∧ OffF [p] w W from fun W hb => ⟨hCc.below (hb.mono (by omega)), hFc.belowA hb⟩)
            have hck : COk m (xs, ys) := ⟨hX1.out, hX2.out⟩
            have HCL := Lib.hid (show isCls (xs, ys) = true ∧ (xs, ys).1.length ≤ most from ⟨isCls_mk hck hm1 (by omega), by rw [hck.w.len]; exact hm8⟩)
            clear hw1 hw2 hCb hCc hFc hFb hFa hOc hX1 hX2 hck
            go_wp2
            refine bodyPost_ret (v := .agg #[.slice a1 k1 c1, .slice a2 k2 c2]) (by simp [results, go_sem, r0, r1]) rfl ⟨_, _, (xs, ys), rfl, ?_, HCL, HEnd.out _ bwT⟩
            have zz : ∀ (lo hi : Nat), w.heap.size < lo → Zone lo hi wc _ := fun lo hi h => Zone.setCell (Zone.setCell (Zone.refl lo hi wc) (p := ⟨w.heap.size, 0, none⟩) (Or.inl (by show w.heap.size < lo; omega)) (.slice a1 k1 c1)) (p := ⟨w.heap.size, 1, none⟩) (Or.inl (by show w.heap.size < lo; omega)) (.slice a2 k2 c2)
            exact Ow.pair (HW1.out.keep (zz _ _ (by omega))) (HW2.out.keep (zz _ _ (by omega))) (.inl (Nat.le_refl _)) (by omega) (by omega) (by simp; omega) (by simp)
        · have HZC := Lib.hid (prodC_cls hV.symm)
          obtain ⟨zz1, hzz1⟩ : ∃ z, z = prodC (g1, g2) ([1, 0], [0, 1]) := ⟨_, rfl⟩
          rw [← hzz1] at HZ HZC
          clear hzz1 hV
          obtain ⟨z1l, z2l⟩ := zz1
          obtain ⟨ao9, nz9, cap9, bo9, mz9, dap9, rfl, rfl⟩ := shapeCls HZ.out.rd
          obtain ⟨_, _, _, e9, hn9, -⟩ := (HZ.out.rd.two rfl).1.shape
          simp only [Value.slice.injEq] at e9
          obtain ⟨-, rfl, -⟩ := e9
          dsimp only at hn9
          subst hn9
          by_cases hzm : z1l.length ≤ most
          · have hzI : (z1l.length : Int) ≤ (most : Int) := by omega
            go_wp2_with fail
            refine (l01Once_any _ p hC9.out 3 (by omega) (by omega)).mono ?_
            rintro e w10 ⟨r3, rfl, hC10, hO10⟩
            have hF10 := hF9.out.trans hO10
            have s10 := hO10.size
            have r0 := offq hO10 (by omega) (by omega) r0
            have r1 := offq hO10 (by omega) (by omega) r1
            have rf := offfr hO10 (by omega) (by omega) rf
            have y0 := offq hO10 (by omega) (by omega) y0
            have y1 := offq hO10 (by omega) (by omega) y1
            have z0 := offq hO10 (by omega) (by omega) z0
            have z1 := offq hO10 (by omega) (by omega) z1
            have HY := Lib.hid ((HY.out.keep (offzn hO10 (.inl (by omega)) (Nat.le_refl _))).top)
            have HZ := Lib.hid ((HZ.out.keep (offzn hO10 (.inl (by omega)) (Nat.le_refl _))).top)
            have s10' : w.heap.size < w10.heap.size := by omega
            clear hC9 hF9 hO10
            cases r3
            · skip
              by_cases hym : g1.length ≤ most
              · have hyI : (g1.length : Int) ≤ (most : Int) := by omega
                have HEnd := Lib.hid (show ∀ W' : World, Below w.heap.size w10 W' → CurOk p W' ∧ OffF [p] w W' from fun W' hb => ⟨(hC10).below (hb.mono (by omega)), (hF10).belowA hb⟩)
                go_wp2
                refine bodyPost_ret (v := .agg #[.slice ao6 g1.length cap6, .slice bo6 my6 dap6]) (by simp [results, go_sem, r0, r1]) rfl ⟨_, _, (g1, g2), rfl, ?_, Lib.hid ⟨HYC.out.1, hym⟩, HEnd.out _ bwT⟩
                exact (HY.out.keep (Zone.setCell (Zone.setCell (Zone.refl _ _ w10) (p := ⟨w.heap.size, 0, none⟩) (Or.inl (by show w.heap.size < _; omega)) (.slice ao6 g1.length cap6)) (p := ⟨w.heap.size, 1, none⟩) (Or.inl (by show w.heap.size < _; omega)) (.slice bo6 my6 dap6))).mono (by omega) (by simp)
              · have nyI : ¬ (g1.length : Int) ≤ (most : Int) := by omega
                go_wp2_with fail
                refine (l01Below_any _ p hC10 most (by omega) (by omega)).mono ?_
                rintro e wa ⟨rn, rfl, ⟨hr0, hr1⟩, hCa, hOa⟩
                have hFa := hF10.trans hOa
                have sa : w.heap.size < wa.heap.size := Nat.lt_of_lt_of_le (by assumption) hOa.size
                have r0 := offq hOa (by omega) (by assumption) r0
                have r1 := offq hOa (by omega) (by assumption) r1
                have rf := offfr hOa (by omega) (by assumption) rf
                obtain ⟨m, hm⟩ : ∃ m : Nat, (1 : Int) + rn = (m : Int) := ⟨(1 + rn).toNat, by omega⟩
                have hm1 : 1 ≤ m := by omega
                have hm8 : m ≤ most := by omega
                go_wp2_with fail
                refine (l6Shuffle_any _ p hCa m (by omega)).mono ?_
                rintro e wb ⟨u1, xs, rfl, hw1, hX1, hCb, hOb⟩
                have hFb := hFa.trans hOb
                have sb := hOb.size
                have r0 := offq hOb (by omega) (by omega) r0
                have r1 := offq hOb (by omega) (by omega) r1
                have rf := offfr hOb (by omega) (by omega) rf
                clear hCa hOa hOb
                go_wp2_with fail
                refine (l6Shuffle_any _ p hCb m (by omega)).mono ?_
                rintro e wc ⟨u2, ys, rfl, hw2, hX2, hCc, hOc⟩
                have hFc := hFb.trans hOc
                have sc := hOc.size
                have r0 := offq hOc (by omega) (by omega) r0
                have r1 := offq hOc (by omega) (by omega) r1
                have rf := offfr hOc (by omega) (by omega) rf
                have hw1 := hw1.keep (offzn hOc (.inl (by omega)) (Nat.le_refl _))
                obtain ⟨a1, k1, c1, rfl, -, -⟩ := hw1.rd.shape
                obtain ⟨a2, k2, c2, rfl, -, -⟩ := hw2.rd.shape
                have HW1 := Lib.hid hw1
                have HW2 := Lib.hid hw2
                have HEnd := Lib.hid (show ∀ W : World, Below w.heap.size wc W → CurOk p W ∧ OffF [p] w W from fun W hb => ⟨hCc.below (hb.mono (by omega)), hFc.belowA hb⟩)
                have hck : COk m (xs, ys) := ⟨hX1.out, hX2.out⟩
                have HCL := Lib.hid (show isCls (xs, ys) = true ∧ (xs, ys).1.length ≤ most from ⟨isCls_mk hck hm1 (by omega), by rw [hck.w.len]; exact hm8⟩)
                clear hw1 hw2 hCb hCc hFc hFb hFa hOc hX1 hX2 hck
                go_wp2
                refine bodyPost_ret (v := .agg #[.slice a1 k1 c1, .slice a2 k2 c2]) (by simp [results, go_sem, r0, r1]) rfl ⟨_, _, (xs, ys), rfl, ?_, HCL, HEnd.out _ bwT⟩
                have zz : ∀ (lo hi : Nat), w.heap.size < lo → Zone lo hi wc _ := fun lo hi h => Zone.setCell (Zone.setCell (Zone.refl lo hi wc) (p := ⟨w.heap.size, 0, none⟩) (Or.inl (by show w.heap.size < lo; omega)) (.slice a1 k1 c1)) (p := ⟨w.heap.size, 1, none⟩) (Or.inl (by show w.heap.size < lo; omega)) (.slice a2 k2 c2)
                exact Ow.pair (HW1.out.keep (zz _ _ (by omega))) (HW2.out.keep (zz _ _ (by omega))) (.inl (Nat.le_refl _)) (by omega) (by omega) (by simp; omega) (by simp)
            · have HEnd := Lib.hid (show ∀ W' : World, Below w.heap.size w10 W' → CurOk p W' ∧ OffF [p] w W' from fun W' hb => ⟨hC10.below (hb.mono (by omega)), hF10.belowA hb⟩)
              go_wp2
              refine bodyPost_ret (v := .agg #[.slice ao9 z1l.length cap9, .slice bo9 mz9 dap9]) (by simp [results, go_sem, r0, r1]) rfl ⟨_, _, (z1l, z2l), rfl, ?_, Lib.hid ⟨HZC.out, hzm⟩, HEnd.out _ bwT⟩
              exact (HZ.out.keep (Zone.setCell (Zone.setCell (Zone.refl _ _ w10) (p := ⟨w.heap.size, 0, none⟩) (Or.inl (by show w.heap.size < _; omega)) (.slice ao9 z1l.length cap9)) (p := ⟨w.heap.size, 1, none⟩) (Or.inl (by show w.heap.size < _; omega)) (.slice bo9 mz9 dap9))).mono (by omega) (by simp)
          · have nzI : ¬ (z1l.length : Int) ≤ (most : Int) := by omega
            by_cases hym : g1.length ≤ most
            · have hyI : (g1.length : Int) ≤ (most : Int) := by omega
              have HEnd := Lib.hid (show ∀ W' : World, Below w.heap.size w9 W' → CurOk p W' ∧ OffF [p] w W' from fun W' hb => ⟨(hC9.out).below (hb.mono (by omega)), (hF9.out).belowA hb⟩)
              go_wp2
              refine bodyPost_ret (v := .agg #[.slice ao6 g1.length cap6, .slice bo6 my6 dap6]) (by simp [results, go_sem, r0, r1]) rfl ⟨_, _, (g1, g2), rfl, ?_, Lib.hid ⟨HYC.out.1, hym⟩, HEnd.out _ bwT⟩
              exact (HY.out.keep (Zone.setCell (Zone.setCell (Zone.refl _ _ w9) (p := ⟨w.heap.size, 0, none⟩) (Or.inl (by show w.heap.size < _; omega)) (.slice ao6 g1.length cap6)) (p := ⟨w.heap.size, 1, none⟩) (Or.inl (by show w.heap.size < _; omega)) (.slice bo6 my6 dap6))).mono (by omega) (by simp)
            · have nyI : ¬ (g1.length : Int) ≤ (most : Int) := by omega
              go_wp2_with fail
              refine (l01Below_any _ p hC9.out most (by omega) (by omega)).mono ?_
              rintro e wa ⟨rn, rfl, ⟨hr0, hr1⟩, hCa, hOa⟩
              have hFa := hF9.out.trans hOa
              have sa : w.heap.size < wa.heap.size := Nat.lt_of_lt_of_le (by assumption) hOa.size
              have r0 := offq hOa (by omega) (by assumption) r0
              have r1 := offq hOa (by omega) (by assumption) r1
              have rf := offfr hOa (by omega) (by assumption) rf
              obtain ⟨m, hm⟩ : ∃ m : Nat, (1 : Int) + rn = (m : Int) := ⟨(1 + rn).toNat, by omega⟩
              have hm1 : 1 ≤ m := by omega
              have hm8 : m ≤ most := by omega
              go_wp2_with fail
              refine (l6Shuffle_any _ p hCa m (by omega)).mono ?_
              rintro e wb ⟨u1, xs, rfl, hw1, hX1, hCb, hOb⟩
              have hFb := hFa.trans hOb
              have sb := hOb.size
              have r0 := offq hOb (by omega) (by omega) r0
              have r1 := offq hOb (by omega) (by omega) r1
              have rf := offfr hOb (by omega) (by omega) rf
              clear hCa hOa hOb
              go_wp2_with fail
              refine (l6Shuffle_any _ p hCb m (by omega)).mono ?_
              rintro e wc ⟨u2, ys, rfl, hw2, hX2, hCc, hOc⟩
              have hFc := hFb.trans hOc
              have sc := hOc.size
              have r0 := offq hOc (by omega) (by omega) r0
              have r1 := offq hOc (by omega) (by omega) r1
              have rf := offfr hOc (by omega) (by omega) rf
              have hw1 := hw1.keep (offzn hOc (.inl (by omega)) (Nat.le_refl _))
              obtain ⟨a1, k1, c1, rfl, -, -⟩ := hw1.rd.shape
              obtain ⟨a2, k2, c2, rfl, -, -⟩ := hw2.rd.shape
              have HW1 := Lib.hid hw1
              have HW2 := Lib.hid hw2
              have HEnd := Lib.hid (show ∀ W : World, Below w.heap.size wc W → CurOk p W ∧ OffF [p] w W from fun W hb => ⟨hCc.below (hb.mono (by omega)), hFc.belowA hb⟩)
              have hck : COk m (xs, ys) := ⟨hX1.out, hX2.out⟩
              have HCL := Lib.hid (show isCls (xs, ys) = true ∧ (xs, ys).1.length ≤ most from ⟨isCls_mk hck hm1 (by omega), by rw [hck.w.len]; exact hm8⟩)
              clear hw1 hw2 hCb hCc hFc hFb hFa hOc hX1 hX2 hck
              go_wp2
              refine bodyPost_ret (v := .agg #[.slice a1 k1 c1, .slice a2 k2 c2]) (by simp [results, go_sem, r0, r1]) rfl ⟨_, _, (xs, ys), rfl, ?_, HCL, HEnd.out _ bwT⟩
              have zz : ∀ (lo hi : Nat), w.heap.size < lo → Zone lo hi wc _ := fun lo hi h => Zone.setCell (Zone.setCell (Zone.refl lo hi wc) (p := ⟨w.heap.size, 0, none⟩) (Or.inl (by show w.heap.size < lo; omega)) (.slice a1 k1 c1)) (p := ⟨w.heap.size, 1, none⟩) (Or.inl (by show w.heap.size < lo; omega)) (.slice a2 k2 c2)
              exact Ow.pair (HW1.out.keep (zz _ _ (by omega))) (HW2.out.keep (zz _ _ (by omega))) (.inl (Nat.le_refl _)) (by omega) (by omega) (by simp; omega) (by simp)
set_option maxRecDepth 20000 in
set_option maxHeartbeats 2000000 in
theorem makeClasses_any {z : Bool} {lo hi : Nat} (w : World) (v : Value) (code : List UInt8) (h : Rd z lo hi w [v] code) (hl : code.length ≤ 1048576) (most : Nat) (h1 : 1 ≤ most) (h8 : most ≤ 8) :
    Calls Try.prog 19 #[v, .int .i64 most] w (PostMC most w) := by
  have hcase : most = 1 ∨ 1 < most := by omega
  rcases hcase with rfl | h2
  · skip
    go_enter Try.func19, Try.ntmps19
    go_wp2_with fail
    refine (l01New_any _ _ code (h.below bwT) hl).mono ?_
    rintro e w1 ⟨p, rfl, hp, hC, hb1⟩
    have s1 : w.heap.size < w1.heap.size := by have := hb1.size; simp at this; omega
    have hp1 : w.heap.size < p := by simp at hp; omega
    have hB1 : Below w.heap.size w w1 := Below.after bwT hb1 (by simp)
    have r0 : w1.cell? ⟨w.heap.size, 0, none⟩ = some (.slice none 0 0) := oldc hb1 (by simp) (by simp [go_sem])
    have r1 : w1.cell? ⟨w.heap.size, 1, none⟩ = some (.slice none 0 0) := oldc hb1 (by simp) (by simp [go_sem])
    have rf : ∀ o, w1.frozen? ⟨w.heap.size, o, none⟩ = false := fun o => (hb1.frozen (p := ⟨w.heap.size, o, none⟩) (by simp)).trans (by simp [go_sem])
    clear h hb1
    go_wp2_with fail
    all_goals
      refine (l6Draw_any _ p hC 1 h1 h8).mono ?_
      rintro e w2 ⟨u1, u2, c, rfl, hO, hX, -, hF⟩
      have hB2 : Below w.heap.size w w2 := hB1.trans (hF.toBelow (by omega) (fun b hb => by simp at hb; omega))
      have s2 := hF.size
      have r0 := offq hF (by omega) (by omega) r0
      have r1 := offq hF (by omega) (by omega) r1
      have rf := offfr hF (by omega) (by omega) rf
      obtain ⟨a1, n1, c1, a2, n2, c2, rfl, rfl⟩ := shapeCls hO.rd
      have HO := Lib.hid hO
      clear hO hF hC
      go_wp2
      refine bodyPost_ret (v := .agg #[.slice a1 n1 c1, .slice a2 n2 c2]) (by simp [results, go_sem, r0, r1]) rfl ⟨_, _, c, rfl, ?_, hX, bwT⟩
      exact (HO.out.keep (Zone.setCell (Zone.setCell (Zone.refl _ _ w2) (p := ⟨w.heap.size, 0, none⟩) (Or.inl (by show w.heap.size < _; omega)) (.slice a1 n1 c1)) (p := ⟨w.heap.size, 1, none⟩) (Or.inl (by show w.heap.size < _; omega)) (.slice a2 n2 c2))).mono (by omega) (by simp)
  have q1 : min (most : Int) 8 = most := by omega
  have q2 : max 1 (most : Int) = most := by omega
  have q3 : (1 : Int) < most := by omega
  go_enter Try.func19, Try.ntmps19
  go_wp2_with fail
  refine (l01New_any _ _ code (h.below bwT) hl).mono ?_
  rintro e w1 ⟨p, rfl, hp, hC, hb1⟩
  have s1 : w.heap.size < w1.heap.size := by have := hb1.size; simp at this; omega
  have hp1 : w.heap.size < p := by simp at hp; omega
  have hB1 : Below w.heap.size w w1 := Below.after bwT hb1 (by simp)
  have r0 : w1.cell? ⟨w.heap.size, 0, none⟩ = some (.slice none 0 0) := oldc hb1 (by simp) (by simp [go_sem])
  have r1 : w1.cell? ⟨w.heap.size, 1, none⟩ = some (.slice none 0 0) := oldc hb1 (by simp) (by simp [go_sem])
  have rf : ∀ o, w1.frozen? ⟨w.heap.size, o, none⟩ = false := fun o => (hb1.frozen (p := ⟨w.heap.size, o, none⟩) (by simp)).trans (by simp [go_sem])
  clear h hb1
  go_wp2_with fail
  all_goals
    refine (l6Draw_any _ p hC most h1 h8).mono ?_
    rintro e w2 ⟨u1, u2, c, rfl, hO, hX, -, hF⟩
    have hB2 : Below w.heap.size w w2 := hB1.trans (hF.toBelow (by omega) (fun b hb => by simp at hb; omega))
    have s2 := hF.size
    have r0 := offq hF (by omega) (by omega) r0
    have r1 := offq hF (by omega) (by omega) r1
    have rf := offfr hF (by omega) (by omega) rf
    obtain ⟨a1, n1, c1, a2, n2, c2, rfl, rfl⟩ := shapeCls hO.rd
    have HO := Lib.hid hO
    clear hO hF hC
    go_wp2
    refine bodyPost_ret (v := .agg #[.slice a1 n1 c1, .slice a2 n2 c2]) (by simp [results, go_sem, r0, r1]) rfl ⟨_, _, c, rfl, ?_, hX, bwT⟩
    exact (HO.out.keep (Zone.setCell (Zone.setCell (Zone.refl _ _ w2) (p := ⟨w.heap.size, 0, none⟩) (Or.inl (by show w.heap.size < _; omega)) (.slice a1 n1 c1)) (p := ⟨w.heap.size, 1, none⟩) (Or.inl (by show w.heap.size < _; omega)) (.slice a2 n2 c2))).mono (by omega) (by simp)
end Go.Proofs.Ytefbbbhidnnchaa
