/- Contracts of the laws' helpers on systems of classes: copy, compare, mark, held, size. -/
import Derived.Test.YtlnihbhjkfhbmaaInts
namespace Go.Proofs.Ytlnihbhjkfhbmaa
set_option linter.unusedVariables false
set_option linter.unusedSimpArgs false
open Go.RowKit

/-- A system of classes: wives, children. -/
abbrev Cls := List Int × List Int

theorem Rd.two {α β : Type} [Rep (List α)] [Rep β] {z : Bool} {lo hi : Nat} {w : World} {a b : Value} {x : List α × β} (h : Rd z lo hi w [a, b] x) (h1 : Rep.sz (List α) = 1) : Rd z lo hi w [a] x.1 ∧ Rd z lo hi w [b] x.2 :=
  ⟨Rd.fst (c1 := [a]) (c2 := [b]) h (by rw [h1]; rfl), Rd.snd (c1 := [a]) (c2 := [b]) h (by rw [h1]; rfl)⟩

theorem shapeCls {z : Bool} {lo hi : Nat} {w : World} {a b : Value} {c : Cls} (h : Rd z lo hi w [a, b] c) : ∃ ao n cap bo m dap, a = .slice ao n cap ∧ b = .slice bo m dap := by
  obtain ⟨h1, h2⟩ := h.two rfl
  obtain ⟨ao, n, cap, rfl, -⟩ := h1.shape
  obtain ⟨bo, m, dap, rfl, -⟩ := h2.shape
  exact ⟨ao, n, cap, bo, m, dap, rfl, rfl⟩

/-- A struct comes back: owned and new. -/
def PostOw2 {α : Type} [Rep α] (w : World) (x : α) (e : Ending) (w' : World) : Prop := ∃ a b, e = .returned (.agg #[a, b]) ∧ Ow w.heap.size w'.heap.size w' [a, b] x ∧ Below w.heap.size w w'

set_option maxHeartbeats 1000000 in
theorem toClasses_any {z : Bool} {lo hi : Nat} (w : World) (a b : Value) (c : Cls) (h : Rd z lo hi w [a, b] c) (h1 : c.1.length ≤ 1048576) (h2 : c.2.length ≤ 1048576) :
    Calls Try.prog 7 #[.agg #[a, b]] w (PostOw2 w c) := by
  obtain ⟨ha, hb⟩ := h.two rfl
  go_enter Try.func7, Try.ntmps7
  go_wp2_with fail
  refine (toIntS_any _ _ _ (ha.below (by go_grown)) h1).mono ?_
  rintro e w1 ⟨u, rfl, how1, hb1⟩
  have hB1 : Below w.heap.size w w1 := Below.after (by go_grown) hb1 (by simp; omega)
  have s1 := hb1.size
  obtain ⟨hc, hf⟩ := bcell hb1
  simp only [World.size_alloc] at how1 s1 hc hf
  obtain ⟨ao1, n1, cap1, rfl, -⟩ := how1.rd.shape
  obtain ⟨l0, l1, l2⟩ : w.heap.size < w1.heap.size ∧ w.heap.size + 1 < w1.heap.size ∧ w.heap.size + 1 + 1 < w1.heap.size := by omega
  go_wp2_with fail
  refine (toIntS_any _ _ _ (hb.below (by go_grown)) h2).mono ?_
  rintro e w2 ⟨v, rfl, how2, hb2⟩
  have hB2 : Below w.heap.size w w2 := Below.after (by go_grown) hb2 (by simp; omega)
  have s2 := hb2.size
  obtain ⟨hc2, hf2⟩ := bcell hb2
  simp only [World.size_alloc, World.size_setCell] at how2 s2 hc2 hf2
  obtain ⟨ao2, n2, cap2, rfl, -⟩ := how2.rd.shape
  obtain ⟨m0, m1, m2⟩ : w.heap.size < w2.heap.size ∧ w.heap.size + 1 < w2.heap.size ∧ w.heap.size + 1 + 1 < w2.heap.size := by omega
  have HO := Lib.hid (Ow.pair (how1.keep (((Zone.refl _ _ _).setCell (.inl (by simp)) _).below hb2 (by simp))) how2 (.inl (Nat.le_refl _)) (l := w.heap.size + 1 + 1 + 1) (h := w2.heap.size) (by omega) (by omega) (by omega) (by omega))
  clear how1 how2 ha hb h
  clear hb1 hb2
  go_wp2
  exact bodyPost_ret (v := .agg #[.slice ao1 n1 cap1, .slice ao2 n2 cap2]) (by simp [results, Try.results7, go_sem, hc, hc2, l0, l1, l2, m0, m1, m2]) rfl ⟨_, _, rfl, (HO.out.keep znT).top.mono (by omega) (by simp), bwT⟩

theorem eqIntS_b {z z' : Bool} {lo hi lo' hi' : Nat} (w : World) (u v : Value) (xs ys : List Int) (h : Rd z lo hi w [u] xs) (h' : Rd z' lo' hi' w [v] ys) (b : Bool) (hb : b = decide (xs = ys)) :
    Calls Try.prog 22 #[u, v] w (PostB w b) := hb ▸ eqIntS_any w u v xs ys h h'

set_option maxHeartbeats 1000000 in
theorem eqClasses_b {z z' : Bool} {lo hi lo' hi' : Nat} (w : World) (u1 u2 v1 v2 : Value) (x y : Cls) (h : Rd z lo hi w [u1, u2] x) (h' : Rd z' lo' hi' w [v1, v2] y) (b : Bool) (hb : b = decide (x = y)) :
    Calls Try.prog 9 #[.agg #[u1, u2], .agg #[v1, v2]] w (PostB w b) := by
  obtain ⟨x1, x2⟩ := x
  obtain ⟨y1, y2⟩ := y
  obtain ⟨hx1, hx2⟩ := h.two rfl
  obtain ⟨hy1, hy2⟩ := h'.two rfl
  obtain ⟨b1, e1⟩ : ∃ b, b = decide (x1 = y1) := ⟨_, rfl⟩
  obtain ⟨b2, e2⟩ : ∃ b, b = decide (x2 = y2) := ⟨_, rfl⟩
  have hb' : b = (b1 && b2) := by rw [hb, e1, e2]; simp [Prod.mk.injEq]
  clear hb
  have E1 := Lib.hid e1
  have E2 := Lib.hid e2
  clear e1 e2
  subst hb'
  cases b1
  · go_enter Try.func9, Try.ntmps9
    go_wp2_with (go_at_call 22; refine (eqIntS_b _ _ _ _ _ (hx1.below (by go_grown)) (hy1.below (by go_grown)) _ E1.out).mono ?_; rintro e w1 ⟨rfl, hb1⟩)
    go_ret
    exact ⟨rfl, Below.after bwT hb1 szT⟩
  · go_enter Try.func9, Try.ntmps9
    go_wp2_with fail
    refine (eqIntS_b _ _ _ _ _ (hx1.below (by go_grown)) (hy1.below (by go_grown)) _ E1.out).mono ?_
    rintro e w1 ⟨rfl, hb1⟩
    have hB1 : Below w.heap.size w w1 := Below.after bwT hb1 szT; have s1 := hb1.size; obtain ⟨hc1, hf1⟩ := bcell hb1; try simp only [World.size_alloc, World.size_setCell, World.size_drew] at s1 hc1 hf1
    obtain ⟨l0, l1⟩ : w.heap.size < w1.heap.size ∧ w.heap.size + 1 < w1.heap.size := by omega
    clear hb1
    go_wp2_with fail
    refine (eqIntS_b _ _ _ _ _ (hx2.below hB1) (hy2.below hB1) _ E2.out).mono ?_
    rintro e w2 ⟨rfl, hb2⟩
    have hB2 : Below w.heap.size w w2 := hB1.trans (hb2.mono (by omega))
    cases b2
    all_goals
      go_wp2
      go_ret
      exact ⟨rfl, hB2⟩


set_option maxHeartbeats 1000000 in
theorem szClasses_any {z : Bool} {lo hi : Nat} (w : World) (a b : Value) (c : Cls) (h : Rd z lo hi w [a, b] c) (left : Int) (h0 : 0 ≤ left) (hl : left ≤ 1048576) :
    Calls Try.prog 5 #[.agg #[a, b], .int .i64 left] w (PostI w (if left < c.1.length + c.2.length then -1 else left - c.1.length - c.2.length)) := by
  obtain ⟨x, y⟩ := c
  obtain ⟨h1, h2⟩ := h.two rfl
  by_cases g1 : left < x.length
  · have HE := Lib.hid (show (if left < (x, y).1.length + (x, y).2.length then -1 else left - (x, y).1.length - (x, y).2.length) = (-1 : Int) from if_pos (by simp; omega))
    rw [HE.out]
    go_enter Try.func5, Try.ntmps5
    go_wp2_with fail
    refine (szIntS_any _ _ _ (h1.below (by go_grown)) _ h0 hl).mono ?_
    rw [if_pos g1]
    rintro e w1 ⟨rfl, hb1⟩
    have hB1 : Below w.heap.size w w1 := Below.after bwT hb1 szT; have s1 := hb1.size; obtain ⟨hc1, hf1⟩ := bcell hb1; try simp only [World.size_alloc, World.size_setCell, World.size_drew] at s1 hc1 hf1
    go_wp2
    go_ret
    exact ⟨rfl, hB1⟩
  · by_cases g2 : left - x.length < y.length
    · have HE := Lib.hid (show (if left < (x, y).1.length + (x, y).2.length then -1 else left - (x, y).1.length - (x, y).2.length) = (-1 : Int) from if_pos (by simp; omega))
      rw [HE.out]
      go_enter Try.func5, Try.ntmps5
      go_wp2_with fail
      refine (szIntS_any _ _ _ (h1.below (by go_grown)) _ h0 hl).mono ?_
      rw [if_neg (by omega)]
      rintro e w1 ⟨rfl, hb1⟩
      have hB1 : Below w.heap.size w w1 := Below.after bwT hb1 szT; have s1 := hb1.size; obtain ⟨hc1, hf1⟩ := bcell hb1; try simp only [World.size_alloc, World.size_setCell, World.size_drew] at s1 hc1 hf1
      have l0 : w.heap.size < w1.heap.size := by omega
      clear hb1
      go_wp2_with fail
      refine (szIntS_any _ _ _ (h2.below hB1) _ (by omega) (by omega)).mono ?_
      rw [if_pos g2]
      rintro e w2 ⟨rfl, hb2⟩
      have hB2 : Below w.heap.size w w2 := hB1.trans (hb2.mono (by omega))
      go_wp2
      go_ret
      exact ⟨rfl, hB2⟩
    · have HE := Lib.hid (show (if left < (x, y).1.length + (x, y).2.length then -1 else left - (x, y).1.length - (x, y).2.length) = (left - x.length - y.length : Int) from if_neg (by simp; omega))
      rw [HE.out]
      go_enter Try.func5, Try.ntmps5
      go_wp2_with fail
      refine (szIntS_any _ _ _ (h1.below (by go_grown)) _ h0 hl).mono ?_
      rw [if_neg (by omega)]
      rintro e w1 ⟨rfl, hb1⟩
      have hB1 : Below w.heap.size w w1 := Below.after bwT hb1 szT; have s1 := hb1.size; obtain ⟨hc1, hf1⟩ := bcell hb1; try simp only [World.size_alloc, World.size_setCell, World.size_drew] at s1 hc1 hf1
      have l0 : w.heap.size < w1.heap.size := by omega
      clear hb1
      go_wp2_with fail
      refine (szIntS_any _ _ _ (h2.below hB1) _ (by omega) (by omega)).mono ?_
      rw [if_neg (by omega)]
      rintro e w2 ⟨rfl, hb2⟩
      have hB2 : Below w.heap.size w w2 := hB1.trans (hb2.mono (by omega))
      go_wp2
      go_ret
      exact ⟨rfl, hB2⟩

set_option maxHeartbeats 1000000 in
theorem markClasses_any (w : World) (a b : Value) (c : Cls) (fp : List Nat) (h : Rep.rep true w [a, b] c fp) (hn : fp.Nodup) (k : Int) (hk0 : 0 ≤ k) (hk1 : k + c.1.length + c.2.length ≤ 4611686018427387904) :
    Calls Try.prog 13 #[.agg #[a, b], .int .i64 k] w (PostMark fp w [a, b] ((marks k c.1.length, marks (k + c.1.length) c.2.length) : Cls) (k + c.1.length + c.2.length)) := by
  obtain ⟨x, y⟩ := c
  obtain ⟨c1, c2, f1, f2, e, rfl, h1, h2⟩ := h
  dsimp only at hk1 h1 h2 ⊢
  obtain ⟨rfl, rfl⟩ : c1 = [a] ∧ c2 = [b] := by
    have := Rep.len h1
    have := app_inj (a := [a]) (b := [b]) e (by rw [this]; rfl)
    exact ⟨this.1.symm, this.2.symm⟩
  clear e
  have hd := (List.nodup_append.1 hn).2.2
  have hlt : ∀ b ∈ f1 ++ f2, b < w.heap.size := fun b hb => by
    rcases List.mem_append.1 hb with hb | hb
    · exact Rep.lt h1 b hb
    · exact Rep.lt h2 b hb
  go_enter Try.func13, Try.ntmps13
  go_wp2_with fail
  refine (markIntS_any _ _ _ f1 (Rep.keep h1 (fun b hb => Below.heap_alloc _ _ _ (hlt b (by simp [hb])))) _ hk0 (by omega)).mono ?_
  rintro e w1 ⟨rfl, hr1, ho1⟩
  have ho1' : OffF f1 w w1 := ((OffF.refl _ _).alloc _).trans ho1
  have h2' : Rep.rep true w1 [b] y f2 := Rep.keep h2 fun i hi => ho1'.block i (hlt i (by simp [hi])) (fun hm => hd i hm i hi rfl)
  have hc0 : ∀ o, w1.cell? ⟨w.heap.size, o, none⟩ = (w.alloc (.cells #[a, b] 27)).cell? ⟨w.heap.size, o, none⟩ := fun o => World.cell?_of_block (a := ⟨w.heap.size, o, none⟩) (ho1.block w.heap.size (by simp) (fun hm => by have := hlt _ (List.mem_append.2 (.inl hm)); omega))
  have s1 := ho1'.size
  clear ho1
  go_wp2_with fail
  refine (markIntS_any _ _ _ f2 h2' _ (by omega) (by omega)).mono ?_
  rintro e w2 ⟨rfl, hr2, ho2⟩
  have hr1' : Rep.rep true w2 [a] (marks k x.length) f1 := Rep.keep hr1 fun i hi => ho2.block i (Nat.lt_of_lt_of_le (hlt i (by simp [hi])) s1) (fun hm => hd i hi i hm rfl)
  have HR := Lib.hid (show Rep.rep true w2 [a, b] ((marks k x.length, marks (k + x.length) y.length) : Cls) (f1 ++ f2) from ⟨[a], [b], f1, f2, rfl, rfl, hr1', hr2⟩)
  have HO := Lib.hid (show OffF (f1 ++ f2) w w2 from (ho1'.mono (fun i hi => by simp [hi])).trans (ho2.mono (fun i hi => by simp [hi])))
  clear hr1 hr1' hr2 ho1' ho2 h1 h2 h2' hd hlt hn
  go_wp2
  go_ret
  exact ⟨rfl, HR.out, HO.out⟩
end Go.Proofs.Ytlnihbhjkfhbmaa
