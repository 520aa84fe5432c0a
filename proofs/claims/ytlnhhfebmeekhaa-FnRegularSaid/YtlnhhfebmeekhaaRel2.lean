/- Contracts of RelabelClasses. -/
import Derived.Test.YtlnhhfebmeekhaaRel
namespace Go.Proofs.Ytlnhhfebmeekhaa
set_option linter.unusedVariables false
set_option linter.unusedSimpArgs false
open Go.RowKit

def relabV (c : Cls) (p : List Int) : Bool := isCls c && isPerm p && decide (p.length = c.1.length)
def relabC (c : Cls) (p : List Int) : Cls := if relabV c p = true then (relab p c.1, relab p c.2) else ([], [])

theorem relabC_len (c : Cls) (p : List Int) {n : Nat} (h : p.length ≤ n) : (relabC c p).1.length ≤ n ∧ (relabC c p).2.length ≤ n := by
  unfold relabC; split
  · simp only [relab_len]; exact ⟨h, h⟩
  · simp

/-- A struct comes back, owned and new, and a bool. -/
def PostOw2B {α : Type} [Rep α] (w : World) (x : α) (r : Bool) (e : Ending) (w' : World) : Prop := ∃ a b, e = .returned (.tuple #[.agg #[a, b], .bool r]) ∧ Ow w.heap.size w'.heap.size w' [a, b] x ∧ Below w.heap.size w w'

theorem Ow.nil2 (lo hi : Nat) (w : World) : Ow lo hi w [.slice none 0 0, .slice none 0 0] (([], []) : Cls) := by
  refine ⟨[], ⟨[.slice none 0 0], [.slice none 0 0], [], [], rfl, rfl, ?_, ?_⟩, fun b hb => (by cases hb), List.nodup_nil⟩ <;> exact ⟨_, rfl, none, 0, 0, rfl, rfl, Nat.le_refl _, by simp [maxLen], fun _ => rfl, .inl ⟨rfl, rfl⟩⟩

theorem isCls_parts {c : Cls} (h : isCls c = true) : 1 ≤ c.1.length ∧ c.1.length ≤ 8 ∧ c.2.length = c.1.length ∧ InRange c.1.length c.1 ∧ InRange c.1.length c.2 ∧ isPerm c.1 = true ∧ isPerm c.2 = true := by
  simp only [isCls, Bool.and_eq_true, decide_eq_true_eq] at h
  obtain ⟨⟨⟨h1, h2, h3⟩, h4⟩, h5⟩ := h
  exact ⟨h1, h2, h3, isPerm_range h4, by rw [← h3]; exact isPerm_range h5, h4, h5⟩

section
variable {z z' : Bool} {lo hi lo' hi' : Nat} (w : World) (u v vp : Value) (c : Cls) (p : List Int)
set_option maxHeartbeats 4000000 in
theorem relabI_any (h : Rd z lo hi w [u, v] c) (h' : Rd z' lo' hi' w [vp] p) (hl : p.length ≤ 1048576) :
    Calls Try.prog 23 #[.agg #[u, v], vp] w (PostOw2B w (relabC c p) (relabV c p)) := by
  obtain ⟨f, q⟩ := c
  obtain ⟨ao, n1, cap, bo, n2, dap, rfl, rfl⟩ := shapeCls h
  obtain ⟨po, np, pcap, rfl, e, hnc, hcm, hnone⟩ := h'.shape
  subst e
  obtain rfl : n1 = f.length := by
    obtain ⟨_, _, _, e, e2, -⟩ := (h.two rfl).1.shape
    simp only [Value.slice.injEq] at e; dsimp only at e2; omega
  obtain ⟨r1, hr1⟩ : ∃ r, r = isCls (f, q) := ⟨_, rfl⟩
  obtain ⟨r2, hr2⟩ : ∃ r, r = isPerm p := ⟨_, rfl⟩
  obtain ⟨r3, hr3⟩ : ∃ r, r = decide (p.length = f.length) := ⟨_, rfl⟩
  have H1 := Lib.hid hr1
  have H2 := Lib.hid hr2
  have H3 := Lib.hid hr3
  have HV := Lib.hid (show relabV (f, q) p = (r1 && r2 && r3) by rw [relabV, hr1, hr2, hr3])
  have HC := Lib.hid (show relabC (f, q) p = if (r1 && r2 && r3) = true then (relab p f, relab p q) else ([], []) by rw [relabC, HV.out])
  clear hr1 hr2 hr3
  cases r1
  · rw [HV.out, HC.out]
    go_enter Try.func23, Try.ntmps23
    go_wp2_with fail
    refine (isClsI_b _ _ _ _ (h.below (by go_grown)) _ H1.out).mono ?_
    rintro e w1 ⟨rfl, hb1⟩
    have hB1 : Below w.heap.size w w1 := Below.after bwT hb1 szT; have s1 := hb1.size; try simp only [World.size_alloc, World.size_setCell, World.size_drew] at s1
    have r0 : w1.cell? ⟨w.heap.size + 1, 0, none⟩ = some (.slice none 0 0) := oldc hb1 ltT (by simp [go_sem])
    have r1 : w1.cell? ⟨w.heap.size + 1, 1, none⟩ = some (.slice none 0 0) := oldc hb1 ltT (by simp [go_sem])
    have l1 : w.heap.size + 1 < w1.heap.size := by omega
    have hf1 : ∀ o, w1.frozen? ⟨w.heap.size + 1, o, none⟩ = false := fun o => (hb1.frozen (p := ⟨w.heap.size + 1, o, none⟩) ltT).trans (by simp [go_sem])
    clear hb1
    go_wp2
    exact bodyPost_ret (v := .tuple #[.agg #[.slice none 0 0, .slice none 0 0], .bool false]) (by simp [results, go_sem, r0, r1]) rfl ⟨_, _, rfl, Ow.nil2 _ _ _, bwT⟩
  · obtain ⟨k1, k2, k3, k4, k5, -, -⟩ := isCls_parts H1.out.symm
    dsimp only at k1 k2 k3 k4 k5
    have HK3 := Lib.hid k3
    have HK4 := Lib.hid k4
    have HK5 := Lib.hid k5
    clear k3 k4 k5
    cases r2
    · rw [HV.out, HC.out]
      go_enter Try.func23, Try.ntmps23
      go_wp2_with fail
      refine (isClsI_b _ _ _ _ (h.below (by go_grown)) _ H1.out).mono ?_
      rintro e w1 ⟨rfl, hb1⟩
      have hB1 : Below w.heap.size w w1 := Below.after bwT hb1 szT; have s1 := hb1.size; try simp only [World.size_alloc, World.size_setCell, World.size_drew] at s1
      have r0 : w1.cell? ⟨w.heap.size + 1, 0, none⟩ = some (.slice none 0 0) := oldc hb1 ltT (by simp [go_sem])
      have r1 : w1.cell? ⟨w.heap.size + 1, 1, none⟩ = some (.slice none 0 0) := oldc hb1 ltT (by simp [go_sem])
      have l1 : w.heap.size + 1 < w1.heap.size := by omega
      have hf1 : ∀ o, w1.frozen? ⟨w.heap.size + 1, o, none⟩ = false := fun o => (hb1.frozen (p := ⟨w.heap.size + 1, o, none⟩) ltT).trans (by simp [go_sem])
      clear hb1
      go_wp2_with fail
      refine (isPermI_b _ _ _ (h'.below hB1) hl _ H2.out).mono ?_
      rintro e w2 ⟨rfl, hb2⟩
      have hB2 : Below w.heap.size w w2 := hB1.trans (hb2.mono (by omega))
      have r0 := oldc hb2 l1 r0
      have r1 := oldc hb2 l1 r1
      have hf2 : ∀ o, w2.frozen? ⟨w.heap.size + 1, o, none⟩ = false := fun o => (hb2.frozen (p := ⟨w.heap.size + 1, o, none⟩) l1).trans (hf1 o)
      clear hb2
      go_wp2
      exact bodyPost_ret (v := .tuple #[.agg #[.slice none 0 0, .slice none 0 0], .bool false]) (by simp [results, go_sem, r0, r1]) rfl ⟨_, _, rfl, Ow.nil2 _ _ _, bwT⟩
    · cases r3
      · have hbne : ((p.length : Int) != (f.length : Int)) = true := by
          have := of_decide_eq_false H3.out.symm
          simp; omega
        rw [HV.out, HC.out]
        go_enter Try.func23, Try.ntmps23
        go_wp2_with fail
        refine (isClsI_b _ _ _ _ (h.below (by go_grown)) _ H1.out).mono ?_
        rintro e w1 ⟨rfl, hb1⟩
        have hB1 : Below w.heap.size w w1 := Below.after bwT hb1 szT; have s1 := hb1.size; try simp only [World.size_alloc, World.size_setCell, World.size_drew] at s1
        have a0 : w1.cell? ⟨w.heap.size, 0, none⟩ = some (.slice ao f.length cap) := oldc hb1 ltT (by simp [go_sem])
        have r0 : w1.cell? ⟨w.heap.size + 1, 0, none⟩ = some (.slice none 0 0) := oldc hb1 ltT (by simp [go_sem])
        have r1 : w1.cell? ⟨w.heap.size + 1, 1, none⟩ = some (.slice none 0 0) := oldc hb1 ltT (by simp [go_sem])
        have l0 : w.heap.size < w1.heap.size := by omega
        have l1 : w.heap.size + 1 < w1.heap.size := by omega
        have hf1 : ∀ o, w1.frozen? ⟨w.heap.size + 1, o, none⟩ = false := fun o => (hb1.frozen (p := ⟨w.heap.size + 1, o, none⟩) ltT).trans (by simp [go_sem])
        clear hb1
        go_wp2_with fail
        refine (isPermI_b _ _ _ (h'.below hB1) hl _ H2.out).mono ?_
        rintro e w2 ⟨rfl, hb2⟩
        have hB2 : Below w.heap.size w w2 := hB1.trans (hb2.mono (by omega))
        have a0 := oldc hb2 l0 a0
        have r0 := oldc hb2 l1 r0
        have r1 := oldc hb2 l1 r1
        have hf2 : ∀ o, w2.frozen? ⟨w.heap.size + 1, o, none⟩ = false := fun o => (hb2.frozen (p := ⟨w.heap.size + 1, o, none⟩) l1).trans (hf1 o)
        clear hb2
        go_wp2
        exact bodyPost_ret (v := .tuple #[.agg #[.slice none 0 0, .slice none 0 0], .bool false]) (by simp [results, go_sem, r0, r1]) rfl ⟨_, _, rfl, Ow.nil2 _ _ _, bwT⟩
      · have hpf : p.length = f.length := of_decide_eq_true H3.out.symm
        have HPF := Lib.hid hpf
        have hbne : ((p.length : Int) != (f.length : Int)) = false := by simp [hpf]
        have HPR := Lib.hid (isPerm_range H2.out.symm)
        clear hpf
        rw [HV.out, HC.out]
        go_enter Try.func23, Try.ntmps23
        go_wp2_with fail
        refine (isClsI_b _ _ _ _ (h.below (by go_grown)) _ H1.out).mono ?_
        rintro e w1 ⟨rfl, hb1⟩
        have hB1 : Below w.heap.size w w1 := Below.after bwT hb1 szT; have s1 := hb1.size; try simp only [World.size_alloc, World.size_setCell, World.size_drew] at s1
        have a0 : w1.cell? ⟨w.heap.size, 0, none⟩ = some (.slice ao f.length cap) := oldc hb1 ltT (by simp [go_sem])
        have a1 : w1.cell? ⟨w.heap.size, 1, none⟩ = some (.slice bo n2 dap) := oldc hb1 ltT (by simp [go_sem])
        have r0 : w1.cell? ⟨w.heap.size + 1, 0, none⟩ = some (.slice none 0 0) := oldc hb1 ltT (by simp [go_sem])
        have r1 : w1.cell? ⟨w.heap.size + 1, 1, none⟩ = some (.slice none 0 0) := oldc hb1 ltT (by simp [go_sem])
        have l0 : w.heap.size < w1.heap.size := by omega
        have l1 : w.heap.size + 1 < w1.heap.size := by omega
        have hf1 : ∀ o, w1.frozen? ⟨w.heap.size + 1, o, none⟩ = false := fun o => (hb1.frozen (p := ⟨w.heap.size + 1, o, none⟩) ltT).trans (by simp [go_sem])
        clear hb1
        go_wp2_with fail
        refine (isPermI_b _ _ _ (h'.below hB1) hl _ H2.out).mono ?_
        rintro e w2 ⟨rfl, hb2⟩
        have hB2 : Below w.heap.size w w2 := hB1.trans (hb2.mono (by omega))
        have a0 := oldc hb2 l0 a0
        have a1 := oldc hb2 l0 a1
        have r0 := oldc hb2 l1 r0
        have r1 := oldc hb2 l1 r1
        have s2 := hb2.size
        have l2 : w.heap.size + 1 < w2.heap.size := by omega
        have hf2 : ∀ o, w2.frozen? ⟨w.heap.size + 1, o, none⟩ = false := fun o => (hb2.frozen (p := ⟨w.heap.size + 1, o, none⟩) l1).trans (hf1 o)
        clear hb2
        go_wp2_with fail
        refine (relI_any _ _ _ _ (f, q) p (h.below hB2) (h'.below hB2) HPF.out.symm (by have := HK3.out; have := HPF.out; dsimp only; omega) HPR.out (by rw [HPF.out]; exact HK4.out) (by rw [HPF.out]; exact HK5.out) hl).mono ?_
        rintro e w3 ⟨g1, g2, rfl, ho3, hb3⟩
        obtain ⟨ao3, n3, cp3, bo3, m3, dp3, rfl, rfl⟩ := shapeCls ho3.rd
        have hB3 : Below w.heap.size w w3 := hB2.trans (hb3.mono (by omega))
        have r0 := oldc hb3 l2 r0
        have r1 := oldc hb3 l2 r1
        have s3 := hb3.size
        have hf3 : ∀ o, w3.frozen? ⟨w.heap.size + 1, o, none⟩ = false := fun o => (hb3.frozen (p := ⟨w.heap.size + 1, o, none⟩) l2).trans (hf2 o)
        have HO := Lib.hid (ho3.mono (show w.heap.size + 1 + 1 ≤ w2.heap.size by omega) (Nat.le_refl _))
        clear hb3 ho3 h h'
        go_wp2
        exact bodyPost_ret (v := .tuple #[.agg #[.slice ao3 n3 cp3, .slice bo3 m3 dp3], .bool true]) (by simp [results, go_sem, r0, r1]) rfl ⟨_, _, rfl, (HO.out.keep znT).top.mono (by omega) (by simp), bwT⟩

set_option maxHeartbeats 4000000 in
theorem relabS_any (h : Rd z lo hi w [u, v] c) (h' : Rd z' lo' hi' w [vp] p) (hc : c.1.length ≤ 1048576) (hl : p.length ≤ 1048576) :
    Calls Try.prog 86 #[.agg #[u, v], vp] w (PostOw2B w (relabC c p) (relabV c p)) := by
  obtain ⟨f, q⟩ := c
  have hc : f.length ≤ 1048576 := hc
  obtain ⟨ao, n1, cap, bo, n2, dap, rfl, rfl⟩ := shapeCls h
  obtain ⟨po, np, pcap, rfl, e, hnc, hcm, hnone⟩ := h'.shape
  subst e
  obtain rfl : n1 = f.length := by
    obtain ⟨_, _, _, e, e2, -⟩ := (h.two rfl).1.shape
    simp only [Value.slice.injEq] at e; dsimp only at e2; omega
  obtain ⟨r1, hr1⟩ : ∃ r, r = isCls (f, q) := ⟨_, rfl⟩
  obtain ⟨r2, hr2⟩ : ∃ r, r = isPerm p := ⟨_, rfl⟩
  obtain ⟨r3, hr3⟩ : ∃ r, r = decide (p.length = f.length) := ⟨_, rfl⟩
  have H1 := Lib.hid hr1
  have H2 := Lib.hid hr2
  have H3 := Lib.hid hr3
  have HV := Lib.hid (show relabV (f, q) p = (r1 && r2 && r3) by rw [relabV, hr1, hr2, hr3])
  have HC := Lib.hid (show relabC (f, q) p = if (r1 && r2 && r3) = true then (relab p f, relab p q) else ([], []) by rw [relabC, HV.out])
  clear hr1 hr2 hr3
  cases r1
  · rw [HV.out, HC.out]
    go_enter Try.func86, Try.ntmps86
    go_wp2_with fail
    refine (isClsS_b _ _ _ _ (h.below (by go_grown)) hc _ H1.out).mono ?_
    rintro e w1 ⟨rfl, hb1⟩
    have hB1 : Below w.heap.size w w1 := Below.after bwT hb1 szT; have s1 := hb1.size; try simp only [World.size_alloc, World.size_setCell, World.size_drew] at s1
    have r0 : w1.cell? ⟨w.heap.size + 1, 0, none⟩ = some (.slice none 0 0) := oldc hb1 ltT (by simp [go_sem])
    have r1 : w1.cell? ⟨w.heap.size + 1, 1, none⟩ = some (.slice none 0 0) := oldc hb1 ltT (by simp [go_sem])
    have l1 : w.heap.size + 1 < w1.heap.size := by omega
    have hf1 : ∀ o, w1.frozen? ⟨w.heap.size + 1, o, none⟩ = false := fun o => (hb1.frozen (p := ⟨w.heap.size + 1, o, none⟩) ltT).trans (by simp [go_sem])
    clear hb1
    go_wp2
    exact bodyPost_ret (v := .tuple #[.agg #[.slice none 0 0, .slice none 0 0], .bool false]) (by simp [results, go_sem, r0, r1]) rfl ⟨_, _, rfl, Ow.nil2 _ _ _, bwT⟩
  · obtain ⟨k1, k2, k3, k4, k5, -, -⟩ := isCls_parts H1.out.symm
    dsimp only at k1 k2 k3 k4 k5
    have HK3 := Lib.hid k3
    have HK4 := Lib.hid k4
    have HK5 := Lib.hid k5
    clear k3 k4 k5
    cases r3
    · have hbne : ((p.length : Int) != (f.length : Int)) = true := by
        have := of_decide_eq_false H3.out.symm
        simp; omega
      rw [HV.out, HC.out]
      go_enter Try.func86, Try.ntmps86
      go_wp2_with fail
      refine (isClsS_b _ _ _ _ (h.below (by go_grown)) hc _ H1.out).mono ?_
      rintro e w1 ⟨rfl, hb1⟩
      have hB1 : Below w.heap.size w w1 := Below.after bwT hb1 szT; have s1 := hb1.size; try simp only [World.size_alloc, World.size_setCell, World.size_drew] at s1
      have a0 : w1.cell? ⟨w.heap.size, 0, none⟩ = some (.slice ao f.length cap) := oldc hb1 ltT (by simp [go_sem])
      have r0 : w1.cell? ⟨w.heap.size + 1, 0, none⟩ = some (.slice none 0 0) := oldc hb1 ltT (by simp [go_sem])
      have r1 : w1.cell? ⟨w.heap.size + 1, 1, none⟩ = some (.slice none 0 0) := oldc hb1 ltT (by simp [go_sem])
      have l0 : w.heap.size < w1.heap.size := by omega
      have l1 : w.heap.size + 1 < w1.heap.size := by omega
      have hf1 : ∀ o, w1.frozen? ⟨w.heap.size + 1, o, none⟩ = false := fun o => (hb1.frozen (p := ⟨w.heap.size + 1, o, none⟩) ltT).trans (by simp [go_sem])
      clear hb1
      go_wp2
      all_goals exact bodyPost_ret (v := .tuple #[.agg #[.slice none 0 0, .slice none 0 0], .bool false]) (by simp [results, go_sem, r0, r1]) rfl ⟨_, _, rfl, Ow.nil2 _ _ _, bwT⟩
    · cases r2
      · have hpf : p.length = f.length := of_decide_eq_true H3.out.symm
        have hbne : ((p.length : Int) != (f.length : Int)) = false := by simp [hpf]
        clear hpf
        rw [HV.out, HC.out]
        go_enter Try.func86, Try.ntmps86
        go_wp2_with fail
        refine (isClsS_b _ _ _ _ (h.below (by go_grown)) hc _ H1.out).mono ?_
        rintro e w1 ⟨rfl, hb1⟩
        have hB1 : Below w.heap.size w w1 := Below.after bwT hb1 szT; have s1 := hb1.size; try simp only [World.size_alloc, World.size_setCell, World.size_drew] at s1
        have a0 : w1.cell? ⟨w.heap.size, 0, none⟩ = some (.slice ao f.length cap) := oldc hb1 ltT (by simp [go_sem])
        have r0 : w1.cell? ⟨w.heap.size + 1, 0, none⟩ = some (.slice none 0 0) := oldc hb1 ltT (by simp [go_sem])
        have r1 : w1.cell? ⟨w.heap.size + 1, 1, none⟩ = some (.slice none 0 0) := oldc hb1 ltT (by simp [go_sem])
        have l1 : w.heap.size + 1 < w1.heap.size := by omega
        have hf1 : ∀ o, w1.frozen? ⟨w.heap.size + 1, o, none⟩ = false := fun o => (hb1.frozen (p := ⟨w.heap.size + 1, o, none⟩) ltT).trans (by simp [go_sem])
        clear hb1
        go_wp2_with fail
        refine (isPermS_b _ _ _ (h'.below hB1) hl _ H2.out).mono ?_
        rintro e w2 ⟨rfl, hb2⟩
        have hB2 : Below w.heap.size w w2 := hB1.trans (hb2.mono (by omega))
        have r0 := oldc hb2 l1 r0
        have r1 := oldc hb2 l1 r1
        have hf2 : ∀ o, w2.frozen? ⟨w.heap.size + 1, o, none⟩ = false := fun o => (hb2.frozen (p := ⟨w.heap.size + 1, o, none⟩) l1).trans (hf1 o)
        clear hb2
        go_wp2
        exact bodyPost_ret (v := .tuple #[.agg #[.slice none 0 0, .slice none 0 0], .bool false]) (by simp [results, go_sem, r0, r1]) rfl ⟨_, _, rfl, Ow.nil2 _ _ _, bwT⟩
      · have hpf : p.length = f.length := of_decide_eq_true H3.out.symm
        have HPF := Lib.hid hpf
        have hbne : ((p.length : Int) != (f.length : Int)) = false := by simp [hpf]
        have HPR := Lib.hid (isPerm_range H2.out.symm)
        clear hpf
        rw [HV.out, HC.out]
        go_enter Try.func86, Try.ntmps86
        go_wp2_with fail
        refine (isClsS_b _ _ _ _ (h.below (by go_grown)) hc _ H1.out).mono ?_
        rintro e w1 ⟨rfl, hb1⟩
        have hB1 : Below w.heap.size w w1 := Below.after bwT hb1 szT; have s1 := hb1.size; try simp only [World.size_alloc, World.size_setCell, World.size_drew] at s1
        have a0 : w1.cell? ⟨w.heap.size, 0, none⟩ = some (.slice ao f.length cap) := oldc hb1 ltT (by simp [go_sem])
        have a1 : w1.cell? ⟨w.heap.size, 1, none⟩ = some (.slice bo n2 dap) := oldc hb1 ltT (by simp [go_sem])
        have r0 : w1.cell? ⟨w.heap.size + 1, 0, none⟩ = some (.slice none 0 0) := oldc hb1 ltT (by simp [go_sem])
        have r1 : w1.cell? ⟨w.heap.size + 1, 1, none⟩ = some (.slice none 0 0) := oldc hb1 ltT (by simp [go_sem])
        have l0 : w.heap.size < w1.heap.size := by omega
        have l1 : w.heap.size + 1 < w1.heap.size := by omega
        have hf1 : ∀ o, w1.frozen? ⟨w.heap.size + 1, o, none⟩ = false := fun o => (hb1.frozen (p := ⟨w.heap.size + 1, o, none⟩) ltT).trans (by simp [go_sem])
        clear hb1
        go_wp2_with fail
        refine (isPermS_b _ _ _ (h'.below hB1) hl _ H2.out).mono ?_
        rintro e w2 ⟨rfl, hb2⟩
        have hB2 : Below w.heap.size w w2 := hB1.trans (hb2.mono (by omega))
        have a0 := oldc hb2 l0 a0
        have a1 := oldc hb2 l0 a1
        have r0 := oldc hb2 l1 r0
        have r1 := oldc hb2 l1 r1
        have s2 := hb2.size
        have l2 : w.heap.size + 1 < w2.heap.size := by omega
        have hf2 : ∀ o, w2.frozen? ⟨w.heap.size + 1, o, none⟩ = false := fun o => (hb2.frozen (p := ⟨w.heap.size + 1, o, none⟩) l1).trans (hf1 o)
        clear hb2
        go_wp2_with fail
        refine (relS_any _ _ _ _ (f, q) p (h.below hB2) (h'.below hB2) HPF.out.symm (by have := HK3.out; have := HPF.out; dsimp only; omega) HPR.out (by rw [HPF.out]; exact HK4.out) (by rw [HPF.out]; exact HK5.out) hl).mono ?_
        rintro e w3 ⟨g1, g2, rfl, ho3, hb3⟩
        obtain ⟨ao3, n3, cp3, bo3, m3, dp3, rfl, rfl⟩ := shapeCls ho3.rd
        have hB3 : Below w.heap.size w w3 := hB2.trans (hb3.mono (by omega))
        have r0 := oldc hb3 l2 r0
        have r1 := oldc hb3 l2 r1
        have s3 := hb3.size
        have hf3 : ∀ o, w3.frozen? ⟨w.heap.size + 1, o, none⟩ = false := fun o => (hb3.frozen (p := ⟨w.heap.size + 1, o, none⟩) l2).trans (hf2 o)
        have HO := Lib.hid (ho3.mono (show w.heap.size + 1 + 1 ≤ w2.heap.size by omega) (Nat.le_refl _))
        clear hb3 ho3 h h'
        go_wp2
        exact bodyPost_ret (v := .tuple #[.agg #[.slice ao3 n3 cp3, .slice bo3 m3 dp3], .bool true]) (by simp [results, go_sem, r0, r1]) rfl ⟨_, _, rfl, (HO.out.keep znT).top.mono (by omega) (by simp), bwT⟩
end
end Go.Proofs.Ytlnhhfebmeekhaa
