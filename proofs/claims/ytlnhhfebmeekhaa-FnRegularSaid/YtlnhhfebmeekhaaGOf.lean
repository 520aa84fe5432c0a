/- Contracts of GroupOf (impl and spec). -/
import Derived.Test.YtlnhhfebmeekhaaGrpI
import Derived.Test.YtlnhhfebmeekhaaZ10E
namespace Go.Proofs.Ytlnhhfebmeekhaa
set_option linter.unusedVariables false
set_option linter.unusedSimpArgs false
open Go.RowKit

def grpR (c : Cls) : Option Pms := if isCls c then gLoop c 200 (200 + 2) 0 [idL c.1.length] else none
def grpV (c : Cls) : Bool := (grpR c).isSome
def grpO : Option Pms → Pms
  | some o => lsrt o
  | none => []
def grpX (c : Cls) : Pms := grpO (grpR c)
theorem grp_no {c : Cls} (h : isCls c = false) : grpX c = [] ∧ grpV c = false := by unfold grpX grpV grpR; rw [h]; exact ⟨rfl, rfl⟩
theorem grp_yes {c : Cls} (h : isCls c = true) {R : Option Pms} (hR : R = gLoop c 200 (200 + 2) 0 [idL c.1.length]) : grpX c = grpO R ∧ grpV c = R.isSome := by
  subst hR
  unfold grpX grpV grpR; rw [h]; exact ⟨rfl, rfl⟩
theorem grpR_ok {c : Cls} {o : Pms} (h : grpR c = some o) : isCls c = true ∧ GOk c.1.length o ∧ o.length ≤ 200 := by
  unfold grpR at h
  cases hc : isCls c with
  | false => rw [hc] at h; cases h
  | true =>
    rw [hc] at h
    have hok := isCls_ok hc
    obtain ⟨h1, h2⟩ := gLoop_ok (c := c) hok.2.1 hok.2.2 rfl (fun q hq => by rw [List.mem_singleton] at hq; subst hq; exact idL_ok _) (by simp) h
    exact ⟨rfl, h1, h2⟩
theorem lenSS_bound {k : Nat} : ∀ l : Pms, (∀ q ∈ l, q.length ≤ k) → lenSS l ≤ l.length * k
  | [], _ => by simp [lenSS]
  | q :: l, h => by
    have h1 := lenSS_bound l fun p hp => h p (by simp [hp])
    have h2 := h q (by simp)
    have h3 : lenSS (q :: l) = q.length + lenSS l := by rw [show q :: l = [q] ++ l from rfl, lenSS_app]; simp [lenSS]
    rw [h3, List.length_cons, Nat.add_mul]
    omega
theorem grpX_len (c : Cls) : lenSS (grpX c) ≤ 1600 := by
  unfold grpX
  cases h : grpR c with
  | none => exact Nat.zero_le _
  | some o =>
    obtain ⟨h1, h2, h3⟩ := grpR_ok h
    have hc := (isCls_ok h1).1
    have := lenSS_bound (k := 8) (lsrt o) fun q hq => by have := (h2 q (lsrt_mem.1 hq)).1; omega
    rw [lsrt_len] at this
    show lenSS (lsrt o) ≤ 1600
    omega
/-- A slice that is read comes back, and a bool. -/
def PostRdB {α : Type} [Rep α] (w : World) (x : α) (b : Bool) (e : Ending) (w' : World) : Prop := ∃ u, e = .returned (.tuple #[u, .bool b]) ∧ Rd false 0 w'.heap.size w' [u] x ∧ Below w.heap.size w w'

set_option maxHeartbeats 2000000 in
theorem groupOfI_any {z : Bool} {lo hi : Nat} (w : World) (u v : Value) (c : Cls) (hu : Rd z lo hi w [u, v] c) (hl1 : c.1.length ≤ 1048576) :
    Calls Try.prog 19 #[.agg #[u, v]] w (PostOwB w (grpX c) (grpV c)) := by
  obtain ⟨xs, ys⟩ := c
  dsimp only at hl1
  obtain ⟨ao, n, cap, bo, m, dap, rfl, rfl⟩ := shapeCls hu
  have HU := Lib.hid hu
  obtain ⟨cb, hcb⟩ : ∃ b, b = isCls (xs, ys) := ⟨_, rfl⟩
  have HCB := Lib.hid hcb
  clear hcb hu
  go_enter Try.func19, Try.ntmps19
  go_wp2_with fail
  refine (isClsI_b _ _ _ (xs, ys) (HU.out.below bwT) cb HCB.out).mono ?_
  rintro e1 w1 ⟨rfl, hbw1⟩
  have hpw1 : Below w.heap.size w w1 := Below.after bwT hbw1 szT
  have sw1 := hpw1.size
  have hBw1 : Below w.heap.size w w1 := hpw1
  have l_a : w.heap.size < w1.heap.size := by have := hbw1.size; simp at this; omega
  have q_a0 : w1.cell? ⟨w.heap.size, 0, none⟩ = some (.slice ao n cap) := oldc hbw1 ltT (by simp [go_sem])
  have q_a1 : w1.cell? ⟨w.heap.size, 1, none⟩ = some (.slice bo m dap) := oldc hbw1 ltT (by simp [go_sem])
  clear hbw1 hpw1
  cases cb
  · have HX := Lib.hid (grp_no HCB.out.symm)
    go_wp2
    go_ret2
    rw [HX.out.1, HX.out.2]
    exact ⟨_, rfl, ((GL.start true w.heap.size w.heap.size _ _ 28).ow (Nat.le_refl _) (Nat.le_refl _)).mono (Nat.le_refl _) (Nat.le_refl _), hBw1⟩
  · obtain ⟨R, hR⟩ : ∃ R, R = gLoop (xs, ys) 200 (200 + 2) 0 [idL xs.length] := ⟨_, rfl⟩
    have HRR := Lib.hid hR
    have HX := Lib.hid (grp_yes HCB.out.symm hR)
    clear hR
    have hz0 : w.heap.size ≤ w1.heap.size := hBw1.size
    go_wp2_with fail
    refine (group_any _ _ _ (xs, ys) (HU.out.below bwT) HCB.out.symm 200 (by omega) R HRR.out).mono ?_
    rintro e2 w2 ⟨hb2, hpost⟩
    have hB2 : Below w.heap.size w w2 := Below.after bwT hb2 (by omega)
    cases R with
    | none =>
      obtain rfl := hpost
      go_wp2
      go_ret2
      rw [HX.out.1, HX.out.2]
      exact ⟨_, rfl, ((GL.start true w.heap.size w.heap.size _ _ 28).ow (Nat.le_refl _) (Nat.le_refl _)), hB2⟩
    | some o =>
      obtain ⟨ug, rfl, hog⟩ := hpost
      have HO := Lib.hid hog
      clear hog
      go_wp2
      go_ret2
      rw [HX.out.1, HX.out.2]
      exact ⟨_, rfl, HO.out.mono (by omega) (Nat.le_refl _), hB2⟩
end Go.Proofs.Ytlnhhfebmeekhaa
