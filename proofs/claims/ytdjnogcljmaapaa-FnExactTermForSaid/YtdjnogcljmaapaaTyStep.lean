/- Contracts of the laws' helpers on the type Step. Written by tygen.py. -/
import Derived.Test.YtdjnogcljmaapaaKin
import Derived.Test.YtdjnogcljmaapaaStr
import Derived.Test.YtdjnogcljmaapaaInts
namespace Go.Proofs.Ytdjnogcljmaapaa
set_option linter.unusedVariables false
set_option linter.unusedSimpArgs false
open Go.RowKit

theorem slStep : SlTy Try.prog 34 99 (.agg #[.int .i64 0, .int .i64 0]) 2 16 := SlTy.of Try.underlying34 (by kernel_rfl) rfl
theorem repStp_inv {z : Bool} {w : World} {cs : List Value} {ki : Int} {ag : Int} {fp : List Nat} (h : Rep.rep z w cs ((ki, ag) : Stp) fp) : cs = [.int .i64 ki, .int .i64 ag] ∧ I64 ki ∧ I64 ag ∧ fp = [] := by
  obtain ⟨_, _, _, _, rfl, rfl, ⟨rfl, h0, rfl⟩, ⟨rfl, h1, rfl⟩⟩ := h
  exact ⟨rfl, h0, h1, rfl⟩
theorem repStp_mk {z : Bool} {w : World} {ki : Int} {ag : Int} (h0 : I64 ki) (h1 : I64 ag) : Rep.rep z w [.int .i64 ki, .int .i64 ag] ((ki, ag) : Stp) [] :=
  ⟨[_], _, [], [], rfl, rfl, ⟨rfl, h0, rfl⟩, ⟨rfl, h1, rfl⟩⟩
theorem Rd.stp_at {z : Bool} {lo hi : Nat} {w : World} {xs : List Stp} {ao : Option Addr} {n cap : Nat} (h : Rd z lo hi w [.slice ao n cap] xs) {i : Nat} (hi' : i < n) :
    ∃ (b off : Nat) (ki : Int) (ag : Int), ao = some ⟨b, off, none⟩ ∧ Hid (xs[i]? = some (ki, ag)) ∧ w.cell? ⟨b, off + i * 2, none⟩ = some (.int .i64 ki) ∧ w.cell? ⟨b, off + i * 2 + 1, none⟩ = some (.int .i64 ag) ∧ I64 ki ∧ I64 ag ∧ lo ≤ b ∧ b < hi ∧ b < w.heap.size ∧ (z = true → ∀ o, w.frozen? ⟨b, o, none⟩ = false) := by
  obtain ⟨b, off, ⟨ki, ag⟩, cs, e, hx, ⟨fp, hr, _⟩, _, g1, g2, g3, hc, hf⟩ := h.at hi'
  obtain ⟨rfl, h0, h1, -⟩ := repStp_inv hr
  refine ⟨b, off, ki, ag, e, hx, ?_, ?_, h0, h1, g1, g2, g3, hf⟩
  · have := hc 0 (.int .i64 ki) rfl; simpa [Rep.sz, Nat.add_assoc] using this
  · have := hc 1 (.int .i64 ag) rfl; simpa [Rep.sz, Nat.add_assoc] using this

set_option maxHeartbeats 1000000 in
theorem eqStep_b (w : World) (ki : Int) (ag : Int) (ki2 : Int) (ag2 : Int) (r : Bool) (hr : r = decide (((ki, ag) : Stp) = (ki2, ag2))) :
    Calls Try.prog 130 #[.agg #[.int .i64 ki, .int .i64 ag], .agg #[.int .i64 ki2, .int .i64 ag2]] w (PostB w r) := by
  obtain ⟨r0, hlet_r0⟩ : ∃ r, r = decide (ki = ki2) := ⟨_, rfl⟩
  have H0 := Lib.hid hlet_r0
  clear hlet_r0
  obtain ⟨r1, hlet_r1⟩ : ∃ r, r = decide (ag = ag2) := ⟨_, rfl⟩
  have H1 := Lib.hid hlet_r1
  clear hlet_r1
  have HR := Lib.hid (show r = (r0 && (r1)) by rw [hr, H0.out, H1.out]; simp [Prod.mk.injEq])
  clear hr
  cases r0
  · have q0 : (ki != ki2) = true := by have := H0.out; simp at this ⊢; exact this
    go_enter Try.func130, Try.ntmps130
    go_wp2
    go_ret
    exact ⟨ret_bool (by rw [HR.out]; rfl), (by repeat' (first | (with_reducible exact Below.refl _ _) | (with_reducible assumption) | (with_reducible refine Below.alloc ?_ (by first | omega | (simp; omega) | simp) _) | (with_reducible refine Below.setCell ?_ (by first | omega | (simp; omega) | simp) _) | (with_reducible refine Below.drew ?_) | (with_reducible refine below_drewN ?_ _)))⟩
  have q0 : (ki != ki2) = false := by have := H0.out; simp at this ⊢; exact this
  cases r1
  · have q1 : (ag != ag2) = true := by have := H1.out; simp at this ⊢; exact this
    go_enter Try.func130, Try.ntmps130
    go_wp2
    go_ret
    exact ⟨ret_bool (by rw [HR.out]; rfl), (by repeat' (first | (with_reducible exact Below.refl _ _) | (with_reducible assumption) | (with_reducible refine Below.alloc ?_ (by first | omega | (simp; omega) | simp) _) | (with_reducible refine Below.setCell ?_ (by first | omega | (simp; omega) | simp) _) | (with_reducible refine Below.drew ?_) | (with_reducible refine below_drewN ?_ _)))⟩
  have q1 : (ag != ag2) = false := by have := H1.out; simp at this ⊢; exact this
  go_enter Try.func130, Try.ntmps130
  go_wp2
  go_ret
  exact ⟨ret_bool (by rw [HR.out]; rfl), (by repeat' (first | (with_reducible exact Below.refl _ _) | (with_reducible assumption) | (with_reducible refine Below.alloc ?_ (by first | omega | (simp; omega) | simp) _) | (with_reducible refine Below.setCell ?_ (by first | omega | (simp; omega) | simp) _) | (with_reducible refine Below.drew ?_) | (with_reducible refine below_drewN ?_ _)))⟩
set_option maxHeartbeats 1000000 in
theorem toStep_any (w : World) (ki : Int) (ag : Int) :
    Calls Try.prog 125 #[.agg #[.int .i64 ki, .int .i64 ag]] w (PostV w (.agg #[.int .i64 ki, .int .i64 ag])) := by
  go_enter Try.func125, Try.ntmps125
  go_wp2
  exact bodyPost_ret (v := .agg #[.int .i64 ki, .int .i64 ag]) (by simp [results, go_sem]) rfl ⟨rfl, (by repeat' (first | (with_reducible exact Below.refl _ _) | (with_reducible assumption) | (with_reducible refine Below.alloc ?_ (by first | omega | (simp; omega) | simp) _) | (with_reducible refine Below.setCell ?_ (by first | omega | (simp; omega) | simp) _) | (with_reducible refine Below.drew ?_) | (with_reducible refine below_drewN ?_ _)))⟩
theorem Ow.stp_put {lo hi : Nat} {w : World} {xs : List Stp} {b off n cap : Nat} (h : Ow lo hi w [.slice (some ⟨b, off, none⟩) n cap] xs) {i : Nat} (hi' : i < n) {ki : Int} {ag : Int} (h0 : I64 ki) (h1 : I64 ag) :
    Ow lo hi ((w.setCell ⟨b, off + i * 2, none⟩ (.int .i64 ki)).setCell ⟨b, off + i * 2 + 1, none⟩ (.int .i64 ag)) [.slice (some ⟨b, off, none⟩) n cap] (xs.set i (ki, ag)) := by
  obtain ⟨b', off', ki0, ag0, e, hx, -, -, g0, g1, -, -, -, -⟩ := h.rd.stp_at hi'
  have hx := hx.out
  have hl : i < xs.length := (List.getElem?_eq_some_iff.1 hx).1
  have s1 := Ow.setc h (i := i) (j := 0) (x := (ki0, ag0)) (y := (ki, ag0)) (u := .int .i64 ki) (w' := w) hx (repStp_mk g0 g1) (by show 0 < 2; omega) (repStp_mk h0 g1)
  have e1 : (xs.set i (ki, ag0))[i]? = some (ki, ag0) := by simp [hl]
  have s2 := Ow.setc s1 (i := i) (j := 1) (x := (ki, ag0)) (y := (ki, ag)) (u := .int .i64 ag) (w' := w) e1 (repStp_mk h0 g1) (by show 1 < 2; omega) (repStp_mk h0 h1)
  rw [List.set_set] at s2
  have e2 : (xs.set i (ki, ag))[i]? = some (ki, ag) := by simp [hl]
  simpa [Rep.sz, Nat.add_assoc] using s2

set_option maxRecDepth 20000 in
set_option maxHeartbeats 2000000 in
theorem eqStepS_b {z z' : Bool} {lo hi lo' hi' : Nat} (w : World) (u v : Value) (xs ys : List Stp) (h : Rd z lo hi w [u] xs) (h' : Rd z' lo' hi' w [v] ys) (r : Bool) (hr : r = decide (xs = ys)) :
    Calls Try.prog 82 #[u, v] w (PostB w r) := by
  subst hr
  obtain ⟨ao, n, cap, rfl, rfl, hnc, hcm, hnone⟩ := h.shape
  obtain ⟨ao', n', cap', rfl, rfl, hnc', hcm', hnone'⟩ := h'.shape
  unfold maxLen at *
  by_cases hl : xs.length = ys.length
  · have HL := Lib.hid hl
    have hl1 : ¬ xs.length < ys.length := by omega
    have hl2 : ¬ ys.length < xs.length := by omega
    have hbne : (((xs.length : Int)) != (ys.length : Int)) = false := by simp [hl]
    clear hl
    go_enter Try.func82, Try.ntmps82
    go_wp2
    go_loopw [5] (fun i wr => ∃ k : Nat, k ≤ xs.length ∧ i = .int .i64 k ∧ Hid (xs.take k = ys.take k) ∧ Below w.heap.size w wr) (fun i _ => xs.length - (intOf i).toNat)
    case atStart => exact ⟨0, Nat.zero_le _, rfl, rfl, Below.refl _ _⟩
    case round =>
      rename_i wr
      obtain ⟨k, hk, rfl, ht, hb⟩ := hrel
      have sW := hb.size
      by_cases hlt : k < xs.length
      · obtain ⟨b, off, ki, ag, rfl, hx, p0, p1, -, -, -, -, hbl, -⟩ := (h.below hb).stp_at hlt
        obtain ⟨b2, off2, ki2, ag2, rfl, hy, q0, q1, -, -, -, -, hbl2, -⟩ := (h'.below hb).stp_at (show k < ys.length by omega)
        have hlt' : k < ys.length := by omega
        have hI : (k : Int) < (xs.length : Int) := by omega
        have hI' : (k : Int) < (ys.length : Int) := by omega
        clear h h'
        obtain ⟨r1, hlet_r1⟩ : ∃ r, r = decide (((ki, ag) : Stp) = (ki2, ag2)) := ⟨_, rfl⟩
        have H1 := Lib.hid hlet_r1
        clear hlet_r1
        have HT := Lib.hid (show r1 = true → xs.take (k + 1) = ys.take (k + 1) by
          intro e
          have e2 := of_decide_eq_true (H1.out.symm.trans e)
          rw [take_snoc hx.out, take_snoc hy.out, ht.out, e2])
        have HF := Lib.hid (show r1 = false → decide (xs = ys) = false by
          intro e
          have e2 := of_decide_eq_false (H1.out.symm.trans e)
          rw [decide_eq_false_iff_not]
          intro e3; subst e3
          have := hx.out.symm.trans hy.out
          exact e2 (Option.some.inj this))
        clear ht hx hy
        go_upto_region 6 with fail
        go_region_held3 (fun w' => w'.cell? ⟨b, off + k * 2, none⟩ = some (.int .i64 ki) ∧ w'.cell? ⟨b, off + k * 2 + 1, none⟩ = some (.int .i64 ag) ∧ w'.cell? ⟨b2, off2 + k * 2, none⟩ = some (.int .i64 ki2) ∧ w'.cell? ⟨b2, off2 + k * 2 + 1, none⟩ = some (.int .i64 ag2)) (go_keep) (first | (go_at_call 130; refine (eqStep_b _ ki ag ki2 ag2 r1 H1.out).mono ?_; rintro e w1 ⟨rfl, hb1⟩; have hB1 : Below w.heap.size w w1 := Below.after (by repeat' (first | (with_reducible exact Below.refl _ _) | (with_reducible assumption) | (with_reducible refine Below.alloc ?_ (by first | omega | (simp; omega) | simp) _) | (with_reducible refine Below.setCell ?_ (by first | omega | (simp; omega) | simp) _) | (with_reducible refine Below.drew ?_) | (with_reducible refine below_drewN ?_ _))) hb1 (by first | omega | (simp; omega) | simp); obtain ⟨hc1, hf1⟩ := bcell hb1; (try simp only [World.size_alloc, World.size_drew] at hc1 hf1)))
        cases r1
        · go_wp2
          go_ret
          exact ⟨ret_bool (HF.out (by trivial)).symm, hB1⟩
        · have HT2 := Lib.hid (HT.out (by trivial))
          go_wp2
          go_roundw
          case rel => exact ⟨k + 1, by omega, by go_num, HT2, hB1⟩
          case measure => simp [intOf]; omega
      · have HF : Hid (decide (xs = ys) = true) := by
          have e := ht.out
          rw [List.take_of_length_le (by omega), List.take_of_length_le (by omega)] at e
          exact decide_eq_true e
        clear h h' ht
        go_wp2
        go_ret
        exact ⟨ret_bool HF.out.symm, hb⟩
  · have HF : Hid (decide (xs = ys) = false) := by
      simp only [decide_eq_false_iff_not]
      intro e; subst e; exact hl rfl
    have hbne : (((xs.length : Int)) != (ys.length : Int)) = true := by simp; omega
    clear hl h h'
    go_enter Try.func82, Try.ntmps82
    go_wp2
    go_ret
    exact ⟨ret_bool HF.out.symm, Below.refl _ _⟩

set_option maxRecDepth 20000 in
set_option maxHeartbeats 2000000 in
theorem toStepS_any {z : Bool} {lo hi : Nat} (w : World) (v : Value) (xs : List Stp) (h : Rd z lo hi w [v] xs) (hl : xs.length ≤ 1048576) :
    Calls Try.prog 74 #[v] w (PostOw w xs) := by
  obtain ⟨ao, n, cap, rfl, rfl, hnc, hcm, hnone⟩ := h.shape
  unfold maxLen at *
  go_enter Try.func74, Try.ntmps74
  go_wp2_with (at_make; refine wpList_mk (α := Stp) rfl rfl slStep (y0 := (0, 0)) (fun _ => repStp_mk (by unfold I64; omega) (by unfold I64; omega)) rfl rfl rfl rfl (by omega) (by unfold maxLen; omega) ?_; intro w1 how hb1 hlt)
  go_loopw [4] (fun i wr => ∃ k : Nat, k ≤ xs.length ∧ i = .int .i64 k ∧ Ow w.heap.size (w.heap.size + 1) wr [.slice (some ⟨w.heap.size, 0, none⟩) xs.length xs.length] (xs.take k ++ List.replicate (xs.length - k) (0, 0)) ∧ Below w.heap.size w wr) (fun i _ => xs.length - (intOf i).toNat)
  case atStart => exact ⟨0, Nat.zero_le _, rfl, by simpa using how, hb1⟩
  case round =>
    rename_i wr
    obtain ⟨k, hk, rfl, how', hb⟩ := hrel
    have sW := hb.size
    clear how hb1 hlt
    by_cases hlt : k < xs.length
    · obtain ⟨b, off, ki, ag, rfl, hx, p0, p1, g0, g1, -, -, hbl, -⟩ := (h.below hb).stp_at hlt
      go_wp2_with fail
      refine (toStep_any _ ki ag).mono ?_
      rintro e w2 ⟨rfl, hb2⟩
      have how2 := how'.below hb2
      have hB2 : Below w.heap.size w w2 := Below.after hb hb2 sW
      obtain ⟨_, _, ki0, ag0, ee, -, q0, q1, -, -, -, -, hbl2, hf2⟩ := how2.rd.stp_at hlt
      simp only [Option.some.injEq, Addr.mk.injEq, and_true] at ee
      obtain ⟨rfl, rfl⟩ := ee
      have hf2 := hf2 rfl
      have hset := how2.stp_put hlt g0 g1
      rw [take_rep_snoc hx.out] at hset
      simp only [Nat.zero_add] at hset q0 q1
      have HS := Lib.hid hset
      have hI : (k : Int) < (xs.length : Int) := by omega
      clear hset how2 how' h hx p0 p1 hb2
      go_wp2
      go_roundw
      case rel => exact ⟨k + 1, by omega, by go_num, HS.out, (by repeat' (first | (with_reducible exact Below.refl _ _) | (with_reducible assumption) | (with_reducible refine Below.alloc ?_ (by first | omega | (simp; omega) | simp) _) | (with_reducible refine Below.setCell ?_ (by first | omega | (simp; omega) | simp) _) | (with_reducible refine Below.drew ?_) | (with_reducible refine below_drewN ?_ _)))⟩
      case measure => simp [intOf]; omega
    · have e : k = xs.length := by omega
      subst e
      have HS := Lib.hid how'.top
      clear how' h
      go_wp2
      go_ret
      exact ⟨_, rfl, by simpa using HS.out, hb⟩
end Go.Proofs.Ytdjnogcljmaapaa
