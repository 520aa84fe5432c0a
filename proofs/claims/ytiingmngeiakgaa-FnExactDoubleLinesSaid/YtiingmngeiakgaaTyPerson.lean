/- Contracts of the laws' helpers on the type Person. Written by tygen.py. -/
import Derived.Test.YtiingmngeiakgaaFam
import Derived.Test.YtiingmngeiakgaaInts
namespace Go.Proofs.Ytiingmngeiakgaa
set_option linter.unusedVariables false
set_option linter.unusedSimpArgs false
open Go.RowKit

theorem slPerson : SlTy Try.prog 29 70 (.agg #[.string ByteArray.empty, .int .i64 0, .int .i64 0, .int .i64 0, .int .i64 0, .int .i64 0]) 6 56 := SlTy.of Try.underlying29 (by kernel_rfl) rfl
theorem repPer_inv {z : Bool} {w : World} {cs : List Value} {nm : ByteArray} {sx : Int} {fa : Int} {mo : Int} {bo : Int} {di : Int} {fp : List Nat} (h : Rep.rep z w cs ((nm, sx, fa, mo, bo, di) : Per) fp) : cs = [.string nm, .int .i64 sx, .int .i64 fa, .int .i64 mo, .int .i64 bo, .int .i64 di] ∧ nm.size ≤ maxLen ∧ I64 sx ∧ I64 fa ∧ I64 mo ∧ I64 bo ∧ I64 di ∧ fp = [] := by
  obtain ⟨_, _, _, _, rfl, rfl, ⟨rfl, h0, rfl⟩, _, _, _, _, rfl, rfl, ⟨rfl, h1, rfl⟩, _, _, _, _, rfl, rfl, ⟨rfl, h2, rfl⟩, _, _, _, _, rfl, rfl, ⟨rfl, h3, rfl⟩, _, _, _, _, rfl, rfl, ⟨rfl, h4, rfl⟩, ⟨rfl, h5, rfl⟩⟩ := h
  exact ⟨rfl, h0, h1, h2, h3, h4, h5, rfl⟩
theorem repPer_mk {z : Bool} {w : World} {nm : ByteArray} {sx : Int} {fa : Int} {mo : Int} {bo : Int} {di : Int} (h0 : nm.size ≤ maxLen) (h1 : I64 sx) (h2 : I64 fa) (h3 : I64 mo) (h4 : I64 bo) (h5 : I64 di) : Rep.rep z w [.string nm, .int .i64 sx, .int .i64 fa, .int .i64 mo, .int .i64 bo, .int .i64 di] ((nm, sx, fa, mo, bo, di) : Per) [] :=
  ⟨[_], _, [], [], rfl, rfl, ⟨rfl, h0, rfl⟩, ⟨[_], _, [], [], rfl, rfl, ⟨rfl, h1, rfl⟩, ⟨[_], _, [], [], rfl, rfl, ⟨rfl, h2, rfl⟩, ⟨[_], _, [], [], rfl, rfl, ⟨rfl, h3, rfl⟩, ⟨[_], _, [], [], rfl, rfl, ⟨rfl, h4, rfl⟩, ⟨rfl, h5, rfl⟩⟩⟩⟩⟩⟩
theorem Rd.per_at {z : Bool} {lo hi : Nat} {w : World} {xs : List Per} {ao : Option Addr} {n cap : Nat} (h : Rd z lo hi w [.slice ao n cap] xs) {i : Nat} (hi' : i < n) :
    ∃ (b off : Nat) (nm : ByteArray) (sx : Int) (fa : Int) (mo : Int) (bo : Int) (di : Int), ao = some ⟨b, off, none⟩ ∧ Hid (xs[i]? = some (nm, sx, fa, mo, bo, di)) ∧ w.cell? ⟨b, off + i * 6, none⟩ = some (.string nm) ∧ w.cell? ⟨b, off + i * 6 + 1, none⟩ = some (.int .i64 sx) ∧ w.cell? ⟨b, off + i * 6 + 2, none⟩ = some (.int .i64 fa) ∧ w.cell? ⟨b, off + i * 6 + 3, none⟩ = some (.int .i64 mo) ∧ w.cell? ⟨b, off + i * 6 + 4, none⟩ = some (.int .i64 bo) ∧ w.cell? ⟨b, off + i * 6 + 5, none⟩ = some (.int .i64 di) ∧ nm.size ≤ maxLen ∧ I64 sx ∧ I64 fa ∧ I64 mo ∧ I64 bo ∧ I64 di ∧ lo ≤ b ∧ b < hi ∧ b < w.heap.size ∧ (z = true → ∀ o, w.frozen? ⟨b, o, none⟩ = false) := by
  obtain ⟨b, off, ⟨nm, sx, fa, mo, bo, di⟩, cs, e, hx, ⟨fp, hr, _⟩, _, g1, g2, g3, hc, hf⟩ := h.at hi'
  obtain ⟨rfl, h0, h1, h2, h3, h4, h5, -⟩ := repPer_inv hr
  refine ⟨b, off, nm, sx, fa, mo, bo, di, e, hx, ?_, ?_, ?_, ?_, ?_, ?_, h0, h1, h2, h3, h4, h5, g1, g2, g3, hf⟩
  · have := hc 0 (.string nm) rfl; simpa [Rep.sz, Nat.add_assoc] using this
  · have := hc 1 (.int .i64 sx) rfl; simpa [Rep.sz, Nat.add_assoc] using this
  · have := hc 2 (.int .i64 fa) rfl; simpa [Rep.sz, Nat.add_assoc] using this
  · have := hc 3 (.int .i64 mo) rfl; simpa [Rep.sz, Nat.add_assoc] using this
  · have := hc 4 (.int .i64 bo) rfl; simpa [Rep.sz, Nat.add_assoc] using this
  · have := hc 5 (.int .i64 di) rfl; simpa [Rep.sz, Nat.add_assoc] using this

set_option maxHeartbeats 1000000 in
theorem eqPerson_b (w : World) (nm : ByteArray) (sx : Int) (fa : Int) (mo : Int) (bo : Int) (di : Int) (nm2 : ByteArray) (sx2 : Int) (fa2 : Int) (mo2 : Int) (bo2 : Int) (di2 : Int) (r : Bool) (hr : r = decide (((nm, sx, fa, mo, bo, di) : Per) = (nm2, sx2, fa2, mo2, bo2, di2))) :
    Calls Try.prog 61 #[.agg #[.string nm, .int .i64 sx, .int .i64 fa, .int .i64 mo, .int .i64 bo, .int .i64 di], .agg #[.string nm2, .int .i64 sx2, .int .i64 fa2, .int .i64 mo2, .int .i64 bo2, .int .i64 di2]] w (PostB w r) := by
  obtain ⟨r0, hlet_r0⟩ : ∃ r, r = decide (nm = nm2) := ⟨_, rfl⟩
  have H0 := Lib.hid hlet_r0
  clear hlet_r0
  obtain ⟨r1, hlet_r1⟩ : ∃ r, r = decide (sx = sx2) := ⟨_, rfl⟩
  have H1 := Lib.hid hlet_r1
  clear hlet_r1
  obtain ⟨r2, hlet_r2⟩ : ∃ r, r = decide (fa = fa2) := ⟨_, rfl⟩
  have H2 := Lib.hid hlet_r2
  clear hlet_r2
  obtain ⟨r3, hlet_r3⟩ : ∃ r, r = decide (mo = mo2) := ⟨_, rfl⟩
  have H3 := Lib.hid hlet_r3
  clear hlet_r3
  obtain ⟨r4, hlet_r4⟩ : ∃ r, r = decide (bo = bo2) := ⟨_, rfl⟩
  have H4 := Lib.hid hlet_r4
  clear hlet_r4
  obtain ⟨r5, hlet_r5⟩ : ∃ r, r = decide (di = di2) := ⟨_, rfl⟩
  have H5 := Lib.hid hlet_r5
  clear hlet_r5
  have HR := Lib.hid (show r = (r0 && (r1 && (r2 && (r3 && (r4 && (r5)))))) by rw [hr, H0.out, H1.out, H2.out, H3.out, H4.out, H5.out]; simp [Prod.mk.injEq])
  clear hr
  cases r0
  · have q0 : (nm.toList == nm2.toList) = false := by rw [text_eq]; exact H0.out.symm
    have q0n : (nm.toList != nm2.toList) = true := by rw [bne, q0]; rfl
    go_enter Try.func61, Try.ntmps61
    go_wp2
    go_ret
    exact ⟨ret_bool (by rw [HR.out]; rfl), bwT⟩
  have q0 : (nm.toList == nm2.toList) = true := by rw [text_eq]; exact H0.out.symm
  have q0n : (nm.toList != nm2.toList) = false := by rw [bne, q0]; rfl
  cases r1
  · have q1 : (sx != sx2) = true := by have := H1.out; simp at this ⊢; exact this
    go_enter Try.func61, Try.ntmps61
    go_wp2
    go_ret
    exact ⟨ret_bool (by rw [HR.out]; rfl), bwT⟩
  have q1 : (sx != sx2) = false := by have := H1.out; simp at this ⊢; exact this
  cases r2
  · have q2 : (fa != fa2) = true := by have := H2.out; simp at this ⊢; exact this
    go_enter Try.func61, Try.ntmps61
    go_wp2
    go_ret
    exact ⟨ret_bool (by rw [HR.out]; rfl), bwT⟩
  have q2 : (fa != fa2) = false := by have := H2.out; simp at this ⊢; exact this
  cases r3
  · have q3 : (mo != mo2) = true := by have := H3.out; simp at this ⊢; exact this
    go_enter Try.func61, Try.ntmps61
    go_wp2
    go_ret
    exact ⟨ret_bool (by rw [HR.out]; rfl), bwT⟩
  have q3 : (mo != mo2) = false := by have := H3.out; simp at this ⊢; exact this
  cases r4
  · have q4 : (bo != bo2) = true := by have := H4.out; simp at this ⊢; exact this
    go_enter Try.func61, Try.ntmps61
    go_wp2
    go_ret
    exact ⟨ret_bool (by rw [HR.out]; rfl), bwT⟩
  have q4 : (bo != bo2) = false := by have := H4.out; simp at this ⊢; exact this
  cases r5
  · have q5 : (di != di2) = true := by have := H5.out; simp at this ⊢; exact this
    go_enter Try.func61, Try.ntmps61
    go_wp2
    go_ret
    exact ⟨ret_bool (by rw [HR.out]; rfl), bwT⟩
  have q5 : (di != di2) = false := by have := H5.out; simp at this ⊢; exact this
  go_enter Try.func61, Try.ntmps61
  go_wp2
  go_ret
  exact ⟨ret_bool (by rw [HR.out]; rfl), bwT⟩
set_option maxHeartbeats 1000000 in
theorem toPerson_any (w : World) (nm : ByteArray) (sx : Int) (fa : Int) (mo : Int) (bo : Int) (di : Int) :
    Calls Try.prog 54 #[.agg #[.string nm, .int .i64 sx, .int .i64 fa, .int .i64 mo, .int .i64 bo, .int .i64 di]] w (PostV w (.agg #[.string nm, .int .i64 sx, .int .i64 fa, .int .i64 mo, .int .i64 bo, .int .i64 di])) := by
  go_enter Try.func54, Try.ntmps54
  go_wp2
  exact bodyPost_ret (v := .agg #[.string nm, .int .i64 sx, .int .i64 fa, .int .i64 mo, .int .i64 bo, .int .i64 di]) (by simp [results, go_sem]) rfl ⟨rfl, bwT⟩
theorem Ow.per_put {lo hi : Nat} {w : World} {xs : List Per} {b off n cap : Nat} (h : Ow lo hi w [.slice (some ⟨b, off, none⟩) n cap] xs) {i : Nat} (hi' : i < n) {nm : ByteArray} {sx : Int} {fa : Int} {mo : Int} {bo : Int} {di : Int} (h0 : nm.size ≤ maxLen) (h1 : I64 sx) (h2 : I64 fa) (h3 : I64 mo) (h4 : I64 bo) (h5 : I64 di) :
    Ow lo hi ((((((w.setCell ⟨b, off + i * 6, none⟩ (.string nm)).setCell ⟨b, off + i * 6 + 1, none⟩ (.int .i64 sx)).setCell ⟨b, off + i * 6 + 2, none⟩ (.int .i64 fa)).setCell ⟨b, off + i * 6 + 3, none⟩ (.int .i64 mo)).setCell ⟨b, off + i * 6 + 4, none⟩ (.int .i64 bo)).setCell ⟨b, off + i * 6 + 5, none⟩ (.int .i64 di)) [.slice (some ⟨b, off, none⟩) n cap] (xs.set i (nm, sx, fa, mo, bo, di)) := by
  obtain ⟨b', off', nm0, sx0, fa0, mo0, bo0, di0, e, hx, -, -, -, -, -, -, g0, g1, g2, g3, g4, g5, -, -, -, -⟩ := h.rd.per_at hi'
  have hx := hx.out
  have hl : i < xs.length := (List.getElem?_eq_some_iff.1 hx).1
  have s1 := Ow.setc h (i := i) (j := 0) (x := (nm0, sx0, fa0, mo0, bo0, di0)) (y := (nm, sx0, fa0, mo0, bo0, di0)) (u := .string nm) (w' := w) hx (repPer_mk g0 g1 g2 g3 g4 g5) (by show 0 < 6; omega) (repPer_mk h0 g1 g2 g3 g4 g5)
  have e1 : (xs.set i (nm, sx0, fa0, mo0, bo0, di0))[i]? = some (nm, sx0, fa0, mo0, bo0, di0) := by simp [hl]
  have s2 := Ow.setc s1 (i := i) (j := 1) (x := (nm, sx0, fa0, mo0, bo0, di0)) (y := (nm, sx, fa0, mo0, bo0, di0)) (u := .int .i64 sx) (w' := w) e1 (repPer_mk h0 g1 g2 g3 g4 g5) (by show 1 < 6; omega) (repPer_mk h0 h1 g2 g3 g4 g5)
  rw [List.set_set] at s2
  have e2 : (xs.set i (nm, sx, fa0, mo0, bo0, di0))[i]? = some (nm, sx, fa0, mo0, bo0, di0) := by simp [hl]
  have s3 := Ow.setc s2 (i := i) (j := 2) (x := (nm, sx, fa0, mo0, bo0, di0)) (y := (nm, sx, fa, mo0, bo0, di0)) (u := .int .i64 fa) (w' := w) e2 (repPer_mk h0 h1 g2 g3 g4 g5) (by show 2 < 6; omega) (repPer_mk h0 h1 h2 g3 g4 g5)
  rw [List.set_set] at s3
  have e3 : (xs.set i (nm, sx, fa, mo0, bo0, di0))[i]? = some (nm, sx, fa, mo0, bo0, di0) := by simp [hl]
  have s4 := Ow.setc s3 (i := i) (j := 3) (x := (nm, sx, fa, mo0, bo0, di0)) (y := (nm, sx, fa, mo, bo0, di0)) (u := .int .i64 mo) (w' := w) e3 (repPer_mk h0 h1 h2 g3 g4 g5) (by show 3 < 6; omega) (repPer_mk h0 h1 h2 h3 g4 g5)
  rw [List.set_set] at s4
  have e4 : (xs.set i (nm, sx, fa, mo, bo0, di0))[i]? = some (nm, sx, fa, mo, bo0, di0) := by simp [hl]
  have s5 := Ow.setc s4 (i := i) (j := 4) (x := (nm, sx, fa, mo, bo0, di0)) (y := (nm, sx, fa, mo, bo, di0)) (u := .int .i64 bo) (w' := w) e4 (repPer_mk h0 h1 h2 h3 g4 g5) (by show 4 < 6; omega) (repPer_mk h0 h1 h2 h3 h4 g5)
  rw [List.set_set] at s5
  have e5 : (xs.set i (nm, sx, fa, mo, bo, di0))[i]? = some (nm, sx, fa, mo, bo, di0) := by simp [hl]
  have s6 := Ow.setc s5 (i := i) (j := 5) (x := (nm, sx, fa, mo, bo, di0)) (y := (nm, sx, fa, mo, bo, di)) (u := .int .i64 di) (w' := w) e5 (repPer_mk h0 h1 h2 h3 h4 g5) (by show 5 < 6; omega) (repPer_mk h0 h1 h2 h3 h4 h5)
  rw [List.set_set] at s6
  have e6 : (xs.set i (nm, sx, fa, mo, bo, di))[i]? = some (nm, sx, fa, mo, bo, di) := by simp [hl]
  simpa [Rep.sz, Nat.add_assoc] using s6

set_option maxRecDepth 20000 in
set_option maxHeartbeats 2000000 in
theorem eqPersonS_b {z z' : Bool} {lo hi lo' hi' : Nat} (w : World) (u v : Value) (xs ys : List Per) (h : Rd z lo hi w [u] xs) (h' : Rd z' lo' hi' w [v] ys) (r : Bool) (hr : r = decide (xs = ys)) :
    Calls Try.prog 36 #[u, v] w (PostB w r) := by
  subst hr
  obtain ⟨ao, n, cap, rfl, rfl, hnc, hcm, hnone⟩ := h.shape
  obtain ⟨ao', n', cap', rfl, rfl, hnc', hcm', hnone'⟩ := h'.shape
  unfold maxLen at *
  by_cases hl : xs.length = ys.length
  · have HL := Lib.hid hl
    have hl1 : ¬ xs.length < ys.length := by omega
    have hl2 : ¬ ys.length < xs.length := by omega
    have hbne : (((xs.length : Int)) != (ys.length : Int)) = false := by simp [hl]
    clear hl
    go_enter Try.func36, Try.ntmps36
    go_wp2
    go_loopw [5] (fun i wr => ∃ k : Nat, k ≤ xs.length ∧ i = .int .i64 k ∧ Hid (xs.take k = ys.take k) ∧ Below w.heap.size w wr) (fun i _ => xs.length - (intOf i).toNat)
    case atStart => exact ⟨0, Nat.zero_le _, rfl, rfl, Below.refl _ _⟩
    case round =>
      rename_i wr
      obtain ⟨k, hk, rfl, ht, hb⟩ := hrel
      have sW := hb.size
      by_cases hlt : k < xs.length
      · obtain ⟨b, off, nm, sx, fa, mo, bo, di, rfl, hx, p0, p1, p2, p3, p4, p5, -, -, -, -, -, -, -, -, hbl, -⟩ := (h.below hb).per_at hlt
        obtain ⟨b2, off2, nm2, sx2, fa2, mo2, bo2, di2, rfl, hy, q0, q1, q2, q3, q4, q5, -, -, -, -, -, -, -, -, hbl2, -⟩ := (h'.below hb).per_at (show k < ys.length by omega)
        have hlt' : k < ys.length := by omega
        have hI : (k : Int) < (xs.length : Int) := by omega
        have hI' : (k : Int) < (ys.length : Int) := by omega
        clear h h'
        obtain ⟨r1, hlet_r1⟩ : ∃ r, r = decide (((nm, sx, fa, mo, bo, di) : Per) = (nm2, sx2, fa2, mo2, bo2, di2)) := ⟨_, rfl⟩
        have H1 := Lib.hid hlet_r1
        clear hlet_r1
        have HT := Lib.hid (show r1 = true → xs.take (k + 1) = ys.take (k + 1) by
          intro e
          have e2 := of_decide_eq_true (H1.out.symm.trans e)
          rw [take_snoc hx.out, take_snoc hy.out, ht.out, e2])
        have HF := Lib.hid (show r1 = false → decide (xs = ys) = false by
          intro e
          have e2 := of_decide_eq_false (H1.out.symm.trans e)
          rw [decide_eq_false_iff_not]
          intro e3; subst e3
          have := hx.out.symm.trans hy.out
          exact e2 (Option.some.inj this))
        clear ht hx hy
        go_upto_region 6 with fail
        go_region_held3 (fun w' => w'.cell? ⟨b, off + k * 6, none⟩ = some (.string nm) ∧ w'.cell? ⟨b, off + k * 6 + 1, none⟩ = some (.int .i64 sx) ∧ w'.cell? ⟨b, off + k * 6 + 2, none⟩ = some (.int .i64 fa) ∧ w'.cell? ⟨b, off + k * 6 + 3, none⟩ = some (.int .i64 mo) ∧ w'.cell? ⟨b, off + k * 6 + 4, none⟩ = some (.int .i64 bo) ∧ w'.cell? ⟨b, off + k * 6 + 5, none⟩ = some (.int .i64 di) ∧ w'.cell? ⟨b2, off2 + k * 6, none⟩ = some (.string nm2) ∧ w'.cell? ⟨b2, off2 + k * 6 + 1, none⟩ = some (.int .i64 sx2) ∧ w'.cell? ⟨b2, off2 + k * 6 + 2, none⟩ = some (.int .i64 fa2) ∧ w'.cell? ⟨b2, off2 + k * 6 + 3, none⟩ = some (.int .i64 mo2) ∧ w'.cell? ⟨b2, off2 + k * 6 + 4, none⟩ = some (.int .i64 bo2) ∧ w'.cell? ⟨b2, off2 + k * 6 + 5, none⟩ = some (.int .i64 di2)) (go_keep) (first | (go_at_call 61; refine (eqPerson_b _ nm sx fa mo bo di nm2 sx2 fa2 mo2 bo2 di2 r1 H1.out).mono ?_; rintro e w1 ⟨rfl, hb1⟩; have hB1 : Below w.heap.size w w1 := Below.after bwT hb1 (by first | omega | (simp; omega) | simp); obtain ⟨hc1, hf1⟩ := bcell hb1; (try simp only [World.size_alloc, World.size_drew] at hc1 hf1)))
        cases r1
        · go_wp2
          go_ret
          exact ⟨ret_bool (HF.out (by trivial)).symm, hB1⟩
        · have HT2 := Lib.hid (HT.out (by trivial))
          go_wp2
          go_roundw
          case rel => exact ⟨k + 1, by omega, by go_num, HT2, hB1⟩
          case measure => simp [intOf]; omega
      · have HF : Hid (decide (xs = ys) = true) := by
          have e := ht.out
          rw [List.take_of_length_le (by omega), List.take_of_length_le (by omega)] at e
          exact decide_eq_true e
        clear h h' ht
        go_wp2
        go_ret
        exact ⟨ret_bool HF.out.symm, hb⟩
  · have HF : Hid (decide (xs = ys) = false) := by
      simp only [decide_eq_false_iff_not]
      intro e; subst e; exact hl rfl
    have hbne : (((xs.length : Int)) != (ys.length : Int)) = true := by simp; omega
    clear hl h h'
    go_enter Try.func36, Try.ntmps36
    go_wp2
    go_ret
    exact ⟨ret_bool HF.out.symm, Below.refl _ _⟩

set_option maxRecDepth 20000 in
set_option maxHeartbeats 2000000 in
theorem toPersonS_any {z : Bool} {lo hi : Nat} (w : World) (v : Value) (xs : List Per) (h : Rd z lo hi w [v] xs) (hl : xs.length ≤ 1048576) :
    Calls Try.prog 31 #[v] w (PostOw w xs) := by
  obtain ⟨ao, n, cap, rfl, rfl, hnc, hcm, hnone⟩ := h.shape
  unfold maxLen at *
  go_enter Try.func31, Try.ntmps31
  go_wp2_with (at_make; refine wpList_mk (α := Per) rfl rfl slPerson (y0 := (ByteArray.empty, 0, 0, 0, 0, 0)) (fun _ => repPer_mk (by simp [maxLen]) (by unfold I64; omega) (by unfold I64; omega) (by unfold I64; omega) (by unfold I64; omega) (by unfold I64; omega)) rfl rfl rfl rfl (by omega) (by unfold maxLen; omega) ?_; intro w1 how hb1 hlt)
  go_loopw [4] (fun i wr => ∃ k : Nat, k ≤ xs.length ∧ i = .int .i64 k ∧ Ow w.heap.size (w.heap.size + 1) wr [.slice (some ⟨w.heap.size, 0, none⟩) xs.length xs.length] (xs.take k ++ List.replicate (xs.length - k) (ByteArray.empty, 0, 0, 0, 0, 0)) ∧ Below w.heap.size w wr) (fun i _ => xs.length - (intOf i).toNat)
  case atStart => exact ⟨0, Nat.zero_le _, rfl, by simpa using how, hb1⟩
  case round =>
    rename_i wr
    obtain ⟨k, hk, rfl, how', hb⟩ := hrel
    have sW := hb.size
    clear how hb1 hlt
    by_cases hlt : k < xs.length
    · obtain ⟨b, off, nm, sx, fa, mo, bo, di, rfl, hx, p0, p1, p2, p3, p4, p5, g0, g1, g2, g3, g4, g5, -, -, hbl, -⟩ := (h.below hb).per_at hlt
      go_wp2_with fail
      refine (toPerson_any _ nm sx fa mo bo di).mono ?_
      rintro e w2 ⟨rfl, hb2⟩
      have how2 := how'.below hb2
      have hB2 : Below w.heap.size w w2 := Below.after hb hb2 sW
      obtain ⟨_, _, nm0, sx0, fa0, mo0, bo0, di0, ee, -, q0, q1, q2, q3, q4, q5, -, -, -, -, -, -, -, -, hbl2, hf2⟩ := how2.rd.per_at hlt
      simp only [Option.some.injEq, Addr.mk.injEq, and_true] at ee
      obtain ⟨rfl, rfl⟩ := ee
      have hf2 := hf2 rfl
      have hset := how2.per_put hlt g0 g1 g2 g3 g4 g5
      rw [take_rep_snoc hx.out] at hset
      simp only [Nat.zero_add] at hset q0 q1 q2 q3 q4 q5
      have HS := Lib.hid hset
      have hI : (k : Int) < (xs.length : Int) := by omega
      clear hset how2 how' h hx p0 p1 p2 p3 p4 p5 hb2
      go_wp2
      go_roundw
      case rel => exact ⟨k + 1, by omega, by go_num, HS.out, bwT⟩
      case measure => simp [intOf]; omega
    · have e : k = xs.length := by omega
      subst e
      have HS := Lib.hid how'.top
      clear how' h
      go_wp2
      go_ret
      exact ⟨_, rfl, by simpa using HS.out, hb⟩
end Go.Proofs.Ytiingmngeiakgaa
