/- Contracts of the laws' helpers on the type Union. Written by tygen.py. -/
import Derived.Test.YtiingmngeiakgaaFam
import Derived.Test.YtiingmngeiakgaaInts
namespace Go.Proofs.Ytiingmngeiakgaa
set_option linter.unusedVariables false
set_option linter.unusedSimpArgs false
open Go.RowKit

theorem slUnion : SlTy Try.prog 30 75 (.agg #[.int .i64 0, .int .i64 0, .int .i64 0, .int .i64 0]) 4 32 := SlTy.of Try.underlying30 (by kernel_rfl) rfl
theorem repUni_inv {z : Bool} {w : World} {cs : List Value} {ma : Int} {wo : Int} {fr : Int} {tl : Int} {fp : List Nat} (h : Rep.rep z w cs ((ma, wo, fr, tl) : Uni) fp) : cs = [.int .i64 ma, .int .i64 wo, .int .i64 fr, .int .i64 tl] ∧ I64 ma ∧ I64 wo ∧ I64 fr ∧ I64 tl ∧ fp = [] := by
  obtain ⟨_, _, _, _, rfl, rfl, ⟨rfl, h0, rfl⟩, _, _, _, _, rfl, rfl, ⟨rfl, h1, rfl⟩, _, _, _, _, rfl, rfl, ⟨rfl, h2, rfl⟩, ⟨rfl, h3, rfl⟩⟩ := h
  exact ⟨rfl, h0, h1, h2, h3, rfl⟩
theorem repUni_mk {z : Bool} {w : World} {ma : Int} {wo : Int} {fr : Int} {tl : Int} (h0 : I64 ma) (h1 : I64 wo) (h2 : I64 fr) (h3 : I64 tl) : Rep.rep z w [.int .i64 ma, .int .i64 wo, .int .i64 fr, .int .i64 tl] ((ma, wo, fr, tl) : Uni) [] :=
  ⟨[_], _, [], [], rfl, rfl, ⟨rfl, h0, rfl⟩, ⟨[_], _, [], [], rfl, rfl, ⟨rfl, h1, rfl⟩, ⟨[_], _, [], [], rfl, rfl, ⟨rfl, h2, rfl⟩, ⟨rfl, h3, rfl⟩⟩⟩⟩
theorem Rd.uni_at {z : Bool} {lo hi : Nat} {w : World} {xs : List Uni} {ao : Option Addr} {n cap : Nat} (h : Rd z lo hi w [.slice ao n cap] xs) {i : Nat} (hi' : i < n) :
    ∃ (b off : Nat) (ma : Int) (wo : Int) (fr : Int) (tl : Int), ao = some ⟨b, off, none⟩ ∧ Hid (xs[i]? = some (ma, wo, fr, tl)) ∧ w.cell? ⟨b, off + i * 4, none⟩ = some (.int .i64 ma) ∧ w.cell? ⟨b, off + i * 4 + 1, none⟩ = some (.int .i64 wo) ∧ w.cell? ⟨b, off + i * 4 + 2, none⟩ = some (.int .i64 fr) ∧ w.cell? ⟨b, off + i * 4 + 3, none⟩ = some (.int .i64 tl) ∧ I64 ma ∧ I64 wo ∧ I64 fr ∧ I64 tl ∧ lo ≤ b ∧ b < hi ∧ b < w.heap.size ∧ (z = true → ∀ o, w.frozen? ⟨b, o, none⟩ = false) := by
  obtain ⟨b, off, ⟨ma, wo, fr, tl⟩, cs, e, hx, ⟨fp, hr, _⟩, _, g1, g2, g3, hc, hf⟩ := h.at hi'
  obtain ⟨rfl, h0, h1, h2, h3, -⟩ := repUni_inv hr
  refine ⟨b, off, ma, wo, fr, tl, e, hx, ?_, ?_, ?_, ?_, h0, h1, h2, h3, g1, g2, g3, hf⟩
  · have := hc 0 (.int .i64 ma) rfl; simpa [Rep.sz, Nat.add_assoc] using this
  · have := hc 1 (.int .i64 wo) rfl; simpa [Rep.sz, Nat.add_assoc] using this
  · have := hc 2 (.int .i64 fr) rfl; simpa [Rep.sz, Nat.add_assoc] using this
  · have := hc 3 (.int .i64 tl) rfl; simpa [Rep.sz, Nat.add_assoc] using this

set_option maxHeartbeats 1000000 in
theorem eqUnion_b (w : World) (ma : Int) (wo : Int) (fr : Int) (tl : Int) (ma2 : Int) (wo2 : Int) (fr2 : Int) (tl2 : Int) (r : Bool) (hr : r = decide (((ma, wo, fr, tl) : Uni) = (ma2, wo2, fr2, tl2))) :
    Calls Try.prog 62 #[.agg #[.int .i64 ma, .int .i64 wo, .int .i64 fr, .int .i64 tl], .agg #[.int .i64 ma2, .int .i64 wo2, .int .i64 fr2, .int .i64 tl2]] w (PostB w r) := by
  obtain ⟨r0, hlet_r0⟩ : ∃ r, r = decide (ma = ma2) := ⟨_, rfl⟩
  have H0 := Lib.hid hlet_r0
  clear hlet_r0
  obtain ⟨r1, hlet_r1⟩ : ∃ r, r = decide (wo = wo2) := ⟨_, rfl⟩
  have H1 := Lib.hid hlet_r1
  clear hlet_r1
  obtain ⟨r2, hlet_r2⟩ : ∃ r, r = decide (fr = fr2) := ⟨_, rfl⟩
  have H2 := Lib.hid hlet_r2
  clear hlet_r2
  obtain ⟨r3, hlet_r3⟩ : ∃ r, r = decide (tl = tl2) := ⟨_, rfl⟩
  have H3 := Lib.hid hlet_r3
  clear hlet_r3
  have HR := Lib.hid (show r = (r0 && (r1 && (r2 && (r3)))) by rw [hr, H0.out, H1.out, H2.out, H3.out]; simp [Prod.mk.injEq])
  clear hr
  cases r0
  · have q0 : (ma != ma2) = true := by have := H0.out; simp at this ⊢; exact this
    go_enter Try.func62, Try.ntmps62
    go_wp2
    go_ret
    exact ⟨ret_bool (by rw [HR.out]; rfl), bwT⟩
  have q0 : (ma != ma2) = false := by have := H0.out; simp at this ⊢; exact this
  cases r1
  · have q1 : (wo != wo2) = true := by have := H1.out; simp at this ⊢; exact this
    go_enter Try.func62, Try.ntmps62
    go_wp2
    go_ret
    exact ⟨ret_bool (by rw [HR.out]; rfl), bwT⟩
  have q1 : (wo != wo2) = false := by have := H1.out; simp at this ⊢; exact this
  cases r2
  · have q2 : (fr != fr2) = true := by have := H2.out; simp at this ⊢; exact this
    go_enter Try.func62, Try.ntmps62
    go_wp2
    go_ret
    exact ⟨ret_bool (by rw [HR.out]; rfl), bwT⟩
  have q2 : (fr != fr2) = false := by have := H2.out; simp at this ⊢; exact this
  cases r3
  · have q3 : (tl != tl2) = true := by have := H3.out; simp at this ⊢; exact this
    go_enter Try.func62, Try.ntmps62
    go_wp2
    go_ret
    exact ⟨ret_bool (by rw [HR.out]; rfl), bwT⟩
  have q3 : (tl != tl2) = false := by have := H3.out; simp at this ⊢; exact this
  go_enter Try.func62, Try.ntmps62
  go_wp2
  go_ret
  exact ⟨ret_bool (by rw [HR.out]; rfl), bwT⟩
set_option maxHeartbeats 1000000 in
theorem toUnion_any (w : World) (ma : Int) (wo : Int) (fr : Int) (tl : Int) :
    Calls Try.prog 55 #[.agg #[.int .i64 ma, .int .i64 wo, .int .i64 fr, .int .i64 tl]] w (PostV w (.agg #[.int .i64 ma, .int .i64 wo, .int .i64 fr, .int .i64 tl])) := by
  go_enter Try.func55, Try.ntmps55
  go_wp2
  exact bodyPost_ret (v := .agg #[.int .i64 ma, .int .i64 wo, .int .i64 fr, .int .i64 tl]) (by simp [results, go_sem]) rfl ⟨rfl, bwT⟩
theorem Ow.uni_put {lo hi : Nat} {w : World} {xs : List Uni} {b off n cap : Nat} (h : Ow lo hi w [.slice (some ⟨b, off, none⟩) n cap] xs) {i : Nat} (hi' : i < n) {ma : Int} {wo : Int} {fr : Int} {tl : Int} (h0 : I64 ma) (h1 : I64 wo) (h2 : I64 fr) (h3 : I64 tl) :
    Ow lo hi ((((w.setCell ⟨b, off + i * 4, none⟩ (.int .i64 ma)).setCell ⟨b, off + i * 4 + 1, none⟩ (.int .i64 wo)).setCell ⟨b, off + i * 4 + 2, none⟩ (.int .i64 fr)).setCell ⟨b, off + i * 4 + 3, none⟩ (.int .i64 tl)) [.slice (some ⟨b, off, none⟩) n cap] (xs.set i (ma, wo, fr, tl)) := by
  obtain ⟨b', off', ma0, wo0, fr0, tl0, e, hx, -, -, -, -, g0, g1, g2, g3, -, -, -, -⟩ := h.rd.uni_at hi'
  have hx := hx.out
  have hl : i < xs.length := (List.getElem?_eq_some_iff.1 hx).1
  have s1 := Ow.setc h (i := i) (j := 0) (x := (ma0, wo0, fr0, tl0)) (y := (ma, wo0, fr0, tl0)) (u := .int .i64 ma) (w' := w) hx (repUni_mk g0 g1 g2 g3) (by show 0 < 4; omega) (repUni_mk h0 g1 g2 g3)
  have e1 : (xs.set i (ma, wo0, fr0, tl0))[i]? = some (ma, wo0, fr0, tl0) := by simp [hl]
  have s2 := Ow.setc s1 (i := i) (j := 1) (x := (ma, wo0, fr0, tl0)) (y := (ma, wo, fr0, tl0)) (u := .int .i64 wo) (w' := w) e1 (repUni_mk h0 g1 g2 g3) (by show 1 < 4; omega) (repUni_mk h0 h1 g2 g3)
  rw [List.set_set] at s2
  have e2 : (xs.set i (ma, wo, fr0, tl0))[i]? = some (ma, wo, fr0, tl0) := by simp [hl]
  have s3 := Ow.setc s2 (i := i) (j := 2) (x := (ma, wo, fr0, tl0)) (y := (ma, wo, fr, tl0)) (u := .int .i64 fr) (w' := w) e2 (repUni_mk h0 h1 g2 g3) (by show 2 < 4; omega) (repUni_mk h0 h1 h2 g3)
  rw [List.set_set] at s3
  have e3 : (xs.set i (ma, wo, fr, tl0))[i]? = some (ma, wo, fr, tl0) := by simp [hl]
  have s4 := Ow.setc s3 (i := i) (j := 3) (x := (ma, wo, fr, tl0)) (y := (ma, wo, fr, tl)) (u := .int .i64 tl) (w' := w) e3 (repUni_mk h0 h1 h2 g3) (by show 3 < 4; omega) (repUni_mk h0 h1 h2 h3)
  rw [List.set_set] at s4
  have e4 : (xs.set i (ma, wo, fr, tl))[i]? = some (ma, wo, fr, tl) := by simp [hl]
  simpa [Rep.sz, Nat.add_assoc] using s4

set_option maxRecDepth 20000 in
set_option maxHeartbeats 2000000 in
theorem eqUnionS_b {z z' : Bool} {lo hi lo' hi' : Nat} (w : World) (u v : Value) (xs ys : List Uni) (h : Rd z lo hi w [u] xs) (h' : Rd z' lo' hi' w [v] ys) (r : Bool) (hr : r = decide (xs = ys)) :
    Calls Try.prog 37 #[u, v] w (PostB w r) := by
  subst hr
  obtain ⟨ao, n, cap, rfl, rfl, hnc, hcm, hnone⟩ := h.shape
  obtain ⟨ao', n', cap', rfl, rfl, hnc', hcm', hnone'⟩ := h'.shape
  unfold maxLen at *
  by_cases hl : xs.length = ys.length
  · have HL := Lib.hid hl
    have hl1 : ¬ xs.length < ys.length := by omega
    have hl2 : ¬ ys.length < xs.length := by omega
    have hbne : (((xs.length : Int)) != (ys.length : Int)) = false := by simp [hl]
    clear hl
    go_enter Try.func37, Try.ntmps37
    go_wp2
    go_loopw [5] (fun i wr => ∃ k : Nat, k ≤ xs.length ∧ i = .int .i64 k ∧ Hid (xs.take k = ys.take k) ∧ Below w.heap.size w wr) (fun i _ => xs.length - (intOf i).toNat)
    case atStart => exact ⟨0, Nat.zero_le _, rfl, rfl, Below.refl _ _⟩
    case round =>
      rename_i wr
      obtain ⟨k, hk, rfl, ht, hb⟩ := hrel
      have sW := hb.size
      by_cases hlt : k < xs.length
      · obtain ⟨b, off, ma, wo, fr, tl, rfl, hx, p0, p1, p2, p3, -, -, -, -, -, -, hbl, -⟩ := (h.below hb).uni_at hlt
        obtain ⟨b2, off2, ma2, wo2, fr2, tl2, rfl, hy, q0, q1, q2, q3, -, -, -, -, -, -, hbl2, -⟩ := (h'.below hb).uni_at (show k < ys.length by omega)
        have hlt' : k < ys.length := by omega
        have hI : (k : Int) < (xs.length : Int) := by omega
        have hI' : (k : Int) < (ys.length : Int) := by omega
        clear h h'
        obtain ⟨r1, hlet_r1⟩ : ∃ r, r = decide (((ma, wo, fr, tl) : Uni) = (ma2, wo2, fr2, tl2)) := ⟨_, rfl⟩
        have H1 := Lib.hid hlet_r1
        clear hlet_r1
        have HT := Lib.hid (show r1 = true → xs.take (k + 1) = ys.take (k + 1) by
          intro e
          have e2 := of_decide_eq_true (H1.out.symm.trans e)
          rw [take_snoc hx.out, take_snoc hy.out, ht.out, e2])
        have HF := Lib.hid (show r1 = false → decide (xs = ys) = false by
          intro e
          have e2 := of_decide_eq_false (H1.out.symm.trans e)
          rw [decide_eq_false_iff_not]
          intro e3; subst e3
          have := hx.out.symm.trans hy.out
          exact e2 (Option.some.inj this))
        clear ht hx hy
        go_upto_region 6 with fail
        go_region_held3 (fun w' => w'.cell? ⟨b, off + k * 4, none⟩ = some (.int .i64 ma) ∧ w'.cell? ⟨b, off + k * 4 + 1, none⟩ = some (.int .i64 wo) ∧ w'.cell? ⟨b, off + k * 4 + 2, none⟩ = some (.int .i64 fr) ∧ w'.cell? ⟨b, off + k * 4 + 3, none⟩ = some (.int .i64 tl) ∧ w'.cell? ⟨b2, off2 + k * 4, none⟩ = some (.int .i64 ma2) ∧ w'.cell? ⟨b2, off2 + k * 4 + 1, none⟩ = some (.int .i64 wo2) ∧ w'.cell? ⟨b2, off2 + k * 4 + 2, none⟩ = some (.int .i64 fr2) ∧ w'.cell? ⟨b2, off2 + k * 4 + 3, none⟩ = some (.int .i64 tl2)) (go_keep) (first | (go_at_call 62; refine (eqUnion_b _ ma wo fr tl ma2 wo2 fr2 tl2 r1 H1.out).mono ?_; rintro e w1 ⟨rfl, hb1⟩; have hB1 : Below w.heap.size w w1 := Below.after bwT hb1 (by first | omega | (simp; omega) | simp); obtain ⟨hc1, hf1⟩ := bcell hb1; (try simp only [World.size_alloc, World.size_drew] at hc1 hf1)))
        cases r1
        · go_wp2
          go_ret
          exact ⟨ret_bool (HF.out (by trivial)).symm, hB1⟩
        · have HT2 := Lib.hid (HT.out (by trivial))
          go_wp2
          go_roundw
          case rel => exact ⟨k + 1, by omega, by go_num, HT2, hB1⟩
          case measure => simp [intOf]; omega
      · have HF : Hid (decide (xs = ys) = true) := by
          have e := ht.out
          rw [List.take_of_length_le (by omega), List.take_of_length_le (by omega)] at e
          exact decide_eq_true e
        clear h h' ht
        go_wp2
        go_ret
        exact ⟨ret_bool HF.out.symm, hb⟩
  · have HF : Hid (decide (xs = ys) = false) := by
      simp only [decide_eq_false_iff_not]
      intro e; subst e; exact hl rfl
    have hbne : (((xs.length : Int)) != (ys.length : Int)) = true := by simp; omega
    clear hl h h'
    go_enter Try.func37, Try.ntmps37
    go_wp2
    go_ret
    exact ⟨ret_bool HF.out.symm, Below.refl _ _⟩

set_option maxRecDepth 20000 in
set_option maxHeartbeats 2000000 in
theorem toUnionS_any {z : Bool} {lo hi : Nat} (w : World) (v : Value) (xs : List Uni) (h : Rd z lo hi w [v] xs) (hl : xs.length ≤ 1048576) :
    Calls Try.prog 32 #[v] w (PostOw w xs) := by
  obtain ⟨ao, n, cap, rfl, rfl, hnc, hcm, hnone⟩ := h.shape
  unfold maxLen at *
  go_enter Try.func32, Try.ntmps32
  go_wp2_with (at_make; refine wpList_mk (α := Uni) rfl rfl slUnion (y0 := (0, 0, 0, 0)) (fun _ => repUni_mk (by unfold I64; omega) (by unfold I64; omega) (by unfold I64; omega) (by unfold I64; omega)) rfl rfl rfl rfl (by omega) (by unfold maxLen; omega) ?_; intro w1 how hb1 hlt)
  go_loopw [4] (fun i wr => ∃ k : Nat, k ≤ xs.length ∧ i = .int .i64 k ∧ Ow w.heap.size (w.heap.size + 1) wr [.slice (some ⟨w.heap.size, 0, none⟩) xs.length xs.length] (xs.take k ++ List.replicate (xs.length - k) (0, 0, 0, 0)) ∧ Below w.heap.size w wr) (fun i _ => xs.length - (intOf i).toNat)
  case atStart => exact ⟨0, Nat.zero_le _, rfl, by simpa using how, hb1⟩
  case round =>
    rename_i wr
    obtain ⟨k, hk, rfl, how', hb⟩ := hrel
    have sW := hb.size
    clear how hb1 hlt
    by_cases hlt : k < xs.length
    · obtain ⟨b, off, ma, wo, fr, tl, rfl, hx, p0, p1, p2, p3, g0, g1, g2, g3, -, -, hbl, -⟩ := (h.below hb).uni_at hlt
      go_wp2_with fail
      refine (toUnion_any _ ma wo fr tl).mono ?_
      rintro e w2 ⟨rfl, hb2⟩
      have how2 := how'.below hb2
      have hB2 : Below w.heap.size w w2 := Below.after hb hb2 sW
      obtain ⟨_, _, ma0, wo0, fr0, tl0, ee, -, q0, q1, q2, q3, -, -, -, -, -, -, hbl2, hf2⟩ := how2.rd.uni_at hlt
      simp only [Option.some.injEq, Addr.mk.injEq, and_true] at ee
      obtain ⟨rfl, rfl⟩ := ee
      have hf2 := hf2 rfl
      have hset := how2.uni_put hlt g0 g1 g2 g3
      rw [take_rep_snoc hx.out] at hset
      simp only [Nat.zero_add] at hset q0 q1 q2 q3
      have HS := Lib.hid hset
      have hI : (k : Int) < (xs.length : Int) := by omega
      clear hset how2 how' h hx p0 p1 p2 p3 hb2
      go_wp2
      go_roundw
      case rel => exact ⟨k + 1, by omega, by go_num, HS.out, bwT⟩
      case measure => simp [intOf]; omega
    · have e : k = xs.length := by omega
      subst e
      have HS := Lib.hid how'.top
      clear how' h
      go_wp2
      go_ret
      exact ⟨_, rfl, by simpa using HS.out, hb⟩
end Go.Proofs.Ytiingmngeiakgaa
