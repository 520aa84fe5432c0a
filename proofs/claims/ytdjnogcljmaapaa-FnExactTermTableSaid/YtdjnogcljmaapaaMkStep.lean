/- Contracts of the laws' marks on the type Step. Written by markgen.py. -/
import Derived.Test.YtdjnogcljmaapaaTyStep
import Derived.Test.YtdjnogcljmaapaaMarkT
namespace Go.Proofs.Ytdjnogcljmaapaa
set_option linter.unusedVariables false
set_option linter.unusedSimpArgs false
open Go.RowKit

def mkStp (q : Int) : Stp := (q, q + 1)
def marksStp (k : Int) (n : Nat) : List Stp := (List.range n).map fun i => mkStp (k + 2 * (i : Nat))
theorem marksStp_len (k : Int) (n : Nat) : (marksStp k n).length = n := by simp [marksStp]
theorem marksStp_at {k : Int} {n i : Nat} {x : Stp} (h : (marksStp k n)[i]? = some x) : x = mkStp (k + 2 * (i : Nat)) := by
  simp only [marksStp, List.getElem?_map, List.getElem?_range, Option.map_eq_some_iff] at h
  obtain ⟨a, ha, rfl⟩ := h
  have : a = i := by
    rw [List.getElem?_eq_some_iff] at ha
    obtain ⟨_, ha⟩ := ha
    simpa using ha.symm
  rw [this]
theorem marksStp_step {k : Int} {xs : List Stp} {i : Nat} {x : Stp} (hx : xs[i]? = some x) : (marksStp k i ++ xs.drop i).set i (mkStp (k + 2 * (i : Nat))) = marksStp k (i + 1) ++ xs.drop (i + 1) := by
  rw [drop_cons hx, List.set_append_right _ _ (by simp [marksStp_len])]
  simp [marksStp, List.range_succ]
theorem rep_stp_at {z : Bool} {w : World} {ao : Option Addr} {n cap : Nat} {xs : List Stp} {fp : List Nat} (h : Rep.rep z w [.slice ao n cap] xs fp) {i : Nat} (hi' : i < n) :
    ∃ (b off : Nat) (ki : Int) (ag : Int), ao = some ⟨b, off, none⟩ ∧ Hid (xs[i]? = some (ki, ag)) ∧ w.cell? ⟨b, off + i * 2, none⟩ = some (.int .i64 ki) ∧ w.cell? ⟨b, off + i * 2 + 1, none⟩ = some (.int .i64 ag) ∧ I64 ki ∧ I64 ag ∧ Hid (b ∈ fp) ∧ b < w.heap.size ∧ (z = true → ∀ o, w.frozen? ⟨b, o, none⟩ = false) := by
  obtain ⟨b, off, ⟨ki, ag⟩, cs, f, e, hx, hr, _, m1, m2, m3, hc, hf⟩ := rep_at h hi'
  obtain ⟨rfl, h0, h1, -⟩ := repStp_inv hr
  refine ⟨b, off, ki, ag, e, hx, ?_, ?_, h0, h1, m1, m3, hf⟩
  · have := hc 0 (.int .i64 ki) rfl; simpa [Rep.sz, Nat.add_assoc] using this
  · have := hc 1 (.int .i64 ag) rfl; simpa [Rep.sz, Nat.add_assoc] using this
theorem rep_stp_put {w : World} {xs : List Stp} {b off n cap : Nat} {fp : List Nat} (h : Rep.rep true w [.slice (some ⟨b, off, none⟩) n cap] xs fp) {i : Nat} (hi' : i < n) {ki : Int} {ag : Int} (h0 : I64 ki) (h1 : I64 ag) :
    Rep.rep true ((w.setCell ⟨b, off + i * 2, none⟩ (.int .i64 ki)).setCell ⟨b, off + i * 2 + 1, none⟩ (.int .i64 ag)) [.slice (some ⟨b, off, none⟩) n cap] (xs.set i (ki, ag)) fp := by
  obtain ⟨b', off', ki0, ag0, e, hx, -, -, g0, g1, -, -, -⟩ := rep_stp_at h hi'
  have hx := hx.out
  have hl : i < xs.length := (List.getElem?_eq_some_iff.1 hx).1
  have s1 := rep_setc h (i := i) (j := 0) (x := (ki0, ag0)) (y := (ki, ag0)) (u := .int .i64 ki) (w' := w) hx (repStp_mk g0 g1) (by show 0 < 2; omega) (repStp_mk h0 g1)
  have e1 : (xs.set i (ki, ag0))[i]? = some (ki, ag0) := by simp [hl]
  have s2 := rep_setc s1 (i := i) (j := 1) (x := (ki, ag0)) (y := (ki, ag)) (u := .int .i64 ag) (w' := w) e1 (repStp_mk h0 g1) (by show 1 < 2; omega) (repStp_mk h0 h1)
  rw [List.set_set] at s2
  have e2 : (xs.set i (ki, ag))[i]? = some (ki, ag) := by simp [hl]
  simpa [Rep.sz, Nat.add_assoc] using s2

set_option maxRecDepth 20000 in
set_option maxHeartbeats 2000000 in
theorem markStepS_any (w : World) (v : Value) (xs : List Stp) (fp : List Nat) (h : Rep.rep true w [v] xs fp) (k : Int) (hk0 : 0 ≤ k) (hk1 : k + 2 * xs.length ≤ 4611686018427387904) :
    Calls Try.prog 83 #[v, .int .i64 k] w (PostMark fp w [v] (marksStp k xs.length) (k + 2 * xs.length)) := by
  have hR : Rd true 0 w.heap.size w [v] xs := ⟨fp, h, fun b hb => ⟨Nat.zero_le _, Rep.lt h b hb⟩⟩
  obtain ⟨ao, n, cap, rfl, rfl, hnc, hcm, hnone⟩ := hR.shape
  clear hR
  unfold maxLen at *
  go_enter Try.func83, Try.ntmps83
  go_wp2
  go_loopw [1, 5] (fun s1 s5 wr => ∃ (j : Nat) (q : Int), j ≤ xs.length ∧ s5 = .int .i64 j ∧ s1 = .int .i64 q ∧ Hid (q = k + 2 * j) ∧ Rep.rep true wr [.slice ao xs.length cap] (marksStp k j ++ xs.drop j) fp ∧ OffF fp w wr) (fun _ s5 _ => xs.length - (intOf s5).toNat)
  case atStart => exact ⟨0, k, Nat.zero_le _, rfl, rfl, Lib.hid (by simp), by simpa [marksStp] using h, OffF.refl _ _⟩
  case round =>
    rename_i wr
    obtain ⟨j, q, hj, rfl, rfl, hq, hr, ho⟩ := hrel
    clear h
    by_cases hlt : j < xs.length
    · have hI : (j : Int) < (xs.length : Int) := by omega
      have hq0 : 0 ≤ q := by have := hq.out; omega
      have hq1 : q + 2 ≤ 4611686018427387904 := by have := hq.out; omega
      obtain ⟨b, off, ki0, ag0, rfl, hx, p0, p1, -, -, hm, hb, hf⟩ := rep_stp_at hr hlt
      have hx' := hx.out
      have hx0 : xs[j]? = some (ki0, ag0) := by
        rw [List.getElem?_append_right (by simp [marksStp_len]), marksStp_len, List.getElem?_drop] at hx'
        simpa using hx'
      have hset := rep_stp_put hr hlt (ki := (q)) (ag := (q + 1)) (by unfold I64; omega) (by unfold I64; omega)
      rw [show (((q), (q + 1)) : Stp) = mkStp (k + 2 * (j : Nat)) by rw [← hq.out]; simp only [mkStp, Int.add_assoc] <;> rfl, marksStp_step hx0] at hset
      have HS := Lib.hid hset
      have HQ := Lib.hid (show q + 2 = k + 2 * ((j + 1 : Nat) : Int) by have := hq.out; omega)
      have HB := Lib.hid ((ho.setCell (p := ⟨b, off + j * 2, none⟩) hm.out (.int .i64 (q))).setCell (p := ⟨b, off + j * 2 + 1, none⟩) hm.out (.int .i64 (q + 1)))
      have hf := hf rfl
      clear hset hr hx' hx0 ho hx hm hq
      go_wp2
      go_roundw
      case rel => exact ⟨j + 1, q + 2, by omega, by go_num, by go_num, HQ, by simpa [Int.add_assoc] using HS.out, by simpa [Int.add_assoc] using HB.out⟩
      case measure => simp [intOf]; omega
    · have e : j = xs.length := by omega
      subst e
      have HS := Lib.hid hr
      have HQ := Lib.hid (show q = k + 2 * (xs.length : Nat) from hq.out)
      clear hr hq
      go_wp2
      go_ret
      exact ⟨ret_int HQ.out, by simpa using HS.out, ho⟩

set_option maxRecDepth 100000 in
set_option maxHeartbeats 2000000 in
theorem heldStepS_any {z : Bool} {lo hi : Nat} (w : World) (v : Value) (n : Nat) (k : Int) (h : Rd z lo hi w [v] (marksStp k n)) (hk0 : 0 ≤ k) (hk1 : k + 2 * n ≤ 4611686018427387904) :
    Calls Try.prog 90 #[v, .int .i64 k] w (PostI w (k + 2 * n)) := by
  obtain ⟨ao, n', cap, rfl, hl, hnc, hcm, hnone⟩ := h.shape
  rw [marksStp_len] at hl
  subst hl
  unfold maxLen at *
  go_enter Try.func90, Try.ntmps90
  go_wp2
  go_loopw [1, 5] (fun s1 s5 wr => ∃ (j : Nat) (q : Int), j ≤ n ∧ s5 = .int .i64 j ∧ s1 = .int .i64 q ∧ Hid (q = k + 2 * j) ∧ Below w.heap.size w wr) (fun _ s5 _ => n - (intOf s5).toNat)
  case atStart => exact ⟨0, k, Nat.zero_le _, rfl, rfl, Lib.hid (by simp), Below.refl _ _⟩
  case round =>
    rename_i wr
    obtain ⟨j, q, hj, rfl, rfl, hq, hb⟩ := hrel
    have sW := hb.size
    by_cases hlt : j < n
    · have hI : (j : Int) < (n : Int) := by omega
      have hq0 : 0 ≤ q := by have := hq.out; omega
      have hq1 : q + 2 ≤ 4611686018427387904 := by have := hq.out; omega
      obtain ⟨b, off, ki0, ag0, rfl, hx, p0, p1, -, -, -, -, hbl, -⟩ := (h.below hb).stp_at hlt
      have hx' := (marksStp_at hx.out).symm
      rw [← hq.out, mkStp] at hx'
      simp only [Prod.mk.injEq, Int.add_assoc, Int.reduceAdd] at hx'
      obtain ⟨rfl, rfl⟩ := hx'
      have HQ := Lib.hid (show (q) + 2 = k + 2 * ((j + 1 : Nat) : Int) by have := hq.out; omega)
      clear hx hq h
      have e1 : ∀ x : Int, (x != x) = false := fun x => by simp
      go_wp2
      go_roundw
      case rel => exact ⟨j + 1, q + 2, by omega, by go_num, by go_num, HQ, hb⟩
      case measure => simp [intOf]; omega
    · have e : j = n := by omega
      subst e
      have HQ := Lib.hid (show q = k + 2 * (j : Nat) from hq.out)
      clear h hq
      go_wp2
      go_ret
      exact ⟨ret_int HQ.out, hb⟩
end Go.Proofs.Ytdjnogcljmaapaa
