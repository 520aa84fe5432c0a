/- Contracts of the laws' marks on the type Union. Written by markgen.py. -/
import Derived.Test.YtiingmngeiakgaaTyUnion
namespace Go.Proofs.Ytiingmngeiakgaa
set_option linter.unusedVariables false
set_option linter.unusedSimpArgs false
open Go.RowKit

def mkUni (q : Int) : Uni := (q, q + 1, q + 1 + 1, q + 1 + 1 + 1)
def marksUni (k : Int) (n : Nat) : List Uni := (List.range n).map fun i => mkUni (k + 4 * (i : Nat))
theorem marksUni_len (k : Int) (n : Nat) : (marksUni k n).length = n := by simp [marksUni]
theorem marksUni_at {k : Int} {n i : Nat} {x : Uni} (h : (marksUni k n)[i]? = some x) : x = mkUni (k + 4 * (i : Nat)) := by
  simp only [marksUni, List.getElem?_map, List.getElem?_range, Option.map_eq_some_iff] at h
  obtain ⟨a, ha, rfl⟩ := h
  have : a = i := by
    rw [List.getElem?_eq_some_iff] at ha
    obtain ⟨_, ha⟩ := ha
    simpa using ha.symm
  rw [this]
theorem marksUni_step {k : Int} {xs : List Uni} {i : Nat} {x : Uni} (hx : xs[i]? = some x) : (marksUni k i ++ xs.drop i).set i (mkUni (k + 4 * (i : Nat))) = marksUni k (i + 1) ++ xs.drop (i + 1) := by
  rw [drop_cons hx, List.set_append_right _ _ (by simp [marksUni_len])]
  simp [marksUni, List.range_succ]
theorem rep_uni_at {z : Bool} {w : World} {ao : Option Addr} {n cap : Nat} {xs : List Uni} {fp : List Nat} (h : Rep.rep z w [.slice ao n cap] xs fp) {i : Nat} (hi' : i < n) :
    ∃ (b off : Nat) (ma : Int) (wo : Int) (fr : Int) (tl : Int), ao = some ⟨b, off, none⟩ ∧ Hid (xs[i]? = some (ma, wo, fr, tl)) ∧ w.cell? ⟨b, off + i * 4, none⟩ = some (.int .i64 ma) ∧ w.cell? ⟨b, off + i * 4 + 1, none⟩ = some (.int .i64 wo) ∧ w.cell? ⟨b, off + i * 4 + 2, none⟩ = some (.int .i64 fr) ∧ w.cell? ⟨b, off + i * 4 + 3, none⟩ = some (.int .i64 tl) ∧ I64 ma ∧ I64 wo ∧ I64 fr ∧ I64 tl ∧ Hid (b ∈ fp) ∧ b < w.heap.size ∧ (z = true → ∀ o, w.frozen? ⟨b, o, none⟩ = false) := by
  obtain ⟨b, off, ⟨ma, wo, fr, tl⟩, cs, f, e, hx, hr, _, m1, m2, m3, hc, hf⟩ := rep_at h hi'
  obtain ⟨rfl, h0, h1, h2, h3, -⟩ := repUni_inv hr
  refine ⟨b, off, ma, wo, fr, tl, e, hx, ?_, ?_, ?_, ?_, h0, h1, h2, h3, m1, m3, hf⟩
  · have := hc 0 (.int .i64 ma) rfl; simpa [Rep.sz, Nat.add_assoc] using this
  · have := hc 1 (.int .i64 wo) rfl; simpa [Rep.sz, Nat.add_assoc] using this
  · have := hc 2 (.int .i64 fr) rfl; simpa [Rep.sz, Nat.add_assoc] using this
  · have := hc 3 (.int .i64 tl) rfl; simpa [Rep.sz, Nat.add_assoc] using this
theorem rep_uni_put {w : World} {xs : List Uni} {b off n cap : Nat} {fp : List Nat} (h : Rep.rep true w [.slice (some ⟨b, off, none⟩) n cap] xs fp) {i : Nat} (hi' : i < n) {ma : Int} {wo : Int} {fr : Int} {tl : Int} (h0 : I64 ma) (h1 : I64 wo) (h2 : I64 fr) (h3 : I64 tl) :
    Rep.rep true ((((w.setCell ⟨b, off + i * 4, none⟩ (.int .i64 ma)).setCell ⟨b, off + i * 4 + 1, none⟩ (.int .i64 wo)).setCell ⟨b, off + i * 4 + 2, none⟩ (.int .i64 fr)).setCell ⟨b, off + i * 4 + 3, none⟩ (.int .i64 tl)) [.slice (some ⟨b, off, none⟩) n cap] (xs.set i (ma, wo, fr, tl)) fp := by
  obtain ⟨b', off', ma0, wo0, fr0, tl0, e, hx, -, -, -, -, g0, g1, g2, g3, -, -, -⟩ := rep_uni_at h hi'
  have hx := hx.out
  have hl : i < xs.length := (List.getElem?_eq_some_iff.1 hx).1
  have s1 := rep_setc h (i := i) (j := 0) (x := (ma0, wo0, fr0, tl0)) (y := (ma, wo0, fr0, tl0)) (u := .int .i64 ma) (w' := w) hx (repUni_mk g0 g1 g2 g3) (by show 0 < 4; omega) (repUni_mk h0 g1 g2 g3)
  have e1 : (xs.set i (ma, wo0, fr0, tl0))[i]? = some (ma, wo0, fr0, tl0) := by simp [hl]
  have s2 := rep_setc s1 (i := i) (j := 1) (x := (ma, wo0, fr0, tl0)) (y := (ma, wo, fr0, tl0)) (u := .int .i64 wo) (w' := w) e1 (repUni_mk h0 g1 g2 g3) (by show 1 < 4; omega) (repUni_mk h0 h1 g2 g3)
  rw [List.set_set] at s2
  have e2 : (xs.set i (ma, wo, fr0, tl0))[i]? = some (ma, wo, fr0, tl0) := by simp [hl]
  have s3 := rep_setc s2 (i := i) (j := 2) (x := (ma, wo, fr0, tl0)) (y := (ma, wo, fr, tl0)) (u := .int .i64 fr) (w' := w) e2 (repUni_mk h0 h1 g2 g3) (by show 2 < 4; omega) (repUni_mk h0 h1 h2 g3)
  rw [List.set_set] at s3
  have e3 : (xs.set i (ma, wo, fr, tl0))[i]? = some (ma, wo, fr, tl0) := by simp [hl]
  have s4 := rep_setc s3 (i := i) (j := 3) (x := (ma, wo, fr, tl0)) (y := (ma, wo, fr, tl)) (u := .int .i64 tl) (w' := w) e3 (repUni_mk h0 h1 h2 g3) (by show 3 < 4; omega) (repUni_mk h0 h1 h2 h3)
  rw [List.set_set] at s4
  have e4 : (xs.set i (ma, wo, fr, tl))[i]? = some (ma, wo, fr, tl) := by simp [hl]
  simpa [Rep.sz, Nat.add_assoc] using s4

set_option maxRecDepth 20000 in
set_option maxHeartbeats 2000000 in
theorem markUnionS_any (w : World) (v : Value) (xs : List Uni) (fp : List Nat) (h : Rep.rep true w [v] xs fp) (k : Int) (hk0 : 0 ≤ k) (hk1 : k + 4 * xs.length ≤ 4611686018427387904) :
    Calls Try.prog 39 #[v, .int .i64 k] w (PostMark fp w [v] (marksUni k xs.length) (k + 4 * xs.length)) := by
  have hR : Rd true 0 w.heap.size w [v] xs := ⟨fp, h, fun b hb => ⟨Nat.zero_le _, Rep.lt h b hb⟩⟩
  obtain ⟨ao, n, cap, rfl, rfl, hnc, hcm, hnone⟩ := hR.shape
  clear hR
  unfold maxLen at *
  go_enter Try.func39, Try.ntmps39
  go_wp2
  go_loopw [1, 5] (fun s1 s5 wr => ∃ (j : Nat) (q : Int), j ≤ xs.length ∧ s5 = .int .i64 j ∧ s1 = .int .i64 q ∧ Hid (q = k + 4 * j) ∧ Rep.rep true wr [.slice ao xs.length cap] (marksUni k j ++ xs.drop j) fp ∧ OffF fp w wr) (fun _ s5 _ => xs.length - (intOf s5).toNat)
  case atStart => exact ⟨0, k, Nat.zero_le _, rfl, rfl, Lib.hid (by simp), by simpa [marksUni] using h, OffF.refl _ _⟩
  case round =>
    rename_i wr
    obtain ⟨j, q, hj, rfl, rfl, hq, hr, ho⟩ := hrel
    clear h
    by_cases hlt : j < xs.length
    · have hI : (j : Int) < (xs.length : Int) := by omega
      have hq0 : 0 ≤ q := by have := hq.out; omega
      have hq1 : q + 4 ≤ 4611686018427387904 := by have := hq.out; omega
      obtain ⟨b, off, ma0, wo0, fr0, tl0, rfl, hx, p0, p1, p2, p3, -, -, -, -, hm, hb, hf⟩ := rep_uni_at hr hlt
      have hx' := hx.out
      have hx0 : xs[j]? = some (ma0, wo0, fr0, tl0) := by
        rw [List.getElem?_append_right (by simp [marksUni_len]), marksUni_len, List.getElem?_drop] at hx'
        simpa using hx'
      have hset := rep_uni_put hr hlt (ma := (q)) (wo := (q + 1)) (fr := (q + 2)) (tl := (q + 3)) (by unfold I64; omega) (by unfold I64; omega) (by unfold I64; omega) (by unfold I64; omega)
      rw [show (((q), (q + 1), (q + 2), (q + 3)) : Uni) = mkUni (k + 4 * (j : Nat)) by rw [← hq.out]; simp only [mkUni, Int.add_assoc]; rfl, marksUni_step hx0] at hset
      have HS := Lib.hid hset
      have HQ := Lib.hid (show q + 4 = k + 4 * ((j + 1 : Nat) : Int) by have := hq.out; omega)
      have HB := Lib.hid ((((ho.setCell (p := ⟨b, off + j * 4, none⟩) hm.out (.int .i64 (q))).setCell (p := ⟨b, off + j * 4 + 1, none⟩) hm.out (.int .i64 (q + 1))).setCell (p := ⟨b, off + j * 4 + 2, none⟩) hm.out (.int .i64 (q + 2))).setCell (p := ⟨b, off + j * 4 + 3, none⟩) hm.out (.int .i64 (q + 3)))
      have hf := hf rfl
      clear hset hr hx' hx0 ho hx hm hq
      go_wp2
      go_roundw
      case rel => exact ⟨j + 1, q + 4, by omega, by go_num, by go_num, HQ, by simpa [Int.add_assoc] using HS.out, by simpa [Int.add_assoc] using HB.out⟩
      case measure => simp [intOf]; omega
    · have e : j = xs.length := by omega
      subst e
      have HS := Lib.hid hr
      have HQ := Lib.hid (show q = k + 4 * (xs.length : Nat) from hq.out)
      clear hr hq
      go_wp2
      go_ret
      exact ⟨ret_int HQ.out, by simpa using HS.out, ho⟩

end Go.Proofs.Ytiingmngeiakgaa
