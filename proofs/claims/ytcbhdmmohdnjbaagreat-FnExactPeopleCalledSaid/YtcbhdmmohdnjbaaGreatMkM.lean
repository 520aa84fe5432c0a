/- Texts laid one behind the other (merge.py): MkPerson, MkUnion, MkFam. -/
import Derived.Test.YtcbhdmmohdnjbaaGreatFamM
import Derived.Test.YtcbhdmmohdnjbaaGreatBase
namespace Go.Proofs.YtcbhdmmohdnjbaaGreat
set_option linter.unusedVariables false
set_option linter.unusedSimpArgs false
open Go.RowKit

/-! ### MkPerson -/
section

def mkPer (q : Int) : Per := ((markTxt (q).toNat), q + 1, q + 1 + 1, q + 1 + 1 + 1, q + 1 + 1 + 1 + 1, q + 1 + 1 + 1 + 1 + 1)
def marksPer (k : Int) (n : Nat) : List Per := (List.range n).map fun i => mkPer (k + 6 * (i : Nat))
theorem marksPer_len (k : Int) (n : Nat) : (marksPer k n).length = n := by simp [marksPer]
theorem marksPer_at {k : Int} {n i : Nat} {x : Per} (h : (marksPer k n)[i]? = some x) : x = mkPer (k + 6 * (i : Nat)) := by
  simp only [marksPer, List.getElem?_map, List.getElem?_range, Option.map_eq_some_iff] at h
  obtain ⟨a, ha, rfl⟩ := h
  have : a = i := by
    rw [List.getElem?_eq_some_iff] at ha
    obtain ⟨_, ha⟩ := ha
    simpa using ha.symm
  rw [this]
theorem marksPer_step {k : Int} {xs : List Per} {i : Nat} {x : Per} (hx : xs[i]? = some x) : (marksPer k i ++ xs.drop i).set i (mkPer (k + 6 * (i : Nat))) = marksPer k (i + 1) ++ xs.drop (i + 1) := by
  rw [drop_cons hx, List.set_append_right _ _ (by simp [marksPer_len])]
  simp [marksPer, List.range_succ]
theorem rep_per_at {z : Bool} {w : World} {ao : Option Addr} {n cap : Nat} {xs : List Per} {fp : List Nat} (h : Rep.rep z w [.slice ao n cap] xs fp) {i : Nat} (hi' : i < n) :
    ∃ (b off : Nat) (nm : ByteArray) (sx : Int) (fa : Int) (mo : Int) (bo : Int) (di : Int), ao = some ⟨b, off, none⟩ ∧ Hid (xs[i]? = some (nm, sx, fa, mo, bo, di)) ∧ w.cell? ⟨b, off + i * 6, none⟩ = some (.string nm) ∧ w.cell? ⟨b, off + i * 6 + 1, none⟩ = some (.int .i64 sx) ∧ w.cell? ⟨b, off + i * 6 + 2, none⟩ = some (.int .i64 fa) ∧ w.cell? ⟨b, off + i * 6 + 3, none⟩ = some (.int .i64 mo) ∧ w.cell? ⟨b, off + i * 6 + 4, none⟩ = some (.int .i64 bo) ∧ w.cell? ⟨b, off + i * 6 + 5, none⟩ = some (.int .i64 di) ∧ nm.size ≤ maxLen ∧ I64 sx ∧ I64 fa ∧ I64 mo ∧ I64 bo ∧ I64 di ∧ Hid (b ∈ fp) ∧ b < w.heap.size ∧ (z = true → ∀ o, w.frozen? ⟨b, o, none⟩ = false) := by
  obtain ⟨b, off, ⟨nm, sx, fa, mo, bo, di⟩, cs, f, e, hx, hr, _, m1, m2, m3, hc, hf⟩ := rep_at h hi'
  obtain ⟨rfl, h0, h1, h2, h3, h4, h5, -⟩ := repPer_inv hr
  refine ⟨b, off, nm, sx, fa, mo, bo, di, e, hx, ?_, ?_, ?_, ?_, ?_, ?_, h0, h1, h2, h3, h4, h5, m1, m3, hf⟩
  · have := hc 0 (.string nm) rfl; simpa [Rep.sz, Nat.add_assoc] using this
  · have := hc 1 (.int .i64 sx) rfl; simpa [Rep.sz, Nat.add_assoc] using this
  · have := hc 2 (.int .i64 fa) rfl; simpa [Rep.sz, Nat.add_assoc] using this
  · have := hc 3 (.int .i64 mo) rfl; simpa [Rep.sz, Nat.add_assoc] using this
  · have := hc 4 (.int .i64 bo) rfl; simpa [Rep.sz, Nat.add_assoc] using this
  · have := hc 5 (.int .i64 di) rfl; simpa [Rep.sz, Nat.add_assoc] using this
theorem rep_per_put {w : World} {xs : List Per} {b off n cap : Nat} {fp : List Nat} (h : Rep.rep true w [.slice (some ⟨b, off, none⟩) n cap] xs fp) {i : Nat} (hi' : i < n) {nm : ByteArray} {sx : Int} {fa : Int} {mo : Int} {bo : Int} {di : Int} (h0 : nm.size ≤ maxLen) (h1 : I64 sx) (h2 : I64 fa) (h3 : I64 mo) (h4 : I64 bo) (h5 : I64 di) :
    Rep.rep true ((((((w.setCell ⟨b, off + i * 6, none⟩ (.string nm)).setCell ⟨b, off + i * 6 + 1, none⟩ (.int .i64 sx)).setCell ⟨b, off + i * 6 + 2, none⟩ (.int .i64 fa)).setCell ⟨b, off + i * 6 + 3, none⟩ (.int .i64 mo)).setCell ⟨b, off + i * 6 + 4, none⟩ (.int .i64 bo)).setCell ⟨b, off + i * 6 + 5, none⟩ (.int .i64 di)) [.slice (some ⟨b, off, none⟩) n cap] (xs.set i (nm, sx, fa, mo, bo, di)) fp := by
  obtain ⟨b', off', nm0, sx0, fa0, mo0, bo0, di0, e, hx, -, -, -, -, -, -, g0, g1, g2, g3, g4, g5, -, -, -⟩ := rep_per_at h hi'
  have hx := hx.out
  have hl : i < xs.length := (List.getElem?_eq_some_iff.1 hx).1
  have s1 := rep_setc h (i := i) (j := 0) (x := (nm0, sx0, fa0, mo0, bo0, di0)) (y := (nm, sx0, fa0, mo0, bo0, di0)) (u := .string nm) (w' := w) hx (repPer_mk g0 g1 g2 g3 g4 g5) (by show 0 < 6; omega) (repPer_mk h0 g1 g2 g3 g4 g5)
  have e1 : (xs.set i (nm, sx0, fa0, mo0, bo0, di0))[i]? = some (nm, sx0, fa0, mo0, bo0, di0) := by simp [hl]
  have s2 := rep_setc s1 (i := i) (j := 1) (x := (nm, sx0, fa0, mo0, bo0, di0)) (y := (nm, sx, fa0, mo0, bo0, di0)) (u := .int .i64 sx) (w' := w) e1 (repPer_mk h0 g1 g2 g3 g4 g5) (by show 1 < 6; omega) (repPer_mk h0 h1 g2 g3 g4 g5)
  rw [List.set_set] at s2
  have e2 : (xs.set i (nm, sx, fa0, mo0, bo0, di0))[i]? = some (nm, sx, fa0, mo0, bo0, di0) := by simp [hl]
  have s3 := rep_setc s2 (i := i) (j := 2) (x := (nm, sx, fa0, mo0, bo0, di0)) (y := (nm, sx, fa, mo0, bo0, di0)) (u := .int .i64 fa) (w' := w) e2 (repPer_mk h0 h1 g2 g3 g4 g5) (by show 2 < 6; omega) (repPer_mk h0 h1 h2 g3 g4 g5)
  rw [List.set_set] at s3
  have e3 : (xs.set i (nm, sx, fa, mo0, bo0, di0))[i]? = some (nm, sx, fa, mo0, bo0, di0) := by simp [hl]
  have s4 := rep_setc s3 (i := i) (j := 3) (x := (nm, sx, fa, mo0, bo0, di0)) (y := (nm, sx, fa, mo, bo0, di0)) (u := .int .i64 mo) (w' := w) e3 (repPer_mk h0 h1 h2 g3 g4 g5) (by show 3 < 6; omega) (repPer_mk h0 h1 h2 h3 g4 g5)
  rw [List.set_set] at s4
  have e4 : (xs.set i (nm, sx, fa, mo, bo0, di0))[i]? = some (nm, sx, fa, mo, bo0, di0) := by simp [hl]
  have s5 := rep_setc s4 (i := i) (j := 4) (x := (nm, sx, fa, mo, bo0, di0)) (y := (nm, sx, fa, mo, bo, di0)) (u := .int .i64 bo) (w' := w) e4 (repPer_mk h0 h1 h2 h3 g4 g5) (by show 4 < 6; omega) (repPer_mk h0 h1 h2 h3 h4 g5)
  rw [List.set_set] at s5
  have e5 : (xs.set i (nm, sx, fa, mo, bo, di0))[i]? = some (nm, sx, fa, mo, bo, di0) := by simp [hl]
  have s6 := rep_setc s5 (i := i) (j := 5) (x := (nm, sx, fa, mo, bo, di0)) (y := (nm, sx, fa, mo, bo, di)) (u := .int .i64 di) (w' := w) e5 (repPer_mk h0 h1 h2 h3 h4 g5) (by show 5 < 6; omega) (repPer_mk h0 h1 h2 h3 h4 h5)
  rw [List.set_set] at s6
  have e6 : (xs.set i (nm, sx, fa, mo, bo, di))[i]? = some (nm, sx, fa, mo, bo, di) := by simp [hl]
  simpa [Rep.sz, Nat.add_assoc] using s6

set_option maxRecDepth 20000 in
set_option maxHeartbeats 2000000 in
theorem markPersonS_any (w : World) (v : Value) (xs : List Per) (fp : List Nat) (h : Rep.rep true w [v] xs fp) (k : Int) (hk0 : 0 ≤ k) (hk1 : k + 6 * xs.length ≤ 1000000000) :
    Calls Tryz.prog 55 #[v, .int .i64 k] w (PostMark fp w [v] (marksPer k xs.length) (k + 6 * xs.length)) := by
  have hR : Rd true 0 w.heap.size w [v] xs := ⟨fp, h, fun b hb => ⟨Nat.zero_le _, Rep.lt h b hb⟩⟩
  obtain ⟨ao, n, cap, rfl, rfl, hnc, hcm, hnone⟩ := hR.shape
  clear hR
  unfold maxLen at *
  go_enter Tryz.func55, Tryz.ntmps55
  go_wp2
  go_loopw [1, 5] (fun s1 s5 wr => ∃ (j : Nat) (q : Int), j ≤ xs.length ∧ s5 = .int .i64 j ∧ s1 = .int .i64 q ∧ Hid (q = k + 6 * j) ∧ Rep.rep true wr [.slice ao xs.length cap] (marksPer k j ++ xs.drop j) fp ∧ OffF fp w wr) (fun _ s5 _ => xs.length - (intOf s5).toNat)
  case atStart => exact ⟨0, k, Nat.zero_le _, rfl, rfl, Lib.hid (by simp), by simpa [marksPer] using h, OffF.refl _ _⟩
  case round =>
    rename_i wr
    obtain ⟨j, q, hj, rfl, rfl, hq, hr, ho⟩ := hrel
    clear h
    by_cases hlt : j < xs.length
    · have hI : (j : Int) < (xs.length : Int) := by omega
      have hq0 : 0 ≤ q := by have := hq.out; omega
      have hq1 : q + 6 ≤ 1000000000 := by have := hq.out; omega
      have hms : (markTxt q.toNat).size ≤ maxLen := by have := markTxt_size q.toNat; unfold maxLen; omega
      have HMS := Lib.hid hms
      clear hms
      go_wp2_with fail
      refine (markText_int _ q hq0 (by omega)).mono ?_
      rintro e w1 ⟨rfl, hb1⟩
      have hr := Rep.keep hr (fun b hb => hb1.block b (Rep.lt hr b hb))
      have ho := ho.below hb1
      clear hb1
      obtain ⟨b, off, nm0, sx0, fa0, mo0, bo0, di0, rfl, hx, p0, p1, p2, p3, p4, p5, -, -, -, -, -, -, hm, hb, hf⟩ := rep_per_at hr hlt
      have hx' := hx.out
      have hx0 : xs[j]? = some (nm0, sx0, fa0, mo0, bo0, di0) := by
        rw [List.getElem?_append_right (by simp [marksPer_len]), marksPer_len, List.getElem?_drop] at hx'
        simpa using hx'
      have hset := rep_per_put hr hlt (nm := (markTxt q.toNat)) (sx := (q + 1)) (fa := (q + 2)) (mo := (q + 3)) (bo := (q + 4)) (di := (q + 5)) HMS.out (by unfold I64; omega) (by unfold I64; omega) (by unfold I64; omega) (by unfold I64; omega) (by unfold I64; omega)
      rw [show (((markTxt q.toNat), (q + 1), (q + 2), (q + 3), (q + 4), (q + 5)) : Per) = mkPer (k + 6 * (j : Nat)) by rw [← hq.out]; simp only [mkPer, Int.add_assoc]; rfl, marksPer_step hx0] at hset
      have HS := Lib.hid hset
      have HQ := Lib.hid (show q + 6 = k + 6 * ((j + 1 : Nat) : Int) by have := hq.out; omega)
      have HB := Lib.hid ((((((ho.setCell (p := ⟨b, off + j * 6, none⟩) hm.out (.string (markTxt q.toNat))).setCell (p := ⟨b, off + j * 6 + 1, none⟩) hm.out (.int .i64 (q + 1))).setCell (p := ⟨b, off + j * 6 + 2, none⟩) hm.out (.int .i64 (q + 2))).setCell (p := ⟨b, off + j * 6 + 3, none⟩) hm.out (.int .i64 (q + 3))).setCell (p := ⟨b, off + j * 6 + 4, none⟩) hm.out (.int .i64 (q + 4))).setCell (p := ⟨b, off + j * 6 + 5, none⟩) hm.out (.int .i64 (q + 5)))
      have hf := hf rfl
      clear hset hr hx' hx0 ho hx hm hq
      go_wp2
      go_roundw
      case rel => exact ⟨j + 1, q + 6, by omega, by go_num, by go_num, HQ, by simpa [Int.add_assoc] using HS.out, by simpa [Int.add_assoc] using HB.out⟩
      case measure => simp [intOf]; omega
    · have e : j = xs.length := by omega
      subst e
      have HS := Lib.hid hr
      have HQ := Lib.hid (show q = k + 6 * (xs.length : Nat) from hq.out)
      clear hr hq
      go_wp2
      go_ret
      exact ⟨ret_int HQ.out, by simpa using HS.out, ho⟩


end

/-! ### MkUnion -/
section

def mkUni (q : Int) : Uni := (q, q + 1, q + 1 + 1, q + 1 + 1 + 1)
def marksUni (k : Int) (n : Nat) : List Uni := (List.range n).map fun i => mkUni (k + 4 * (i : Nat))
theorem marksUni_len (k : Int) (n : Nat) : (marksUni k n).length = n := by simp [marksUni]
theorem marksUni_at {k : Int} {n i : Nat} {x : Uni} (h : (marksUni k n)[i]? = some x) : x = mkUni (k + 4 * (i : Nat)) := by
  simp only [marksUni, List.getElem?_map, List.getElem?_range, Option.map_eq_some_iff] at h
  obtain ⟨a, ha, rfl⟩ := h
  have : a = i := by
    rw [List.getElem?_eq_some_iff] at ha
    obtain ⟨_, ha⟩ := ha
    simpa using ha.symm
  rw [this]
theorem marksUni_step {k : Int} {xs : List Uni} {i : Nat} {x : Uni} (hx : xs[i]? = some x) : (marksUni k i ++ xs.drop i).set i (mkUni (k + 4 * (i : Nat))) = marksUni k (i + 1) ++ xs.drop (i + 1) := by
  rw [drop_cons hx, List.set_append_right _ _ (by simp [marksUni_len])]
  simp [marksUni, List.range_succ]
theorem rep_uni_at {z : Bool} {w : World} {ao : Option Addr} {n cap : Nat} {xs : List Uni} {fp : List Nat} (h : Rep.rep z w [.slice ao n cap] xs fp) {i : Nat} (hi' : i < n) :
    ∃ (b off : Nat) (ma : Int) (wo : Int) (fr : Int) (tl : Int), ao = some ⟨b, off, none⟩ ∧ Hid (xs[i]? = some (ma, wo, fr, tl)) ∧ w.cell? ⟨b, off + i * 4, none⟩ = some (.int .i64 ma) ∧ w.cell? ⟨b, off + i * 4 + 1, none⟩ = some (.int .i64 wo) ∧ w.cell? ⟨b, off + i * 4 + 2, none⟩ = some (.int .i64 fr) ∧ w.cell? ⟨b, off + i * 4 + 3, none⟩ = some (.int .i64 tl) ∧ I64 ma ∧ I64 wo ∧ I64 fr ∧ I64 tl ∧ Hid (b ∈ fp) ∧ b < w.heap.size ∧ (z = true → ∀ o, w.frozen? ⟨b, o, none⟩ = false) := by
  obtain ⟨b, off, ⟨ma, wo, fr, tl⟩, cs, f, e, hx, hr, _, m1, m2, m3, hc, hf⟩ := rep_at h hi'
  obtain ⟨rfl, h0, h1, h2, h3, -⟩ := repUni_inv hr
  refine ⟨b, off, ma, wo, fr, tl, e, hx, ?_, ?_, ?_, ?_, h0, h1, h2, h3, m1, m3, hf⟩
  · have := hc 0 (.int .i64 ma) rfl; simpa [Rep.sz, Nat.add_assoc] using this
  · have := hc 1 (.int .i64 wo) rfl; simpa [Rep.sz, Nat.add_assoc] using this
  · have := hc 2 (.int .i64 fr) rfl; simpa [Rep.sz, Nat.add_assoc] using this
  · have := hc 3 (.int .i64 tl) rfl; simpa [Rep.sz, Nat.add_assoc] using this
theorem rep_uni_put {w : World} {xs : List Uni} {b off n cap : Nat} {fp : List Nat} (h : Rep.rep true w [.slice (some ⟨b, off, none⟩) n cap] xs fp) {i : Nat} (hi' : i < n) {ma : Int} {wo : Int} {fr : Int} {tl : Int} (h0 : I64 ma) (h1 : I64 wo) (h2 : I64 fr) (h3 : I64 tl) :
    Rep.rep true ((((w.setCell ⟨b, off + i * 4, none⟩ (.int .i64 ma)).setCell ⟨b, off + i * 4 + 1, none⟩ (.int .i64 wo)).setCell ⟨b, off + i * 4 + 2, none⟩ (.int .i64 fr)).setCell ⟨b, off + i * 4 + 3, none⟩ (.int .i64 tl)) [.slice (some ⟨b, off, none⟩) n cap] (xs.set i (ma, wo, fr, tl)) fp := by
  obtain ⟨b', off', ma0, wo0, fr0, tl0, e, hx, -, -, -, -, g0, g1, g2, g3, -, -, -⟩ := rep_uni_at h hi'
  have hx := hx.out
  have hl : i < xs.length := (List.getElem?_eq_some_iff.1 hx).1
  have s1 := rep_setc h (i := i) (j := 0) (x := (ma0, wo0, fr0, tl0)) (y := (ma, wo0, fr0, tl0)) (u := .int .i64 ma) (w' := w) hx (repUni_mk g0 g1 g2 g3) (by show 0 < 4; omega) (repUni_mk h0 g1 g2 g3)
  have e1 : (xs.set i (ma, wo0, fr0, tl0))[i]? = some (ma, wo0, fr0, tl0) := by simp [hl]
  have s2 := rep_setc s1 (i := i) (j := 1) (x := (ma, wo0, fr0, tl0)) (y := (ma, wo, fr0, tl0)) (u := .int .i64 wo) (w' := w) e1 (repUni_mk h0 g1 g2 g3) (by show 1 < 4; omega) (repUni_mk h0 h1 g2 g3)
  rw [List.set_set] at s2
  have e2 : (xs.set i (ma, wo, fr0, tl0))[i]? = some (ma, wo, fr0, tl0) := by simp [hl]
  have s3 := rep_setc s2 (i := i) (j := 2) (x := (ma, wo, fr0, tl0)) (y := (ma, wo, fr, tl0)) (u := .int .i64 fr) (w' := w) e2 (repUni_mk h0 h1 g2 g3) (by show 2 < 4; omega) (repUni_mk h0 h1 h2 g3)
  rw [List.set_set] at s3
  have e3 : (xs.set i (ma, wo, fr, tl0))[i]? = some (ma, wo, fr, tl0) := by simp [hl]
  have s4 := rep_setc s3 (i := i) (j := 3) (x := (ma, wo, fr, tl0)) (y := (ma, wo, fr, tl)) (u := .int .i64 tl) (w' := w) e3 (repUni_mk h0 h1 h2 g3) (by show 3 < 4; omega) (repUni_mk h0 h1 h2 h3)
  rw [List.set_set] at s4
  have e4 : (xs.set i (ma, wo, fr, tl))[i]? = some (ma, wo, fr, tl) := by simp [hl]
  simpa [Rep.sz, Nat.add_assoc] using s4

set_option maxRecDepth 20000 in
set_option maxHeartbeats 2000000 in
theorem markUnionS_any (w : World) (v : Value) (xs : List Uni) (fp : List Nat) (h : Rep.rep true w [v] xs fp) (k : Int) (hk0 : 0 ≤ k) (hk1 : k + 4 * xs.length ≤ 4611686018427387904) :
    Calls Tryz.prog 56 #[v, .int .i64 k] w (PostMark fp w [v] (marksUni k xs.length) (k + 4 * xs.length)) := by
  have hR : Rd true 0 w.heap.size w [v] xs := ⟨fp, h, fun b hb => ⟨Nat.zero_le _, Rep.lt h b hb⟩⟩
  obtain ⟨ao, n, cap, rfl, rfl, hnc, hcm, hnone⟩ := hR.shape
  clear hR
  unfold maxLen at *
  go_enter Tryz.func56, Tryz.ntmps56
  go_wp2
  go_loopw [1, 5] (fun s1 s5 wr => ∃ (j : Nat) (q : Int), j ≤ xs.length ∧ s5 = .int .i64 j ∧ s1 = .int .i64 q ∧ Hid (q = k + 4 * j) ∧ Rep.rep true wr [.slice ao xs.length cap] (marksUni k j ++ xs.drop j) fp ∧ OffF fp w wr) (fun _ s5 _ => xs.length - (intOf s5).toNat)
  case atStart => exact ⟨0, k, Nat.zero_le _, rfl, rfl, Lib.hid (by simp), by simpa [marksUni] using h, OffF.refl _ _⟩
  case round =>
    rename_i wr
    obtain ⟨j, q, hj, rfl, rfl, hq, hr, ho⟩ := hrel
    clear h
    by_cases hlt : j < xs.length
    · have hI : (j : Int) < (xs.length : Int) := by omega
      have hq0 : 0 ≤ q := by have := hq.out; omega
      have hq1 : q + 4 ≤ 4611686018427387904 := by have := hq.out; omega
      obtain ⟨b, off, ma0, wo0, fr0, tl0, rfl, hx, p0, p1, p2, p3, -, -, -, -, hm, hb, hf⟩ := rep_uni_at hr hlt
      have hx' := hx.out
      have hx0 : xs[j]? = some (ma0, wo0, fr0, tl0) := by
        rw [List.getElem?_append_right (by simp [marksUni_len]), marksUni_len, List.getElem?_drop] at hx'
        simpa using hx'
      have hset := rep_uni_put hr hlt (ma := (q)) (wo := (q + 1)) (fr := (q + 2)) (tl := (q + 3)) (by unfold I64; omega) (by unfold I64; omega) (by unfold I64; omega) (by unfold I64; omega)
      rw [show (((q), (q + 1), (q + 2), (q + 3)) : Uni) = mkUni (k + 4 * (j : Nat)) by rw [← hq.out]; simp only [mkUni, Int.add_assoc]; rfl, marksUni_step hx0] at hset
      have HS := Lib.hid hset
      have HQ := Lib.hid (show q + 4 = k + 4 * ((j + 1 : Nat) : Int) by have := hq.out; omega)
      have HB := Lib.hid ((((ho.setCell (p := ⟨b, off + j * 4, none⟩) hm.out (.int .i64 (q))).setCell (p := ⟨b, off + j * 4 + 1, none⟩) hm.out (.int .i64 (q + 1))).setCell (p := ⟨b, off + j * 4 + 2, none⟩) hm.out (.int .i64 (q + 2))).setCell (p := ⟨b, off + j * 4 + 3, none⟩) hm.out (.int .i64 (q + 3)))
      have hf := hf rfl
      clear hset hr hx' hx0 ho hx hm hq
      go_wp2
      go_roundw
      case rel => exact ⟨j + 1, q + 4, by omega, by go_num, by go_num, HQ, by simpa [Int.add_assoc] using HS.out, by simpa [Int.add_assoc] using HB.out⟩
      case measure => simp [intOf]; omega
    · have e : j = xs.length := by omega
      subst e
      have HS := Lib.hid hr
      have HQ := Lib.hid (show q = k + 4 * (xs.length : Nat) from hq.out)
      clear hr hq
      go_wp2
      go_ret
      exact ⟨ret_int HQ.out, by simpa using HS.out, ho⟩


end

/-! ### MkFam -/
section

set_option maxHeartbeats 1000000 in
theorem markFamily_any (w : World) (a b : Value) (c : Fam) (fp : List Nat) (h : Rep.rep true w [a, b] c fp) (hn : fp.Nodup) (k : Int) (hk0 : 0 ≤ k) (hk1 : k + 6 * c.1.length + 4 * c.2.length ≤ 1000000000) :
    Calls Tryz.prog 18 #[.agg #[a, b], .int .i64 k] w (PostMark fp w [a, b] ((marksPer k c.1.length, marksUni (k + 6 * c.1.length) c.2.length) : Fam) (k + 6 * c.1.length + 4 * c.2.length)) := by
  obtain ⟨x, y⟩ := c
  obtain ⟨c1, c2, f1, f2, e, rfl, h1, h2⟩ := h
  dsimp only at hk1 h1 h2 ⊢
  obtain ⟨rfl, rfl⟩ : c1 = [a] ∧ c2 = [b] := by
    have := Rep.len h1
    have := app_inj (a := [a]) (b := [b]) e (by rw [this]; rfl)
    exact ⟨this.1.symm, this.2.symm⟩
  clear e
  have hd := (List.nodup_append.1 hn).2.2
  have hlt : ∀ b ∈ f1 ++ f2, b < w.heap.size := fun b hb => by
    rcases List.mem_append.1 hb with hb | hb
    · exact Rep.lt h1 b hb
    · exact Rep.lt h2 b hb
  obtain ⟨n1, hn1⟩ : ∃ n : Nat, n = x.length := ⟨_, rfl⟩
  obtain ⟨n2, hn2⟩ : ∃ n : Nat, n = y.length := ⟨_, rfl⟩
  go_enter Tryz.func18, Tryz.ntmps18
  go_wp2_with fail
  refine (markPersonS_any _ _ _ f1 (Rep.keep h1 (fun b hb => Below.heap_alloc _ _ _ (hlt b (by simp [hb])))) _ hk0 (by omega)).mono ?_
  rintro e w1 ⟨rfl, hr1, ho1⟩
  have ho1' : OffF f1 w w1 := ((OffF.refl _ _).alloc _).trans ho1
  have h2' : Rep.rep true w1 [b] y f2 := Rep.keep h2 fun i hi => ho1'.block i (hlt i (by simp [hi])) (fun hm => hd i hm i hi rfl)
  have hc0 : ∀ o, w1.cell? ⟨w.heap.size, o, none⟩ = (w.alloc (.cells #[a, b] 37)).cell? ⟨w.heap.size, o, none⟩ := fun o => World.cell?_of_block (a := ⟨w.heap.size, o, none⟩) (ho1.block w.heap.size (by simp) (fun hm => by have := hlt _ (List.mem_append.2 (.inl hm)); omega))
  have s1 := ho1'.size
  clear ho1
  go_wp2_with fail
  refine (markUnionS_any _ _ _ f2 h2' _ (by omega) (by omega)).mono ?_
  rintro e w2 ⟨rfl, hr2, ho2⟩
  have hr1' : Rep.rep true w2 [a] (marksPer k x.length) f1 := Rep.keep hr1 fun i hi => ho2.block i (Nat.lt_of_lt_of_le (hlt i (by simp [hi])) s1) (fun hm => hd i hi i hm rfl)
  have HR := Lib.hid (show Rep.rep true w2 [a, b] ((marksPer k x.length, marksUni (k + 6 * x.length) y.length) : Fam) (f1 ++ f2) from ⟨[a], [b], f1, f2, rfl, rfl, hr1', hr2⟩)
  have HO := Lib.hid (show OffF (f1 ++ f2) w w2 from (ho1'.mono (fun i hi => by simp [hi])).trans (ho2.mono (fun i hi => by simp [hi])))
  clear hr1 hr1' hr2 ho1' ho2 h1 h2 h2' hd hlt hn
  go_wp2
  go_ret
  exact ⟨rfl, HR.out, HO.out⟩

end

end Go.Proofs.YtcbhdmmohdnjbaaGreat
