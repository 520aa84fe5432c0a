/- Texts laid one behind the other (merge.py): Name, TyPerson, ParS, PerS, DepS, TyUnion, UniS, FamH, FamS, ExoS. -/
import Derived.Test.YtcbhdmmohdnjbaaGreatBase
namespace Go.Proofs.YtcbhdmmohdnjbaaGreat
set_option linter.unusedVariables false
set_option linter.unusedSimpArgs false
open Go.RowKit

/-! ### Name -/
section

theorem letters_step {s : ByteArray} {k : Nat} (h : k < s.size) : letters (s.data.toList.drop k) = (decide (97 ≤ (s[k]'h).toNat ∧ (s[k]'h).toNat ≤ 122) && letters (s.data.toList.drop (k + 1))) := by
  have h' : k < s.data.toList.length := by simpa using h
  rw [List.drop_eq_getElem_cons h']
  simp [letters]
  rfl
theorem letters_end {s : ByteArray} {k : Nat} (h : s.size ≤ k) : letters (s.data.toList.drop k) = true := by
  rw [List.drop_eq_nil_of_le (by simpa using h)]; rfl

set_option maxHeartbeats 1000000 in
theorem isNameI_b (w : World) (s : ByteArray) (hs : s.size ≤ maxLen) (r : Bool) (hr : r = nameOk s) :
    Calls Tryz.prog 96 #[.string s] w (PostB w r) := by
  unfold maxLen at hs
  have HR := Lib.hid hr
  clear hr
  by_cases h1 : 1 ≤ s.size
  · by_cases h2 : s.size ≤ 12
    · have h1' : ¬ (s.size : Int) < 1 := by omega
      have h2' : ¬ (12 : Int) < (s.size : Int) := by omega
      have HL := Lib.hid (show r = letters (s.data.toList.drop 0) by rw [HR.out, nameOk]; simp [h1, h2])
      go_enter Tryz.func96, Tryz.ntmps96
      go_wp2
      go_loopw [3] (fun s3 wr => ∃ k : Nat, k ≤ s.size ∧ s3 = .int .i64 k ∧ Hid (r = letters (s.data.toList.drop k)) ∧ Below w.heap.size w wr) (fun s3 _ => s.size - (intOf s3).toNat)
      case atStart => exact ⟨0, Nat.zero_le _, rfl, HL, Below.refl _ _⟩
      case round =>
        obtain ⟨k, hk, rfl, ht, hb⟩ := hrel
        by_cases hlt : k < s.size
        · have hI : (k : Int) < (s.size : Int) := by omega
          have HT := Lib.hid (letters_step hlt)
          have HFail := Lib.hid (show ¬ (97 ≤ ((s[k]'hlt).toNat : Int) ∧ ((s[k]'hlt).toNat : Int) ≤ 122) → false = r by
            intro e
            have e2 : ¬ (97 ≤ (s[k]'hlt).toNat ∧ (s[k]'hlt).toNat ≤ 122) := by omega
            rw [ht.out, HT.out]; simp [e2])
          have HOk := Lib.hid (show (97 ≤ ((s[k]'hlt).toNat : Int) ∧ ((s[k]'hlt).toNat : Int) ≤ 122) → r = letters (s.data.toList.drop (k + 1)) by
            intro e
            have e2 : 97 ≤ (s[k]'hlt).toNat ∧ (s[k]'hlt).toNat ≤ 122 := by omega
            rw [ht.out, HT.out]; simp [e2])
          clear ht HT
          go_wp2
          all_goals first
            | (go_roundw
               case rel => exact ⟨k + 1, by omega, by go_num, Lib.hid (HOk.out (by omega)), hb⟩
               case measure => simp [intOf]; omega)
            | (go_ret; exact ⟨ret_bool (HFail.out (by omega)), hb⟩)
        · have HF := Lib.hid (show true = r by rw [ht.out, letters_end (by omega)])
          have hI : ¬ (k : Int) < (s.size : Int) := by omega
          go_wp2
          go_ret
          exact ⟨ret_bool HF.out, hb⟩
    · have HF := Lib.hid (show false = r by rw [HR.out, nameOk]; simp [h2])
      have h1' : ¬ (s.size : Int) < 1 := by omega
      have h2' : (12 : Int) < (s.size : Int) := by omega
      go_enter Tryz.func96, Tryz.ntmps96
      go_wp2
      go_ret
      exact ⟨ret_bool HF.out, bwT⟩
  · have HF := Lib.hid (show false = r by rw [HR.out, nameOk]; simp [h1])
    have h1' : (s.size : Int) < 1 := by omega
    go_enter Tryz.func96, Tryz.ntmps96
    go_wp2
    go_ret
    exact ⟨ret_bool HF.out, bwT⟩

set_option maxHeartbeats 1000000 in
theorem isNameS_b (w : World) (s : ByteArray) (hs : s.size ≤ maxLen) (r : Bool) (hr : r = nameOk s) :
    Calls Tryz.prog 91 #[.string s] w (PostB w r) := by
  unfold maxLen at hs
  obtain ⟨r2, hlet_r2⟩ : ∃ r, r = decide (1 ≤ s.size ∧ s.size ≤ 12) := ⟨_, rfl⟩
  have H2 := Lib.hid hlet_r2
  clear hlet_r2
  obtain ⟨r1, hlet_r1⟩ : ∃ r, r = letters s.data.toList := ⟨_, rfl⟩
  have H1 := Lib.hid hlet_r1
  clear hlet_r1
  have HR := Lib.hid (show r = (r2 && r1) by rw [hr, nameOk, H1.out, H2.out])
  clear hr
  go_enter Tryz.func91, Tryz.ntmps91
  go_wp2
  go_loopw [3] (fun s3 wr => ∃ k : Nat, k ≤ s.size ∧ s3 = .int .i64 k ∧ Hid (r1 = letters (s.data.toList.drop k)) ∧ Below w.heap.size w wr) (fun s3 _ => s.size - (intOf s3).toNat)
  case atStart => exact ⟨0, Nat.zero_le _, rfl, H1, Below.refl _ _⟩
  case round =>
    obtain ⟨k, hk, rfl, ht, hb⟩ := hrel
    by_cases hlt : k < s.size
    · have hI : (k : Int) < (s.size : Int) := by omega
      have HT := Lib.hid (letters_step hlt)
      have HFail := Lib.hid (show ¬ (97 ≤ ((s[k]'hlt).toNat : Int) ∧ ((s[k]'hlt).toNat : Int) ≤ 122) → false = r by
        intro e
        have e2 : ¬ (97 ≤ (s[k]'hlt).toNat ∧ (s[k]'hlt).toNat ≤ 122) := by omega
        rw [HR.out, ht.out, HT.out]; simp [e2])
      have HOk := Lib.hid (show (97 ≤ ((s[k]'hlt).toNat : Int) ∧ ((s[k]'hlt).toNat : Int) ≤ 122) → r1 = letters (s.data.toList.drop (k + 1)) by
        intro e
        have e2 : 97 ≤ (s[k]'hlt).toNat ∧ (s[k]'hlt).toNat ≤ 122 := by omega
        rw [ht.out, HT.out]; simp [e2])
      clear ht HT
      go_wp2
      all_goals first
        | (go_roundw
           case rel => exact ⟨k + 1, by omega, by go_num, Lib.hid (HOk.out (by omega)), hb⟩
           case measure => simp [intOf]; omega)
        | (go_ret; exact ⟨ret_bool (HFail.out (by omega)), hb⟩)
    · have HT := Lib.hid (show r1 = true by rw [ht.out, letters_end (by omega)])
      have hI : ¬ (k : Int) < (s.size : Int) := by omega
      have H3 := Lib.hid (show r2 = decide ((1 : Int) ≤ (s.size : Int) ∧ (s.size : Int) ≤ 12) by rw [H2.out]; congr 1; apply propext; omega)
      go_wp2_with fail
      refine (l1In_b _ _ _ _ r2 H3.out).mono ?_
      rintro e w1 ⟨rfl, hb1⟩
      have hB1 : Below w.heap.size w w1 := Below.after hb hb1 hb.size
      go_wp2
      go_ret
      exact ⟨ret_bool (by rw [HR.out, HT.out]; simp), hB1⟩

end

/-! ### TyPerson -/
section

theorem slPerson : SlTy Tryz.prog 34 100 (.agg #[.string ByteArray.empty, .int .i64 0, .int .i64 0, .int .i64 0, .int .i64 0, .int .i64 0]) 6 56 := SlTy.of Tryz.underlying34 (by kernel_rfl) rfl
theorem repPer_inv {z : Bool} {w : World} {cs : List Value} {nm : ByteArray} {sx : Int} {fa : Int} {mo : Int} {bo : Int} {di : Int} {fp : List Nat} (h : Rep.rep z w cs ((nm, sx, fa, mo, bo, di) : Per) fp) : cs = [.string nm, .int .i64 sx, .int .i64 fa, .int .i64 mo, .int .i64 bo, .int .i64 di] ∧ nm.size ≤ maxLen ∧ I64 sx ∧ I64 fa ∧ I64 mo ∧ I64 bo ∧ I64 di ∧ fp = [] := by
  obtain ⟨_, _, _, _, rfl, rfl, ⟨rfl, h0, rfl⟩, _, _, _, _, rfl, rfl, ⟨rfl, h1, rfl⟩, _, _, _, _, rfl, rfl, ⟨rfl, h2, rfl⟩, _, _, _, _, rfl, rfl, ⟨rfl, h3, rfl⟩, _, _, _, _, rfl, rfl, ⟨rfl, h4, rfl⟩, ⟨rfl, h5, rfl⟩⟩ := h
  exact ⟨rfl, h0, h1, h2, h3, h4, h5, rfl⟩
theorem repPer_mk {z : Bool} {w : World} {nm : ByteArray} {sx : Int} {fa : Int} {mo : Int} {bo : Int} {di : Int} (h0 : nm.size ≤ maxLen) (h1 : I64 sx) (h2 : I64 fa) (h3 : I64 mo) (h4 : I64 bo) (h5 : I64 di) : Rep.rep z w [.string nm, .int .i64 sx, .int .i64 fa, .int .i64 mo, .int .i64 bo, .int .i64 di] ((nm, sx, fa, mo, bo, di) : Per) [] :=
  ⟨[_], _, [], [], rfl, rfl, ⟨rfl, h0, rfl⟩, ⟨[_], _, [], [], rfl, rfl, ⟨rfl, h1, rfl⟩, ⟨[_], _, [], [], rfl, rfl, ⟨rfl, h2, rfl⟩, ⟨[_], _, [], [], rfl, rfl, ⟨rfl, h3, rfl⟩, ⟨[_], _, [], [], rfl, rfl, ⟨rfl, h4, rfl⟩, ⟨rfl, h5, rfl⟩⟩⟩⟩⟩⟩
theorem Rd.per_at {z : Bool} {lo hi : Nat} {w : World} {xs : List Per} {ao : Option Addr} {n cap : Nat} (h : Rd z lo hi w [.slice ao n cap] xs) {i : Nat} (hi' : i < n) :
    ∃ (b off : Nat) (nm : ByteArray) (sx : Int) (fa : Int) (mo : Int) (bo : Int) (di : Int), ao = some ⟨b, off, none⟩ ∧ Hid (xs[i]? = some (nm, sx, fa, mo, bo, di)) ∧ w.cell? ⟨b, off + i * 6, none⟩ = some (.string nm) ∧ w.cell? ⟨b, off + i * 6 + 1, none⟩ = some (.int .i64 sx) ∧ w.cell? ⟨b, off + i * 6 + 2, none⟩ = some (.int .i64 fa) ∧ w.cell? ⟨b, off + i * 6 + 3, none⟩ = some (.int .i64 mo) ∧ w.cell? ⟨b, off + i * 6 + 4, none⟩ = some (.int .i64 bo) ∧ w.cell? ⟨b, off + i * 6 + 5, none⟩ = some (.int .i64 di) ∧ nm.size ≤ maxLen ∧ I64 sx ∧ I64 fa ∧ I64 mo ∧ I64 bo ∧ I64 di ∧ lo ≤ b ∧ b < hi ∧ b < w.heap.size ∧ (z = true → ∀ o, w.frozen? ⟨b, o, none⟩ = false) := by
  obtain ⟨b, off, ⟨nm, sx, fa, mo, bo, di⟩, cs, e, hx, ⟨fp, hr, _⟩, _, g1, g2, g3, hc, hf⟩ := h.at hi'
  obtain ⟨rfl, h0, h1, h2, h3, h4, h5, -⟩ := repPer_inv hr
  refine ⟨b, off, nm, sx, fa, mo, bo, di, e, hx, ?_, ?_, ?_, ?_, ?_, ?_, h0, h1, h2, h3, h4, h5, g1, g2, g3, hf⟩
  · have := hc 0 (.string nm) rfl; simpa [Rep.sz, Nat.add_assoc] using this
  · have := hc 1 (.int .i64 sx) rfl; simpa [Rep.sz, Nat.add_assoc] using this
  · have := hc 2 (.int .i64 fa) rfl; simpa [Rep.sz, Nat.add_assoc] using this
  · have := hc 3 (.int .i64 mo) rfl; simpa [Rep.sz, Nat.add_assoc] using this
  · have := hc 4 (.int .i64 bo) rfl; simpa [Rep.sz, Nat.add_assoc] using this
  · have := hc 5 (.int .i64 di) rfl; simpa [Rep.sz, Nat.add_assoc] using this

set_option maxHeartbeats 1000000 in
theorem eqPerson_b (w : World) (nm : ByteArray) (sx : Int) (fa : Int) (mo : Int) (bo : Int) (di : Int) (nm2 : ByteArray) (sx2 : Int) (fa2 : Int) (mo2 : Int) (bo2 : Int) (di2 : Int) (r : Bool) (hr : r = decide (((nm, sx, fa, mo, bo, di) : Per) = (nm2, sx2, fa2, mo2, bo2, di2))) :
    Calls Tryz.prog 86 #[.agg #[.string nm, .int .i64 sx, .int .i64 fa, .int .i64 mo, .int .i64 bo, .int .i64 di], .agg #[.string nm2, .int .i64 sx2, .int .i64 fa2, .int .i64 mo2, .int .i64 bo2, .int .i64 di2]] w (PostB w r) := by
  obtain ⟨r0, hlet_r0⟩ : ∃ r, r = decide (nm = nm2) := ⟨_, rfl⟩
  have H0 := Lib.hid hlet_r0
  clear hlet_r0
  obtain ⟨r1, hlet_r1⟩ : ∃ r, r = decide (sx = sx2) := ⟨_, rfl⟩
  have H1 := Lib.hid hlet_r1
  clear hlet_r1
  obtain ⟨r2, hlet_r2⟩ : ∃ r, r = decide (fa = fa2) := ⟨_, rfl⟩
  have H2 := Lib.hid hlet_r2
  clear hlet_r2
  obtain ⟨r3, hlet_r3⟩ : ∃ r, r = decide (mo = mo2) := ⟨_, rfl⟩
  have H3 := Lib.hid hlet_r3
  clear hlet_r3
  obtain ⟨r4, hlet_r4⟩ : ∃ r, r = decide (bo = bo2) := ⟨_, rfl⟩
  have H4 := Lib.hid hlet_r4
  clear hlet_r4
  obtain ⟨r5, hlet_r5⟩ : ∃ r, r = decide (di = di2) := ⟨_, rfl⟩
  have H5 := Lib.hid hlet_r5
  clear hlet_r5
  have HR := Lib.hid (show r = (r0 && (r1 && (r2 && (r3 && (r4 && (r5)))))) by rw [hr, H0.out, H1.out, H2.out, H3.out, H4.out, H5.out]; simp [Prod.mk.injEq])
  clear hr
  cases r0
  · have q0 : (nm.toList == nm2.toList) = false := by rw [text_eq]; exact H0.out.symm
    have q0n : (nm.toList != nm2.toList) = true := by rw [bne, q0]; rfl
    go_enter Tryz.func86, Tryz.ntmps86
    go_wp2
    go_ret
    exact ⟨ret_bool (by rw [HR.out]; rfl), bwT⟩
  have q0 : (nm.toList == nm2.toList) = true := by rw [text_eq]; exact H0.out.symm
  have q0n : (nm.toList != nm2.toList) = false := by rw [bne, q0]; rfl
  cases r1
  · have q1 : (sx != sx2) = true := by have := H1.out; simp at this ⊢; exact this
    go_enter Tryz.func86, Tryz.ntmps86
    go_wp2
    go_ret
    exact ⟨ret_bool (by rw [HR.out]; rfl), bwT⟩
  have q1 : (sx != sx2) = false := by have := H1.out; simp at this ⊢; exact this
  cases r2
  · have q2 : (fa != fa2) = true := by have := H2.out; simp at this ⊢; exact this
    go_enter Tryz.func86, Tryz.ntmps86
    go_wp2
    go_ret
    exact ⟨ret_bool (by rw [HR.out]; rfl), bwT⟩
  have q2 : (fa != fa2) = false := by have := H2.out; simp at this ⊢; exact this
  cases r3
  · have q3 : (mo != mo2) = true := by have := H3.out; simp at this ⊢; exact this
    go_enter Tryz.func86, Tryz.ntmps86
    go_wp2
    go_ret
    exact ⟨ret_bool (by rw [HR.out]; rfl), bwT⟩
  have q3 : (mo != mo2) = false := by have := H3.out; simp at this ⊢; exact this
  cases r4
  · have q4 : (bo != bo2) = true := by have := H4.out; simp at this ⊢; exact this
    go_enter Tryz.func86, Tryz.ntmps86
    go_wp2
    go_ret
    exact ⟨ret_bool (by rw [HR.out]; rfl), bwT⟩
  have q4 : (bo != bo2) = false := by have := H4.out; simp at this ⊢; exact this
  cases r5
  · have q5 : (di != di2) = true := by have := H5.out; simp at this ⊢; exact this
    go_enter Tryz.func86, Tryz.ntmps86
    go_wp2
    go_ret
    exact ⟨ret_bool (by rw [HR.out]; rfl), bwT⟩
  have q5 : (di != di2) = false := by have := H5.out; simp at this ⊢; exact this
  go_enter Tryz.func86, Tryz.ntmps86
  go_wp2
  go_ret
  exact ⟨ret_bool (by rw [HR.out]; rfl), bwT⟩
set_option maxHeartbeats 1000000 in
theorem toPerson_any (w : World) (nm : ByteArray) (sx : Int) (fa : Int) (mo : Int) (bo : Int) (di : Int) :
    Calls Tryz.prog 79 #[.agg #[.string nm, .int .i64 sx, .int .i64 fa, .int .i64 mo, .int .i64 bo, .int .i64 di]] w (PostV w (.agg #[.string nm, .int .i64 sx, .int .i64 fa, .int .i64 mo, .int .i64 bo, .int .i64 di])) := by
  go_enter Tryz.func79, Tryz.ntmps79
  go_wp2
  exact bodyPost_ret (v := .agg #[.string nm, .int .i64 sx, .int .i64 fa, .int .i64 mo, .int .i64 bo, .int .i64 di]) (by simp [results, go_sem]) rfl ⟨rfl, bwT⟩
theorem Ow.per_put {lo hi : Nat} {w : World} {xs : List Per} {b off n cap : Nat} (h : Ow lo hi w [.slice (some ⟨b, off, none⟩) n cap] xs) {i : Nat} (hi' : i < n) {nm : ByteArray} {sx : Int} {fa : Int} {mo : Int} {bo : Int} {di : Int} (h0 : nm.size ≤ maxLen) (h1 : I64 sx) (h2 : I64 fa) (h3 : I64 mo) (h4 : I64 bo) (h5 : I64 di) :
    Ow lo hi ((((((w.setCell ⟨b, off + i * 6, none⟩ (.string nm)).setCell ⟨b, off + i * 6 + 1, none⟩ (.int .i64 sx)).setCell ⟨b, off + i * 6 + 2, none⟩ (.int .i64 fa)).setCell ⟨b, off + i * 6 + 3, none⟩ (.int .i64 mo)).setCell ⟨b, off + i * 6 + 4, none⟩ (.int .i64 bo)).setCell ⟨b, off + i * 6 + 5, none⟩ (.int .i64 di)) [.slice (some ⟨b, off, none⟩) n cap] (xs.set i (nm, sx, fa, mo, bo, di)) := by
  obtain ⟨b', off', nm0, sx0, fa0, mo0, bo0, di0, e, hx, -, -, -, -, -, -, g0, g1, g2, g3, g4, g5, -, -, -, -⟩ := h.rd.per_at hi'
  have hx := hx.out
  have hl : i < xs.length := (List.getElem?_eq_some_iff.1 hx).1
  have s1 := Ow.setc h (i := i) (j := 0) (x := (nm0, sx0, fa0, mo0, bo0, di0)) (y := (nm, sx0, fa0, mo0, bo0, di0)) (u := .string nm) (w' := w) hx (repPer_mk g0 g1 g2 g3 g4 g5) (by show 0 < 6; omega) (repPer_mk h0 g1 g2 g3 g4 g5)
  have e1 : (xs.set i (nm, sx0, fa0, mo0, bo0, di0))[i]? = some (nm, sx0, fa0, mo0, bo0, di0) := by simp [hl]
  have s2 := Ow.setc s1 (i := i) (j := 1) (x := (nm, sx0, fa0, mo0, bo0, di0)) (y := (nm, sx, fa0, mo0, bo0, di0)) (u := .int .i64 sx) (w' := w) e1 (repPer_mk h0 g1 g2 g3 g4 g5) (by show 1 < 6; omega) (repPer_mk h0 h1 g2 g3 g4 g5)
  rw [List.set_set] at s2
  have e2 : (xs.set i (nm, sx, fa0, mo0, bo0, di0))[i]? = some (nm, sx, fa0, mo0, bo0, di0) := by simp [hl]
  have s3 := Ow.setc s2 (i := i) (j := 2) (x := (nm, sx, fa0, mo0, bo0, di0)) (y := (nm, sx, fa, mo0, bo0, di0)) (u := .int .i64 fa) (w' := w) e2 (repPer_mk h0 h1 g2 g3 g4 g5) (by show 2 < 6; omega) (repPer_mk h0 h1 h2 g3 g4 g5)
  rw [List.set_set] at s3
  have e3 : (xs.set i (nm, sx, fa, mo0, bo0, di0))[i]? = some (nm, sx, fa, mo0, bo0, di0) := by simp [hl]
  have s4 := Ow.setc s3 (i := i) (j := 3) (x := (nm, sx, fa, mo0, bo0, di0)) (y := (nm, sx, fa, mo, bo0, di0)) (u := .int .i64 mo) (w' := w) e3 (repPer_mk h0 h1 h2 g3 g4 g5) (by show 3 < 6; omega) (repPer_mk h0 h1 h2 h3 g4 g5)
  rw [List.set_set] at s4
  have e4 : (xs.set i (nm, sx, fa, mo, bo0, di0))[i]? = some (nm, sx, fa, mo, bo0, di0) := by simp [hl]
  have s5 := Ow.setc s4 (i := i) (j := 4) (x := (nm, sx, fa, mo, bo0, di0)) (y := (nm, sx, fa, mo, bo, di0)) (u := .int .i64 bo) (w' := w) e4 (repPer_mk h0 h1 h2 h3 g4 g5) (by show 4 < 6; omega) (repPer_mk h0 h1 h2 h3 h4 g5)
  rw [List.set_set] at s5
  have e5 : (xs.set i (nm, sx, fa, mo, bo, di0))[i]? = some (nm, sx, fa, mo, bo, di0) := by simp [hl]
  have s6 := Ow.setc s5 (i := i) (j := 5) (x := (nm, sx, fa, mo, bo, di0)) (y := (nm, sx, fa, mo, bo, di)) (u := .int .i64 di) (w' := w) e5 (repPer_mk h0 h1 h2 h3 h4 g5) (by show 5 < 6; omega) (repPer_mk h0 h1 h2 h3 h4 h5)
  rw [List.set_set] at s6
  have e6 : (xs.set i (nm, sx, fa, mo, bo, di))[i]? = some (nm, sx, fa, mo, bo, di) := by simp [hl]
  simpa [Rep.sz, Nat.add_assoc] using s6

set_option maxRecDepth 20000 in
set_option maxHeartbeats 2000000 in
theorem eqPersonS_b {z z' : Bool} {lo hi lo' hi' : Nat} (w : World) (u v : Value) (xs ys : List Per) (h : Rd z lo hi w [u] xs) (h' : Rd z' lo' hi' w [v] ys) (r : Bool) (hr : r = decide (xs = ys)) :
    Calls Tryz.prog 45 #[u, v] w (PostB w r) := by
  subst hr
  obtain ⟨ao, n, cap, rfl, rfl, hnc, hcm, hnone⟩ := h.shape
  obtain ⟨ao', n', cap', rfl, rfl, hnc', hcm', hnone'⟩ := h'.shape
  unfold maxLen at *
  by_cases hl : xs.length = ys.length
  · have HL := Lib.hid hl
    have hl1 : ¬ xs.length < ys.length := by omega
    have hl2 : ¬ ys.length < xs.length := by omega
    have hbne : (((xs.length : Int)) != (ys.length : Int)) = false := by simp [hl]
    clear hl
    go_enter Tryz.func45, Tryz.ntmps45
    go_wp2
    go_loopw [5] (fun i wr => ∃ k : Nat, k ≤ xs.length ∧ i = .int .i64 k ∧ Hid (xs.take k = ys.take k) ∧ Below w.heap.size w wr) (fun i _ => xs.length - (intOf i).toNat)
    case atStart => exact ⟨0, Nat.zero_le _, rfl, rfl, Below.refl _ _⟩
    case round =>
      rename_i wr
      obtain ⟨k, hk, rfl, ht, hb⟩ := hrel
      have sW := hb.size
      by_cases hlt : k < xs.length
      · obtain ⟨b, off, nm, sx, fa, mo, bo, di, rfl, hx, p0, p1, p2, p3, p4, p5, -, -, -, -, -, -, -, -, hbl, -⟩ := (h.below hb).per_at hlt
        obtain ⟨b2, off2, nm2, sx2, fa2, mo2, bo2, di2, rfl, hy, q0, q1, q2, q3, q4, q5, -, -, -, -, -, -, -, -, hbl2, -⟩ := (h'.below hb).per_at (show k < ys.length by omega)
        have hlt' : k < ys.length := by omega
        have hI : (k : Int) < (xs.length : Int) := by omega
        have hI' : (k : Int) < (ys.length : Int) := by omega
        clear h h'
        obtain ⟨r1, hlet_r1⟩ : ∃ r, r = decide (((nm, sx, fa, mo, bo, di) : Per) = (nm2, sx2, fa2, mo2, bo2, di2)) := ⟨_, rfl⟩
        have H1 := Lib.hid hlet_r1
        clear hlet_r1
        have HT := Lib.hid (show r1 = true → xs.take (k + 1) = ys.take (k + 1) by
          intro e
          have e2 := of_decide_eq_true (H1.out.symm.trans e)
          rw [take_snoc hx.out, take_snoc hy.out, ht.out, e2])
        have HF := Lib.hid (show r1 = false → decide (xs = ys) = false by
          intro e
          have e2 := of_decide_eq_false (H1.out.symm.trans e)
          rw [decide_eq_false_iff_not]
          intro e3; subst e3
          have := hx.out.symm.trans hy.out
          exact e2 (Option.some.inj this))
        clear ht hx hy
        go_upto_region 6 with fail
        go_region_held3 (fun w' => w'.cell? ⟨b, off + k * 6, none⟩ = some (.string nm) ∧ w'.cell? ⟨b, off + k * 6 + 1, none⟩ = some (.int .i64 sx) ∧ w'.cell? ⟨b, off + k * 6 + 2, none⟩ = some (.int .i64 fa) ∧ w'.cell? ⟨b, off + k * 6 + 3, none⟩ = some (.int .i64 mo) ∧ w'.cell? ⟨b, off + k * 6 + 4, none⟩ = some (.int .i64 bo) ∧ w'.cell? ⟨b, off + k * 6 + 5, none⟩ = some (.int .i64 di) ∧ w'.cell? ⟨b2, off2 + k * 6, none⟩ = some (.string nm2) ∧ w'.cell? ⟨b2, off2 + k * 6 + 1, none⟩ = some (.int .i64 sx2) ∧ w'.cell? ⟨b2, off2 + k * 6 + 2, none⟩ = some (.int .i64 fa2) ∧ w'.cell? ⟨b2, off2 + k * 6 + 3, none⟩ = some (.int .i64 mo2) ∧ w'.cell? ⟨b2, off2 + k * 6 + 4, none⟩ = some (.int .i64 bo2) ∧ w'.cell? ⟨b2, off2 + k * 6 + 5, none⟩ = some (.int .i64 di2)) (go_keep) (first | (go_at_call 86; refine (eqPerson_b _ nm sx fa mo bo di nm2 sx2 fa2 mo2 bo2 di2 r1 H1.out).mono ?_; rintro e w1 ⟨rfl, hb1⟩; have hB1 : Below w.heap.size w w1 := Below.after bwT hb1 (by first | omega | (simp; omega) | simp); obtain ⟨hc1, hf1⟩ := bcell hb1; (try simp only [World.size_alloc, World.size_drew] at hc1 hf1)))
        cases r1
        · go_wp2
          go_ret
          exact ⟨ret_bool (HF.out (by trivial)).symm, hB1⟩
        · have HT2 := Lib.hid (HT.out (by trivial))
          go_wp2
          go_roundw
          case rel => exact ⟨k + 1, by omega, by go_num, HT2, hB1⟩
          case measure => simp [intOf]; omega
      · have HF : Hid (decide (xs = ys) = true) := by
          have e := ht.out
          rw [List.take_of_length_le (by omega), List.take_of_length_le (by omega)] at e
          exact decide_eq_true e
        clear h h' ht
        go_wp2
        go_ret
        exact ⟨ret_bool HF.out.symm, hb⟩
  · have HF : Hid (decide (xs = ys) = false) := by
      simp only [decide_eq_false_iff_not]
      intro e; subst e; exact hl rfl
    have hbne : (((xs.length : Int)) != (ys.length : Int)) = true := by simp; omega
    clear hl h h'
    go_enter Tryz.func45, Tryz.ntmps45
    go_wp2
    go_ret
    exact ⟨ret_bool HF.out.symm, Below.refl _ _⟩

set_option maxRecDepth 20000 in
set_option maxHeartbeats 2000000 in
theorem toPersonS_any {z : Bool} {lo hi : Nat} (w : World) (v : Value) (xs : List Per) (h : Rd z lo hi w [v] xs) (hl : xs.length ≤ 1048576) :
    Calls Tryz.prog 39 #[v] w (PostOw w xs) := by
  obtain ⟨ao, n, cap, rfl, rfl, hnc, hcm, hnone⟩ := h.shape
  unfold maxLen at *
  go_enter Tryz.func39, Tryz.ntmps39
  go_wp2_with (at_make; refine wpList_mk (α := Per) rfl rfl slPerson (y0 := (ByteArray.empty, 0, 0, 0, 0, 0)) (fun _ => repPer_mk (by simp [maxLen]) (by unfold I64; omega) (by unfold I64; omega) (by unfold I64; omega) (by unfold I64; omega) (by unfold I64; omega)) rfl rfl rfl rfl (by omega) (by unfold maxLen; omega) ?_; intro w1 how hb1 hlt)
  go_loopw [4] (fun i wr => ∃ k : Nat, k ≤ xs.length ∧ i = .int .i64 k ∧ Ow w.heap.size (w.heap.size + 1) wr [.slice (some ⟨w.heap.size, 0, none⟩) xs.length xs.length] (xs.take k ++ List.replicate (xs.length - k) (ByteArray.empty, 0, 0, 0, 0, 0)) ∧ Below w.heap.size w wr) (fun i _ => xs.length - (intOf i).toNat)
  case atStart => exact ⟨0, Nat.zero_le _, rfl, by simpa using how, hb1⟩
  case round =>
    rename_i wr
    obtain ⟨k, hk, rfl, how', hb⟩ := hrel
    have sW := hb.size
    clear how hb1 hlt
    by_cases hlt : k < xs.length
    · obtain ⟨b, off, nm, sx, fa, mo, bo, di, rfl, hx, p0, p1, p2, p3, p4, p5, g0, g1, g2, g3, g4, g5, -, -, hbl, -⟩ := (h.below hb).per_at hlt
      go_wp2_with fail
      refine (toPerson_any _ nm sx fa mo bo di).mono ?_
      rintro e w2 ⟨rfl, hb2⟩
      have how2 := how'.below hb2
      have hB2 : Below w.heap.size w w2 := Below.after hb hb2 sW
      obtain ⟨_, _, nm0, sx0, fa0, mo0, bo0, di0, ee, -, q0, q1, q2, q3, q4, q5, -, -, -, -, -, -, -, -, hbl2, hf2⟩ := how2.rd.per_at hlt
      simp only [Option.some.injEq, Addr.mk.injEq, and_true] at ee
      obtain ⟨rfl, rfl⟩ := ee
      have hf2 := hf2 rfl
      have hset := how2.per_put hlt g0 g1 g2 g3 g4 g5
      rw [take_rep_snoc hx.out] at hset
      simp only [Nat.zero_add] at hset q0 q1 q2 q3 q4 q5
      have HS := Lib.hid hset
      have hI : (k : Int) < (xs.length : Int) := by omega
      clear hset how2 how' h hx p0 p1 p2 p3 p4 p5 hb2
      go_wp2
      go_roundw
      case rel => exact ⟨k + 1, by omega, by go_num, HS.out, bwT⟩
      case measure => simp [intOf]; omega
    · have e : k = xs.length := by omega
      subst e
      have HS := Lib.hid how'.top
      clear how' h
      go_wp2
      go_ret
      exact ⟨_, rfl, by simpa using HS.out, hb⟩

end

/-! ### ParS -/
section

set_option maxRecDepth 20000 in
set_option maxHeartbeats 4000000 in
theorem parS_b {z : Bool} {lo hi : Nat} (w : World) (v v2 : Value) (ps : List Per) (h : Rd z lo hi w [v] ps) (k : Nat) (hP : PplTo ps k) {nm : ByteArray} {sx fa mo born di : Int} (hk : ps[k]? = some (nm, sx, fa, mo, born, di)) (q : Int) (sex late : Int) (hl0 : 0 ≤ late) (hl1 : late ≤ 1)
    (r : Bool) (hr : r = upOk ps k born q sex late) :
    Calls Tryz.prog 170 #[.agg #[v, v2], .int .i64 k, .int .i64 q, .int .i64 sex, .int .i64 late] w (PostB w r) := by
  obtain ⟨ao, n, cap, rfl, rfl, hnc, hcm, hnone⟩ := h.shape
  unfold maxLen at *
  have hkl : k < ps.length := (List.getElem?_eq_some_iff.1 hk).1
  have HR := Lib.hid hr
  clear hr
  by_cases h1 : q = -1
  · obtain rfl : r = true := by rw [HR.out, upOk]; simp [h1]
    subst h1
    clear h hP
    go_enter Tryz.func170, Tryz.ntmps170
    go_wp2
    go_ret
    exact ⟨rfl, bwT⟩
  have h1' : (q == -1) = false := by simpa using h1
  by_cases h2 : 0 ≤ q ∧ q < k
  · obtain ⟨m, rfl⟩ := Int.eq_ofNat_of_zero_le h2.1
    have hm : m < k := by omega
    obtain ⟨b, off, nm0, sx0, fa0, mo0, bo0, di0, rfl, hx, p0, p1, p2, p3, p4, p5, g0, g1, g2, g3, g4, g5, -, -, hbl, -⟩ := h.per_at (show m < ps.length by omega)
    obtain ⟨_, _, nm1, sx1, fa1, mo1, bo1, di1, ee, hy, -, -, -, -, c4, -, -, -, -, -, -, -, -, -, -, -⟩ := h.per_at hkl
    simp only [Option.some.injEq, Addr.mk.injEq, and_true] at ee
    obtain ⟨rfl, rfl⟩ := ee
    obtain ⟨rfl, rfl, rfl, rfl, rfl, rfl⟩ : nm = nm1 ∧ sx = sx1 ∧ fa = fa1 ∧ mo = mo1 ∧ born = bo1 ∧ di = di1 := by
      have := hk.symm.trans hy.out
      simpa using this
    obtain ⟨-, f2, f3, -⟩ := hP.at hm hx.out
    have HB := Lib.hid (show r = (decide (sx0 = sex) && (decide (bo0 < born) && (decide (di0 = -1) || decide (born ≤ di0 + late)))) by
      rw [HR.out, upOk, upC, Int.toNat_natCast, hx.out]
      have e1 : ¬ ((m : Nat) : Int) = -1 := by omega
      have e2 : (0 : Int) ≤ ((m : Nat) : Int) ∧ ((m : Nat) : Int) < (k : Int) := by omega
      simp only [e1, e2, decide_false, decide_true, and_self, Bool.false_or, Bool.true_and]
      rw [Bool.decide_or])
    have hI1 : ¬ ((m : Nat) : Int) < 0 := by omega
    have hI2 : ¬ ((k : Nat) : Int) ≤ ((m : Nat) : Int) := by omega
    have hI3 : ((m : Nat) : Int) < (ps.length : Int) := by omega
    have hI4 : ((k : Nat) : Int) < (ps.length : Int) := by omega
    have hwr : IntKind.i64.wrap (di0 + late) = di0 + late := IntWalk.i64_in _ (by omega)
    have nb1 : ¬ b = w.heap.size := by omega
    have nb2 : ¬ w.heap.size = b := by omega
    clear h hP hx hy hk HR h2 f2 f3
    by_cases q1 : sx0 = sex
    · have q1' : (sx0 != sex) = false := by simpa using q1
      by_cases q2 : bo0 < born
      · by_cases q3 : di0 = -1
        · have q3' : (di0 == -1) = true := by simpa using q3
          obtain rfl : r = true := by rw [HB.out]; simp [*]
          clear HB
          go_enter Tryz.func170, Tryz.ntmps170
          go_wp2
          go_ret
          exact ⟨rfl, bwT⟩
        · have q3' : (di0 == -1) = false := by simpa using q3
          by_cases q4 : born ≤ di0 + late
          · obtain rfl : r = true := by rw [HB.out]; simp [*]
            clear HB
            go_enter Tryz.func170, Tryz.ntmps170
            go_wp2
            go_ret
            exact ⟨rfl, bwT⟩
          · have q4' : decide (born ≤ di0 + late) = false := by simpa using q4
            obtain rfl : r = false := by rw [HB.out]; simp [q1, q2, q3, q4]
            clear HB
            go_enter Tryz.func170, Tryz.ntmps170
            go_wp2
            go_ret
            exact ⟨rfl, bwT⟩
      · have q2' : decide (bo0 < born) = false := by simpa using q2
        obtain rfl : r = false := by rw [HB.out]; simp [q1, q2]
        clear HB
        go_enter Tryz.func170, Tryz.ntmps170
        go_wp2
        go_ret
        exact ⟨rfl, bwT⟩
    · have q1' : (sx0 != sex) = true := by simpa using q1
      obtain rfl : r = false := by rw [HB.out]; simp [q1]
      clear HB
      go_enter Tryz.func170, Tryz.ntmps170
      go_wp2
      go_ret
      exact ⟨rfl, bwT⟩
  · obtain rfl : r = false := by rw [HR.out, upOk]; simp [h1]; omega
    clear h hP HR
    go_enter Tryz.func170, Tryz.ntmps170
    go_wp2
    all_goals first
      | (exfalso; omega)
      | (go_ret; exact ⟨rfl, bwT⟩)

end

/-! ### PerS -/
section

set_option maxRecDepth 20000 in
set_option maxHeartbeats 4000000 in
theorem perS_b {z : Bool} {lo hi : Nat} (w : World) (v v2 : Value) (ps : List Per) (h : Rd z lo hi w [v] ps) (i : Nat) (hil : i < ps.length) (hP : PplTo ps i) (r : Bool) (hr : r = perOk ps i) :
    Calls Tryz.prog 136 #[.agg #[v, v2], .int .i64 i] w (PostB w r) := by
  obtain ⟨ao, n, cap, rfl, rfl, hnc, hcm, hnone⟩ := h.shape
  unfold maxLen at *
  obtain ⟨b, off, nm, sx, fa, mo, bo, di, rfl, hx, p0, p1, p2, p3, p4, p5, g0, g1, g2, g3, g4, g5, -, -, hbl, -⟩ := h.per_at hil
  rw [perOk_at hx.out] at hr
  have hR : Rd z lo hi w [.slice (some ⟨b, off, none⟩) ps.length cap] ps := h
  obtain ⟨r1, hlet_r1⟩ : ∃ r, r = nameOk nm := ⟨_, rfl⟩
  have H1 := Lib.hid hlet_r1
  clear hlet_r1
  obtain ⟨r2, hr2⟩ : ∃ r, r = decide ((1 : Int) ≤ sx ∧ sx ≤ 2) := ⟨_, rfl⟩
  have H2 := Lib.hid hr2
  have H2b := Lib.hid (show decide (sx = 1 ∨ sx = 2) = r2 by rw [hr2]; congr 1; apply propext; omega)
  clear hr2
  obtain ⟨r3, hlet_r3⟩ : ∃ r, r = decide ((0 : Int) ≤ bo ∧ bo ≤ 9999) := ⟨_, rfl⟩
  have H3 := Lib.hid hlet_r3
  clear hlet_r3
  obtain ⟨r4, hlet_r4⟩ : ∃ r, r = decide (di = -1 ∨ (bo ≤ di ∧ di ≤ 9999)) := ⟨_, rfl⟩
  have H4 := Lib.hid hlet_r4
  clear hlet_r4
  obtain ⟨dup, hlet_dup⟩ : ∃ r, r = decide (nm ∈ (ps.take i).map (·.1)) := ⟨_, rfl⟩
  have H5 := Lib.hid hlet_dup
  clear hlet_dup
  obtain ⟨r6, hlet_r6⟩ : ∃ r, r = upOk ps i bo fa 1 1 := ⟨_, rfl⟩
  have H6 := Lib.hid hlet_r6
  clear hlet_r6
  obtain ⟨r7, hlet_r7⟩ : ∃ r, r = upOk ps i bo mo 2 0 := ⟨_, rfl⟩
  have H7 := Lib.hid hlet_r7
  clear hlet_r7
  have HR := Lib.hid (show r = (r1 && (r2 && (r3 && (r4 && (!dup && (r6 && r7)))))) by rw [hr, perC, H1.out, H2b.out, H3.out, H4.out, H5.out, H6.out, H7.out])
  clear hr H2b
  have hI : (i : Int) < (ps.length : Int) := by omega
  go_enter Tryz.func136, Tryz.ntmps136
  go_wp2_with fail
  refine (isNameS_b _ nm g0 r1 H1.out).mono ?_
  rintro e1 w1 ⟨rfl, hbw1⟩
  have hpw1 : Below w.heap.size w w1 := Below.after bwT hbw1 szT
  have sw1 := hpw1.size
  have hBw1 : Below w.heap.size w w1 := hpw1
  have l_f : w.heap.size < w1.heap.size := by have := hbw1.size; simp at this; omega
  have q_f0 : w1.cell? ⟨w.heap.size, 0, none⟩ = some (.slice (some ⟨b, off, none⟩) ps.length cap) := oldc hbw1 ltT (by simp [go_sem])
  have q_f1 : w1.cell? ⟨w.heap.size, 1, none⟩ = some (v2) := oldc hbw1 ltT (by simp [go_sem])
  have l_p : w.heap.size + 1 < w1.heap.size := by have := hbw1.size; simp at this; omega
  have q_p0 : w1.cell? ⟨w.heap.size + 1, 0, none⟩ = some (.string nm) := oldc hbw1 ltT (by simp [go_sem])
  have q_p1 : w1.cell? ⟨w.heap.size + 1, 1, none⟩ = some (.int .i64 sx) := oldc hbw1 ltT (by simp [go_sem])
  have q_p2 : w1.cell? ⟨w.heap.size + 1, 2, none⟩ = some (.int .i64 fa) := oldc hbw1 ltT (by simp [go_sem])
  have q_p3 : w1.cell? ⟨w.heap.size + 1, 3, none⟩ = some (.int .i64 mo) := oldc hbw1 ltT (by simp [go_sem])
  have q_p4 : w1.cell? ⟨w.heap.size + 1, 4, none⟩ = some (.int .i64 bo) := oldc hbw1 ltT (by simp [go_sem])
  have q_p5 : w1.cell? ⟨w.heap.size + 1, 5, none⟩ = some (.int .i64 di) := oldc hbw1 ltT (by simp [go_sem])
  clear hbw1 hpw1
  cases r1
  · go_wp2
    go_ret
    exact ⟨ret_bool (by rw [HR.out]; rfl), bwT⟩
  go_wp2_with fail
  refine (l1In_b _ _ _ _ r2 H2.out).mono ?_
  rintro e2 w2 ⟨rfl, hbw2⟩
  have hpw2 : Below w1.heap.size w1 w2 := Below.after bwT hbw2 szT
  have sw2 := hpw2.size
  have hBw2 : Below w.heap.size w w2 := Below.trans hBw1 (Below.mono hpw2 hBw1.size)
  have q_f0 := oldc hpw2 l_f q_f0
  have q_f1 := oldc hpw2 l_f q_f1
  have q_p0 := oldc hpw2 l_p q_p0
  have q_p1 := oldc hpw2 l_p q_p1
  have q_p2 := oldc hpw2 l_p q_p2
  have q_p3 := oldc hpw2 l_p q_p3
  have q_p4 := oldc hpw2 l_p q_p4
  have q_p5 := oldc hpw2 l_p q_p5
  have l_f := Nat.lt_of_lt_of_le l_f sw2
  have l_p := Nat.lt_of_lt_of_le l_p sw2
  clear hbw2 hpw2
  cases r2
  · go_wp2
    go_ret
    exact ⟨ret_bool (by rw [HR.out]; rfl), bwT⟩
  go_wp2_with fail
  refine (l1In_b _ _ _ _ r3 H3.out).mono ?_
  rintro e3 w3 ⟨rfl, hbw3⟩
  have hpw3 : Below w2.heap.size w2 w3 := Below.after bwT hbw3 szT
  have sw3 := hpw3.size
  have hBw3 : Below w.heap.size w w3 := Below.trans hBw2 (Below.mono hpw3 hBw2.size)
  have q_f0 := oldc hpw3 l_f q_f0
  have q_f1 := oldc hpw3 l_f q_f1
  have q_p0 := oldc hpw3 l_p q_p0
  have q_p1 := oldc hpw3 l_p q_p1
  have q_p2 := oldc hpw3 l_p q_p2
  have q_p3 := oldc hpw3 l_p q_p3
  have q_p4 := oldc hpw3 l_p q_p4
  have q_p5 := oldc hpw3 l_p q_p5
  have l_f := Nat.lt_of_lt_of_le l_f sw3
  have l_p := Nat.lt_of_lt_of_le l_p sw3
  clear hbw3 hpw3
  cases r3
  · go_wp2
    go_ret
    exact ⟨ret_bool (by rw [HR.out]; rfl), bwT⟩
  have hBX := hBw3
  clear p0 p1 p2 p3 p4 p5
  by_cases s4 : di = -1
  case' pos =>
    have s4' : (di != -1) = false := by simpa using s4
    obtain ⟨WY, hWY⟩ : ∃ W : World, W = w3 := ⟨_, rfl⟩
    subst hWY
    have hBY : Below w.heap.size w WY := hBw3
    obtain rfl : r4 = true := by rw [H4.out]; simp [s4]
  case' neg =>
    have s4' : (di != -1) = true := by simpa using s4
    have H4c := Lib.hid (show r4 = decide (bo ≤ di ∧ di ≤ 9999) by rw [H4.out]; simp [s4])
    go_wp2_with fail
    refine (l1In_b _ _ _ _ r4 H4c.out).mono ?_
    rintro e WY ⟨rfl, hXY⟩
    have hBY : Below w.heap.size w WY := Below.after hBX hXY hBX.size
    have sXY := hXY.size
    have q_f0 := oldc hXY l_f q_f0
    have q_f1 := oldc hXY l_f q_f1
    have q_p0 := oldc hXY l_p q_p0
    have q_p1 := oldc hXY l_p q_p1
    have q_p2 := oldc hXY l_p q_p2
    have q_p3 := oldc hXY l_p q_p3
    have q_p4 := oldc hXY l_p q_p4
    have q_p5 := oldc hXY l_p q_p5
    have l_f := Nat.lt_of_lt_of_le l_f sXY
    have l_p := Nat.lt_of_lt_of_le l_p sXY
    cases r4
    · go_wp2
      go_ret
      exact ⟨ret_bool (by rw [HR.out]; rfl), bwT⟩
  all_goals
    clear hBX
    go_wp2
    go_loopw [6] (fun s6 wr => ∃ j : Nat, j ≤ i ∧ s6 = .int .i64 j ∧ Hid (dup = decide (nm ∈ ((ps.take i).drop j).map (·.1))) ∧ Below WY.heap.size WY wr) (fun s6 _ => i - (intOf s6).toNat)
    case atStart => exact ⟨0, Nat.zero_le _, rfl, Lib.hid (by simpa using H5.out), Below.refl _ _⟩
    case round =>
      rename_i wr
      obtain ⟨j, hj, rfl, hd, hb⟩ := hrel
      have sW := hb.size
      have hbw : Below w.heap.size w wr := Below.trans hBY (hb.mono hBY.size)
      have q_f0 := oldc hb l_f q_f0
      have q_f1 := oldc hb l_f q_f1
      have q_p0 := oldc hb l_p q_p0
      have q_p2 := oldc hb l_p q_p2
      have q_p3 := oldc hb l_p q_p3
      have l_f := Nat.lt_of_lt_of_le l_f sW
      have l_p := Nat.lt_of_lt_of_le l_p sW
      clear H5
      by_cases hlt : j < i
      · obtain ⟨_, _, nm2, sx2, fa2, mo2, bo2, di2, ee, hy, c0, c1, c2, c3, c4, c5, -, -, -, -, -, -, -, -, hbl2, -⟩ := (h.below hbw).per_at (show j < ps.length by omega)
        simp only [Option.some.injEq, Addr.mk.injEq, and_true] at ee
        obtain ⟨rfl, rfl⟩ := ee
        have hjI : (j : Int) < (i : Int) := by omega
        have hjn : (j : Int) < (ps.length : Int) := by omega
        have hy2 : (ps.take i)[j]? = some (nm2, sx2, fa2, mo2, bo2, di2) := by rw [List.getElem?_take, if_pos hlt]; exact hy.out
        have HS := Lib.hid (drop_cons hy2)
        clear hy hy2 h hP hR
        by_cases m1 : nm2 = nm
        · have m1' : (nm2.toList == nm.toList) = true := by rw [text_eq]; simpa using m1
          have HX := Lib.hid (show false = r by rw [HR.out, hd.out, HS.out]; simp [m1])
          clear hd HS HR
          go_wp2_with fail
          go_quiet (fail)
          go_wp2
          go_ret
          exact ⟨ret_bool HX.out, bwT⟩
        · have m1' : (nm2.toList == nm.toList) = false := by rw [text_eq]; simpa using m1
          have HN := Lib.hid (show dup = decide (nm ∈ ((ps.take i).drop (j + 1)).map (·.1)) by
            rw [hd.out, HS.out]
            have : ¬ nm = nm2 := fun e => m1 e.symm
            simp [this])
          clear hd HS
          go_wp2_with fail
          go_quiet (fail)
          go_wp2
          go_roundw
          case rel => exact ⟨j + 1, by omega, by go_num, HN, bwT⟩
          case measure => simp [intOf]; omega
      · have HD := Lib.hid (show dup = false by rw [hd.out, List.drop_eq_nil_of_le (by simp; omega)]; rfl)
        clear hd
        have hjI : ¬ (j : Int) < (i : Int) := by omega
        go_wp2_with fail
        refine (parS_b _ _ v2 ps (hR.below bwT) i hP hx.out fa 1 1 (by omega) (by omega) r6 H6.out).mono ?_
        rintro e w8 ⟨rfl, hb8⟩
        have hB8 : Below w.heap.size w w8 := Below.after hbw hb8 hbw.size
        have q_f0 := oldc hb8 l_f q_f0
        have q_f1 := oldc hb8 l_f q_f1
        have q_p3 := oldc hb8 l_p q_p3
        cases r6
        · go_wp2
          go_ret
          exact ⟨ret_bool (by rw [HR.out, HD.out]; rfl), hB8⟩
        go_wp2_with fail
        refine (parS_b _ _ v2 ps (hR.below bwT) i hP hx.out mo 2 0 (by omega) (by omega) r7 H7.out).mono ?_
        rintro e w9 ⟨rfl, hb9⟩
        have hB9 : Below w.heap.size w w9 := Below.after hB8 hb9 hB8.size
        go_wp2
        go_ret
        exact ⟨ret_bool (by rw [HR.out, HD.out]; rfl), hB9⟩

end

/-! ### DepS -/
section

set_option maxRecDepth 20000 in
set_option maxHeartbeats 4000000 in
theorem depS_any {z : Bool} {lo hi : Nat} (w : World) (v v2 : Value) (ps : List Per) (h : Rd z lo hi w [v] ps) (hP : PplTo ps ps.length) (hl : ps.length ≤ 40) :
    Calls Tryz.prog 137 #[.agg #[v, v2]] w (PostOw w (deps ps)) := by
  obtain ⟨ao, n, cap, rfl, rfl, hnc, hcm, hnone⟩ := h.shape
  unfold maxLen at *
  go_enter Tryz.func137, Tryz.ntmps137
  go_wp2
  go_loopw [3, 5, 6, 11] (fun s3 _ _ s11 wr => ∃ k : Nat, k ≤ ps.length ∧ s11 = .int .i64 k ∧ GL true (w.heap.size + 1) (w.heap.size + 1) wr.heap.size wr 3 s3 (deps (ps.take k)) ∧ Below (w.heap.size + 1) (w.alloc (.cells #[.slice ao ps.length cap, v2] 37)) wr) (fun _ _ _ s11 _ => ps.length - (intOf s11).toNat)
  case atStart => exact ⟨0, Nat.zero_le _, rfl, (by have h := (GL.lit0 (α := Int) true (w.heap.size + 1) (w.heap.size + 1) (w.alloc (.cells #[.slice ao ps.length cap, v2] 37)) 3 (by simp)).top; simpa [deps] using h), bwT⟩
  case round =>
    rename_i wr
    obtain ⟨k, hk, rfl, hG, hb⟩ := hrel
    have sW := hb.size
    simp only [World.size_alloc] at sW
    have hbw : Below w.heap.size w wr := Below.trans ((Below.refl _ _).alloc (Nat.le_refl _) _) (hb.mono (by omega))
    by_cases hlt : k < ps.length
    · have hI : (k : Int) < (ps.length : Int) := by omega
      obtain ⟨b, off, nm, sx, fa, mo, bo, di, rfl, hx, p0, p1, p2, p3, p4, p5, g0, g1, g2, g3, g4, g5, -, -, hbl, -⟩ := (h.below hbw).per_at hlt
      obtain ⟨-, -, -, ffa, fmo, -⟩ := hP.at hlt hx.out
      have hbd := deps_bd ps k hk
      have hdl : (deps (ps.take k)).length = k := by rw [deps_len]; simp; omega
      have HD := Lib.hid (show deps (ps.take (k + 1)) = deps (ps.take k) ++ [depOf (deps (ps.take k)) fa mo] by rw [take_snoc hx.out, deps_snoc])
      obtain ⟨D, hD⟩ : ∃ D, D = deps (ps.take k) := ⟨_, rfl⟩
      rw [← hD] at hG hbd hdl HD
      clear hD hx hP
      rcases ffa with rfl | ffa
      · have ef : dep1 D (-1) = 0 := rfl
        rcases fmo with rfl | fmo
        · have em : dep1 D (-1) = 0 := rfl
          have HE := Lib.hid (show depOf D (-1) (-1) = (0 : Int) by unfold depOf; rw [ef]; (try rw [em]); omega)
          have hE0 : 0 ≤ (0 : Int) ∧ (0 : Int) ≤ 100 := by omega
          go_wp2_with (at_builtin; refine wpList_push rfl rfl slInt (by show (0 : Nat) < 1; omega) (hG.below bwT) rfl (ad := ⟨wr.heap.size + 1, 0, none⟩) rfl (cs := [.int .i64 ((0 : Int))]) (y := (0 : Int)) (lx := wr.heap.size) (hx' := wr.heap.size) (by intro j c hj; match j, hj with | 0, hj => simp at hj; subst hj; simp [Addr.add, go_sem]) (It.flat (z := true) (w0 := wr) (fp := []) ⟨rfl, ⟨by omega, by omega⟩, rfl⟩) (by omega) (.inl (Nat.le_refl _)) (by unfold maxLen; omega) (by omega) (by simp; omega) ?_)
          intro v' w1 hG1 _ hb1
          rw [← HE.out, ← HD.out] at hG1
          have HG := Lib.hid hG1
          have hB1 : Below (w.heap.size + 1) (w.alloc (.cells #[.slice (some ⟨b, off, none⟩) ps.length cap, v2] 37)) w1 := Below.trans bwT hb1
          clear hG hG1 hb1 h HD HE
          go_wp2
          go_roundw
          case rel => exact ⟨k + 1, by omega, by go_num, HG.out, hB1⟩
          case measure => simp [intOf]; omega
        obtain ⟨my, rfl⟩ := Int.eq_ofNat_of_zero_le fmo.1
        obtain ⟨g, cpg, y, rfl, hy, hcy, hiy, -, -, gzy, -⟩ := hG.int_at (i := my) (by omega)
        have hby := hbd y (List.mem_of_getElem? hy.out)
        have em : dep1 D ((my : Nat) : Int) = y + 1 := by
          rw [dep1, if_pos (by omega), Int.toNat_natCast, List.getD_eq_getElem?_getD, hy.out]; rfl
        have ly : ((my : Nat) : Int) < (D.length : Int) := by omega
        have ky : (0 : Int) ≤ ((my : Nat) : Int) := by omega
        have gny : ¬ g = wr.heap.size := by omega
        have gmy : ¬ wr.heap.size = g := by omega
        have wy : wrap64 (y + 1) = y + 1 := IntWalk.wrap64_in _ (by omega)
        clear hy
        have c0 : (0 : Int) < y + 1 := by omega
        have HE := Lib.hid (show depOf D (-1) ((my : Nat) : Int) = (y + 1) by unfold depOf; rw [ef]; (try rw [em]); omega)
        have hE0 : 0 ≤ (y + 1) ∧ (y + 1) ≤ 100 := by omega
        go_wp2_with (at_builtin; refine wpList_push rfl rfl slInt (by show (0 : Nat) < 1; omega) (hG.below bwT) rfl (ad := ⟨wr.heap.size + 1, 0, none⟩) rfl (cs := [.int .i64 ((y + 1))]) (y := (y + 1)) (lx := wr.heap.size) (hx' := wr.heap.size) (by intro j c hj; match j, hj with | 0, hj => simp at hj; subst hj; simp [Addr.add, go_sem]) (It.flat (z := true) (w0 := wr) (fp := []) ⟨rfl, ⟨by omega, by omega⟩, rfl⟩) (by omega) (.inl (Nat.le_refl _)) (by unfold maxLen; omega) (by omega) (by simp; omega) ?_)
        intro v' w1 hG1 _ hb1
        rw [← HE.out, ← HD.out] at hG1
        have HG := Lib.hid hG1
        have hB1 : Below (w.heap.size + 1) (w.alloc (.cells #[.slice (some ⟨b, off, none⟩) ps.length cap, v2] 37)) w1 := Below.trans bwT hb1
        clear hG hG1 hb1 h HD HE
        go_wp2
        go_roundw
        case rel => exact ⟨k + 1, by omega, by go_num, HG.out, hB1⟩
        case measure => simp [intOf]; omega
      obtain ⟨mx, rfl⟩ := Int.eq_ofNat_of_zero_le ffa.1
      obtain ⟨g, cpg, x, rfl, hx, hcx, hix, -, -, gzx, -⟩ := hG.int_at (i := mx) (by omega)
      have hbx := hbd x (List.mem_of_getElem? hx.out)
      have ef : dep1 D ((mx : Nat) : Int) = x + 1 := by
        rw [dep1, if_pos (by omega), Int.toNat_natCast, List.getD_eq_getElem?_getD, hx.out]; rfl
      have lx : ((mx : Nat) : Int) < (D.length : Int) := by omega
      have kx : (0 : Int) ≤ ((mx : Nat) : Int) := by omega
      have gnx : ¬ g = wr.heap.size := by omega
      have gmx : ¬ wr.heap.size = g := by omega
      have wx : wrap64 (x + 1) = x + 1 := IntWalk.wrap64_in _ (by omega)
      clear hx
      rcases fmo with rfl | fmo
      · have em : dep1 D (-1) = 0 := rfl
        have HE := Lib.hid (show depOf D ((mx : Nat) : Int) (-1) = (x + 1) by unfold depOf; rw [ef]; (try rw [em]); omega)
        have hE0 : 0 ≤ (x + 1) ∧ (x + 1) ≤ 100 := by omega
        go_wp2_with (at_builtin; refine wpList_push rfl rfl slInt (by show (0 : Nat) < 1; omega) (hG.below bwT) rfl (ad := ⟨wr.heap.size + 1, 0, none⟩) rfl (cs := [.int .i64 ((x + 1))]) (y := (x + 1)) (lx := wr.heap.size) (hx' := wr.heap.size) (by intro j c hj; match j, hj with | 0, hj => simp at hj; subst hj; simp [Addr.add, go_sem]) (It.flat (z := true) (w0 := wr) (fp := []) ⟨rfl, ⟨by omega, by omega⟩, rfl⟩) (by omega) (.inl (Nat.le_refl _)) (by unfold maxLen; omega) (by omega) (by simp; omega) ?_)
        intro v' w1 hG1 _ hb1
        rw [← HE.out, ← HD.out] at hG1
        have HG := Lib.hid hG1
        have hB1 : Below (w.heap.size + 1) (w.alloc (.cells #[.slice (some ⟨b, off, none⟩) ps.length cap, v2] 37)) w1 := Below.trans bwT hb1
        clear hG hG1 hb1 h HD HE
        go_wp2
        go_roundw
        case rel => exact ⟨k + 1, by omega, by go_num, HG.out, hB1⟩
        case measure => simp [intOf]; omega
      obtain ⟨my, rfl⟩ := Int.eq_ofNat_of_zero_le fmo.1
      obtain ⟨_, _, y, ee, hy, hcy, hiy, -, -, gzy, -⟩ := hG.int_at (i := my) (by omega)
      simp only [Value.slice.injEq, Option.some.injEq, Addr.mk.injEq, and_true, true_and] at ee
      obtain ⟨rfl, rfl⟩ := ee
      have hby := hbd y (List.mem_of_getElem? hy.out)
      have em : dep1 D ((my : Nat) : Int) = y + 1 := by
        rw [dep1, if_pos (by omega), Int.toNat_natCast, List.getD_eq_getElem?_getD, hy.out]; rfl
      have ly : ((my : Nat) : Int) < (D.length : Int) := by omega
      have ky : (0 : Int) ≤ ((my : Nat) : Int) := by omega
      have gny : ¬ g = wr.heap.size := by omega
      have gmy : ¬ wr.heap.size = g := by omega
      have wy : wrap64 (y + 1) = y + 1 := IntWalk.wrap64_in _ (by omega)
      clear hy
      by_cases c0 : x + 1 < y + 1
      · have HE := Lib.hid (show depOf D ((mx : Nat) : Int) ((my : Nat) : Int) = (y + 1) by unfold depOf; rw [ef]; (try rw [em]); omega)
        have hE0 : 0 ≤ (y + 1) ∧ (y + 1) ≤ 100 := by omega
        go_wp2_with (at_builtin; refine wpList_push rfl rfl slInt (by show (0 : Nat) < 1; omega) (hG.below bwT) rfl (ad := ⟨wr.heap.size + 1, 0, none⟩) rfl (cs := [.int .i64 ((y + 1))]) (y := (y + 1)) (lx := wr.heap.size) (hx' := wr.heap.size) (by intro j c hj; match j, hj with | 0, hj => simp at hj; subst hj; simp [Addr.add, go_sem]) (It.flat (z := true) (w0 := wr) (fp := []) ⟨rfl, ⟨by omega, by omega⟩, rfl⟩) (by omega) (.inl (Nat.le_refl _)) (by unfold maxLen; omega) (by omega) (by simp; omega) ?_)
        intro v' w1 hG1 _ hb1
        rw [← HE.out, ← HD.out] at hG1
        have HG := Lib.hid hG1
        have hB1 : Below (w.heap.size + 1) (w.alloc (.cells #[.slice (some ⟨b, off, none⟩) ps.length cap, v2] 37)) w1 := Below.trans bwT hb1
        clear hG hG1 hb1 h HD HE
        go_wp2
        go_roundw
        case rel => exact ⟨k + 1, by omega, by go_num, HG.out, hB1⟩
        case measure => simp [intOf]; omega
      have HE := Lib.hid (show depOf D ((mx : Nat) : Int) ((my : Nat) : Int) = (x + 1) by unfold depOf; rw [ef]; (try rw [em]); omega)
      have hE0 : 0 ≤ (x + 1) ∧ (x + 1) ≤ 100 := by omega
      go_wp2_with (at_builtin; refine wpList_push rfl rfl slInt (by show (0 : Nat) < 1; omega) (hG.below bwT) rfl (ad := ⟨wr.heap.size + 1, 0, none⟩) rfl (cs := [.int .i64 ((x + 1))]) (y := (x + 1)) (lx := wr.heap.size) (hx' := wr.heap.size) (by intro j c hj; match j, hj with | 0, hj => simp at hj; subst hj; simp [Addr.add, go_sem]) (It.flat (z := true) (w0 := wr) (fp := []) ⟨rfl, ⟨by omega, by omega⟩, rfl⟩) (by omega) (.inl (Nat.le_refl _)) (by unfold maxLen; omega) (by omega) (by simp; omega) ?_)
      intro v' w1 hG1 _ hb1
      rw [← HE.out, ← HD.out] at hG1
      have HG := Lib.hid hG1
      have hB1 : Below (w.heap.size + 1) (w.alloc (.cells #[.slice (some ⟨b, off, none⟩) ps.length cap, v2] 37)) w1 := Below.trans bwT hb1
      clear hG hG1 hb1 h HD HE
      go_wp2
      go_roundw
      case rel => exact ⟨k + 1, by omega, by go_num, HG.out, hB1⟩
      case measure => simp [intOf]; omega
    · have HO := Lib.hid (hG.ow (l0 := w.heap.size) (by omega) (by omega))
      clear hG h hP
      go_wp2
      go_ret
      refine ⟨_, rfl, ?_, hbw⟩
      have := HO.out
      rwa [List.take_of_length_le (by omega)] at this

end

/-! ### TyUnion -/
section

theorem slUnion : SlTy Tryz.prog 35 131 (.agg #[.int .i64 0, .int .i64 0, .int .i64 0, .int .i64 0]) 4 32 := SlTy.of Tryz.underlying35 (by kernel_rfl) rfl
theorem repUni_inv {z : Bool} {w : World} {cs : List Value} {ma : Int} {wo : Int} {fr : Int} {tl : Int} {fp : List Nat} (h : Rep.rep z w cs ((ma, wo, fr, tl) : Uni) fp) : cs = [.int .i64 ma, .int .i64 wo, .int .i64 fr, .int .i64 tl] ∧ I64 ma ∧ I64 wo ∧ I64 fr ∧ I64 tl ∧ fp = [] := by
  obtain ⟨_, _, _, _, rfl, rfl, ⟨rfl, h0, rfl⟩, _, _, _, _, rfl, rfl, ⟨rfl, h1, rfl⟩, _, _, _, _, rfl, rfl, ⟨rfl, h2, rfl⟩, ⟨rfl, h3, rfl⟩⟩ := h
  exact ⟨rfl, h0, h1, h2, h3, rfl⟩
theorem repUni_mk {z : Bool} {w : World} {ma : Int} {wo : Int} {fr : Int} {tl : Int} (h0 : I64 ma) (h1 : I64 wo) (h2 : I64 fr) (h3 : I64 tl) : Rep.rep z w [.int .i64 ma, .int .i64 wo, .int .i64 fr, .int .i64 tl] ((ma, wo, fr, tl) : Uni) [] :=
  ⟨[_], _, [], [], rfl, rfl, ⟨rfl, h0, rfl⟩, ⟨[_], _, [], [], rfl, rfl, ⟨rfl, h1, rfl⟩, ⟨[_], _, [], [], rfl, rfl, ⟨rfl, h2, rfl⟩, ⟨rfl, h3, rfl⟩⟩⟩⟩
theorem Rd.uni_at {z : Bool} {lo hi : Nat} {w : World} {xs : List Uni} {ao : Option Addr} {n cap : Nat} (h : Rd z lo hi w [.slice ao n cap] xs) {i : Nat} (hi' : i < n) :
    ∃ (b off : Nat) (ma : Int) (wo : Int) (fr : Int) (tl : Int), ao = some ⟨b, off, none⟩ ∧ Hid (xs[i]? = some (ma, wo, fr, tl)) ∧ w.cell? ⟨b, off + i * 4, none⟩ = some (.int .i64 ma) ∧ w.cell? ⟨b, off + i * 4 + 1, none⟩ = some (.int .i64 wo) ∧ w.cell? ⟨b, off + i * 4 + 2, none⟩ = some (.int .i64 fr) ∧ w.cell? ⟨b, off + i * 4 + 3, none⟩ = some (.int .i64 tl) ∧ I64 ma ∧ I64 wo ∧ I64 fr ∧ I64 tl ∧ lo ≤ b ∧ b < hi ∧ b < w.heap.size ∧ (z = true → ∀ o, w.frozen? ⟨b, o, none⟩ = false) := by
  obtain ⟨b, off, ⟨ma, wo, fr, tl⟩, cs, e, hx, ⟨fp, hr, _⟩, _, g1, g2, g3, hc, hf⟩ := h.at hi'
  obtain ⟨rfl, h0, h1, h2, h3, -⟩ := repUni_inv hr
  refine ⟨b, off, ma, wo, fr, tl, e, hx, ?_, ?_, ?_, ?_, h0, h1, h2, h3, g1, g2, g3, hf⟩
  · have := hc 0 (.int .i64 ma) rfl; simpa [Rep.sz, Nat.add_assoc] using this
  · have := hc 1 (.int .i64 wo) rfl; simpa [Rep.sz, Nat.add_assoc] using this
  · have := hc 2 (.int .i64 fr) rfl; simpa [Rep.sz, Nat.add_assoc] using this
  · have := hc 3 (.int .i64 tl) rfl; simpa [Rep.sz, Nat.add_assoc] using this

set_option maxHeartbeats 1000000 in
theorem eqUnion_b (w : World) (ma : Int) (wo : Int) (fr : Int) (tl : Int) (ma2 : Int) (wo2 : Int) (fr2 : Int) (tl2 : Int) (r : Bool) (hr : r = decide (((ma, wo, fr, tl) : Uni) = (ma2, wo2, fr2, tl2))) :
    Calls Tryz.prog 87 #[.agg #[.int .i64 ma, .int .i64 wo, .int .i64 fr, .int .i64 tl], .agg #[.int .i64 ma2, .int .i64 wo2, .int .i64 fr2, .int .i64 tl2]] w (PostB w r) := by
  obtain ⟨r0, hlet_r0⟩ : ∃ r, r = decide (ma = ma2) := ⟨_, rfl⟩
  have H0 := Lib.hid hlet_r0
  clear hlet_r0
  obtain ⟨r1, hlet_r1⟩ : ∃ r, r = decide (wo = wo2) := ⟨_, rfl⟩
  have H1 := Lib.hid hlet_r1
  clear hlet_r1
  obtain ⟨r2, hlet_r2⟩ : ∃ r, r = decide (fr = fr2) := ⟨_, rfl⟩
  have H2 := Lib.hid hlet_r2
  clear hlet_r2
  obtain ⟨r3, hlet_r3⟩ : ∃ r, r = decide (tl = tl2) := ⟨_, rfl⟩
  have H3 := Lib.hid hlet_r3
  clear hlet_r3
  have HR := Lib.hid (show r = (r0 && (r1 && (r2 && (r3)))) by rw [hr, H0.out, H1.out, H2.out, H3.out]; simp [Prod.mk.injEq])
  clear hr
  cases r0
  · have q0 : (ma != ma2) = true := by have := H0.out; simp at this ⊢; exact this
    go_enter Tryz.func87, Tryz.ntmps87
    go_wp2
    go_ret
    exact ⟨ret_bool (by rw [HR.out]; rfl), bwT⟩
  have q0 : (ma != ma2) = false := by have := H0.out; simp at this ⊢; exact this
  cases r1
  · have q1 : (wo != wo2) = true := by have := H1.out; simp at this ⊢; exact this
    go_enter Tryz.func87, Tryz.ntmps87
    go_wp2
    go_ret
    exact ⟨ret_bool (by rw [HR.out]; rfl), bwT⟩
  have q1 : (wo != wo2) = false := by have := H1.out; simp at this ⊢; exact this
  cases r2
  · have q2 : (fr != fr2) = true := by have := H2.out; simp at this ⊢; exact this
    go_enter Tryz.func87, Tryz.ntmps87
    go_wp2
    go_ret
    exact ⟨ret_bool (by rw [HR.out]; rfl), bwT⟩
  have q2 : (fr != fr2) = false := by have := H2.out; simp at this ⊢; exact this
  cases r3
  · have q3 : (tl != tl2) = true := by have := H3.out; simp at this ⊢; exact this
    go_enter Tryz.func87, Tryz.ntmps87
    go_wp2
    go_ret
    exact ⟨ret_bool (by rw [HR.out]; rfl), bwT⟩
  have q3 : (tl != tl2) = false := by have := H3.out; simp at this ⊢; exact this
  go_enter Tryz.func87, Tryz.ntmps87
  go_wp2
  go_ret
  exact ⟨ret_bool (by rw [HR.out]; rfl), bwT⟩
set_option maxHeartbeats 1000000 in
theorem toUnion_any (w : World) (ma : Int) (wo : Int) (fr : Int) (tl : Int) :
    Calls Tryz.prog 80 #[.agg #[.int .i64 ma, .int .i64 wo, .int .i64 fr, .int .i64 tl]] w (PostV w (.agg #[.int .i64 ma, .int .i64 wo, .int .i64 fr, .int .i64 tl])) := by
  go_enter Tryz.func80, Tryz.ntmps80
  go_wp2
  exact bodyPost_ret (v := .agg #[.int .i64 ma, .int .i64 wo, .int .i64 fr, .int .i64 tl]) (by simp [results, go_sem]) rfl ⟨rfl, bwT⟩
theorem Ow.uni_put {lo hi : Nat} {w : World} {xs : List Uni} {b off n cap : Nat} (h : Ow lo hi w [.slice (some ⟨b, off, none⟩) n cap] xs) {i : Nat} (hi' : i < n) {ma : Int} {wo : Int} {fr : Int} {tl : Int} (h0 : I64 ma) (h1 : I64 wo) (h2 : I64 fr) (h3 : I64 tl) :
    Ow lo hi ((((w.setCell ⟨b, off + i * 4, none⟩ (.int .i64 ma)).setCell ⟨b, off + i * 4 + 1, none⟩ (.int .i64 wo)).setCell ⟨b, off + i * 4 + 2, none⟩ (.int .i64 fr)).setCell ⟨b, off + i * 4 + 3, none⟩ (.int .i64 tl)) [.slice (some ⟨b, off, none⟩) n cap] (xs.set i (ma, wo, fr, tl)) := by
  obtain ⟨b', off', ma0, wo0, fr0, tl0, e, hx, -, -, -, -, g0, g1, g2, g3, -, -, -, -⟩ := h.rd.uni_at hi'
  have hx := hx.out
  have hl : i < xs.length := (List.getElem?_eq_some_iff.1 hx).1
  have s1 := Ow.setc h (i := i) (j := 0) (x := (ma0, wo0, fr0, tl0)) (y := (ma, wo0, fr0, tl0)) (u := .int .i64 ma) (w' := w) hx (repUni_mk g0 g1 g2 g3) (by show 0 < 4; omega) (repUni_mk h0 g1 g2 g3)
  have e1 : (xs.set i (ma, wo0, fr0, tl0))[i]? = some (ma, wo0, fr0, tl0) := by simp [hl]
  have s2 := Ow.setc s1 (i := i) (j := 1) (x := (ma, wo0, fr0, tl0)) (y := (ma, wo, fr0, tl0)) (u := .int .i64 wo) (w' := w) e1 (repUni_mk h0 g1 g2 g3) (by show 1 < 4; omega) (repUni_mk h0 h1 g2 g3)
  rw [List.set_set] at s2
  have e2 : (xs.set i (ma, wo, fr0, tl0))[i]? = some (ma, wo, fr0, tl0) := by simp [hl]
  have s3 := Ow.setc s2 (i := i) (j := 2) (x := (ma, wo, fr0, tl0)) (y := (ma, wo, fr, tl0)) (u := .int .i64 fr) (w' := w) e2 (repUni_mk h0 h1 g2 g3) (by show 2 < 4; omega) (repUni_mk h0 h1 h2 g3)
  rw [List.set_set] at s3
  have e3 : (xs.set i (ma, wo, fr, tl0))[i]? = some (ma, wo, fr, tl0) := by simp [hl]
  have s4 := Ow.setc s3 (i := i) (j := 3) (x := (ma, wo, fr, tl0)) (y := (ma, wo, fr, tl)) (u := .int .i64 tl) (w' := w) e3 (repUni_mk h0 h1 h2 g3) (by show 3 < 4; omega) (repUni_mk h0 h1 h2 h3)
  rw [List.set_set] at s4
  have e4 : (xs.set i (ma, wo, fr, tl))[i]? = some (ma, wo, fr, tl) := by simp [hl]
  simpa [Rep.sz, Nat.add_assoc] using s4

set_option maxRecDepth 20000 in
set_option maxHeartbeats 2000000 in
theorem eqUnionS_b {z z' : Bool} {lo hi lo' hi' : Nat} (w : World) (u v : Value) (xs ys : List Uni) (h : Rd z lo hi w [u] xs) (h' : Rd z' lo' hi' w [v] ys) (r : Bool) (hr : r = decide (xs = ys)) :
    Calls Tryz.prog 46 #[u, v] w (PostB w r) := by
  subst hr
  obtain ⟨ao, n, cap, rfl, rfl, hnc, hcm, hnone⟩ := h.shape
  obtain ⟨ao', n', cap', rfl, rfl, hnc', hcm', hnone'⟩ := h'.shape
  unfold maxLen at *
  by_cases hl : xs.length = ys.length
  · have HL := Lib.hid hl
    have hl1 : ¬ xs.length < ys.length := by omega
    have hl2 : ¬ ys.length < xs.length := by omega
    have hbne : (((xs.length : Int)) != (ys.length : Int)) = false := by simp [hl]
    clear hl
    go_enter Tryz.func46, Tryz.ntmps46
    go_wp2
    go_loopw [5] (fun i wr => ∃ k : Nat, k ≤ xs.length ∧ i = .int .i64 k ∧ Hid (xs.take k = ys.take k) ∧ Below w.heap.size w wr) (fun i _ => xs.length - (intOf i).toNat)
    case atStart => exact ⟨0, Nat.zero_le _, rfl, rfl, Below.refl _ _⟩
    case round =>
      rename_i wr
      obtain ⟨k, hk, rfl, ht, hb⟩ := hrel
      have sW := hb.size
      by_cases hlt : k < xs.length
      · obtain ⟨b, off, ma, wo, fr, tl, rfl, hx, p0, p1, p2, p3, -, -, -, -, -, -, hbl, -⟩ := (h.below hb).uni_at hlt
        obtain ⟨b2, off2, ma2, wo2, fr2, tl2, rfl, hy, q0, q1, q2, q3, -, -, -, -, -, -, hbl2, -⟩ := (h'.below hb).uni_at (show k < ys.length by omega)
        have hlt' : k < ys.length := by omega
        have hI : (k : Int) < (xs.length : Int) := by omega
        have hI' : (k : Int) < (ys.length : Int) := by omega
        clear h h'
        obtain ⟨r1, hlet_r1⟩ : ∃ r, r = decide (((ma, wo, fr, tl) : Uni) = (ma2, wo2, fr2, tl2)) := ⟨_, rfl⟩
        have H1 := Lib.hid hlet_r1
        clear hlet_r1
        have HT := Lib.hid (show r1 = true → xs.take (k + 1) = ys.take (k + 1) by
          intro e
          have e2 := of_decide_eq_true (H1.out.symm.trans e)
          rw [take_snoc hx.out, take_snoc hy.out, ht.out, e2])
        have HF := Lib.hid (show r1 = false → decide (xs = ys) = false by
          intro e
          have e2 := of_decide_eq_false (H1.out.symm.trans e)
          rw [decide_eq_false_iff_not]
          intro e3; subst e3
          have := hx.out.symm.trans hy.out
          exact e2 (Option.some.inj this))
        clear ht hx hy
        go_upto_region 6 with fail
        go_region_held3 (fun w' => w'.cell? ⟨b, off + k * 4, none⟩ = some (.int .i64 ma) ∧ w'.cell? ⟨b, off + k * 4 + 1, none⟩ = some (.int .i64 wo) ∧ w'.cell? ⟨b, off + k * 4 + 2, none⟩ = some (.int .i64 fr) ∧ w'.cell? ⟨b, off + k * 4 + 3, none⟩ = some (.int .i64 tl) ∧ w'.cell? ⟨b2, off2 + k * 4, none⟩ = some (.int .i64 ma2) ∧ w'.cell? ⟨b2, off2 + k * 4 + 1, none⟩ = some (.int .i64 wo2) ∧ w'.cell? ⟨b2, off2 + k * 4 + 2, none⟩ = some (.int .i64 fr2) ∧ w'.cell? ⟨b2, off2 + k * 4 + 3, none⟩ = some (.int .i64 tl2)) (go_keep) (first | (go_at_call 87; refine (eqUnion_b _ ma wo fr tl ma2 wo2 fr2 tl2 r1 H1.out).mono ?_; rintro e w1 ⟨rfl, hb1⟩; have hB1 : Below w.heap.size w w1 := Below.after bwT hb1 (by first | omega | (simp; omega) | simp); obtain ⟨hc1, hf1⟩ := bcell hb1; (try simp only [World.size_alloc, World.size_drew] at hc1 hf1)))
        cases r1
        · go_wp2
          go_ret
          exact ⟨ret_bool (HF.out (by trivial)).symm, hB1⟩
        · have HT2 := Lib.hid (HT.out (by trivial))
          go_wp2
          go_roundw
          case rel => exact ⟨k + 1, by omega, by go_num, HT2, hB1⟩
          case measure => simp [intOf]; omega
      · have HF : Hid (decide (xs = ys) = true) := by
          have e := ht.out
          rw [List.take_of_length_le (by omega), List.take_of_length_le (by omega)] at e
          exact decide_eq_true e
        clear h h' ht
        go_wp2
        go_ret
        exact ⟨ret_bool HF.out.symm, hb⟩
  · have HF : Hid (decide (xs = ys) = false) := by
      simp only [decide_eq_false_iff_not]
      intro e; subst e; exact hl rfl
    have hbne : (((xs.length : Int)) != (ys.length : Int)) = true := by simp; omega
    clear hl h h'
    go_enter Tryz.func46, Tryz.ntmps46
    go_wp2
    go_ret
    exact ⟨ret_bool HF.out.symm, Below.refl _ _⟩

set_option maxRecDepth 20000 in
set_option maxHeartbeats 2000000 in
theorem toUnionS_any {z : Bool} {lo hi : Nat} (w : World) (v : Value) (xs : List Uni) (h : Rd z lo hi w [v] xs) (hl : xs.length ≤ 1048576) :
    Calls Tryz.prog 40 #[v] w (PostOw w xs) := by
  obtain ⟨ao, n, cap, rfl, rfl, hnc, hcm, hnone⟩ := h.shape
  unfold maxLen at *
  go_enter Tryz.func40, Tryz.ntmps40
  go_wp2_with (at_make; refine wpList_mk (α := Uni) rfl rfl slUnion (y0 := (0, 0, 0, 0)) (fun _ => repUni_mk (by unfold I64; omega) (by unfold I64; omega) (by unfold I64; omega) (by unfold I64; omega)) rfl rfl rfl rfl (by omega) (by unfold maxLen; omega) ?_; intro w1 how hb1 hlt)
  go_loopw [4] (fun i wr => ∃ k : Nat, k ≤ xs.length ∧ i = .int .i64 k ∧ Ow w.heap.size (w.heap.size + 1) wr [.slice (some ⟨w.heap.size, 0, none⟩) xs.length xs.length] (xs.take k ++ List.replicate (xs.length - k) (0, 0, 0, 0)) ∧ Below w.heap.size w wr) (fun i _ => xs.length - (intOf i).toNat)
  case atStart => exact ⟨0, Nat.zero_le _, rfl, by simpa using how, hb1⟩
  case round =>
    rename_i wr
    obtain ⟨k, hk, rfl, how', hb⟩ := hrel
    have sW := hb.size
    clear how hb1 hlt
    by_cases hlt : k < xs.length
    · obtain ⟨b, off, ma, wo, fr, tl, rfl, hx, p0, p1, p2, p3, g0, g1, g2, g3, -, -, hbl, -⟩ := (h.below hb).uni_at hlt
      go_wp2_with fail
      refine (toUnion_any _ ma wo fr tl).mono ?_
      rintro e w2 ⟨rfl, hb2⟩
      have how2 := how'.below hb2
      have hB2 : Below w.heap.size w w2 := Below.after hb hb2 sW
      obtain ⟨_, _, ma0, wo0, fr0, tl0, ee, -, q0, q1, q2, q3, -, -, -, -, -, -, hbl2, hf2⟩ := how2.rd.uni_at hlt
      simp only [Option.some.injEq, Addr.mk.injEq, and_true] at ee
      obtain ⟨rfl, rfl⟩ := ee
      have hf2 := hf2 rfl
      have hset := how2.uni_put hlt g0 g1 g2 g3
      rw [take_rep_snoc hx.out] at hset
      simp only [Nat.zero_add] at hset q0 q1 q2 q3
      have HS := Lib.hid hset
      have hI : (k : Int) < (xs.length : Int) := by omega
      clear hset how2 how' h hx p0 p1 p2 p3 hb2
      go_wp2
      go_roundw
      case rel => exact ⟨k + 1, by omega, by go_num, HS.out, bwT⟩
      case measure => simp [intOf]; omega
    · have e : k = xs.length := by omega
      subst e
      have HS := Lib.hid how'.top
      clear how' h
      go_wp2
      go_ret
      exact ⟨_, rfl, by simpa using HS.out, hb⟩

end

/-! ### UniS -/
section

theorem uniOk_at {f : Fam} {k : Nat} {u : Uni} (h : f.2[k]? = some u) : uniOk f k = uniC f k u := by unfold uniOk; rw [h]

set_option maxRecDepth 20000 in
set_option maxHeartbeats 4000000 in
theorem uniS_b {z z' : Bool} {lo hi lo' hi' : Nat} (w : World) (v v2 : Value) (f : Fam) (h : Rd z lo hi w [v] f.1) (h' : Rd z' lo' hi' w [v2] f.2) (hl : f.1.length ≤ 40) (hP : PplTo f.1 f.1.length) (k : Nat) (hk : k < f.2.length) (hl2 : f.2.length ≤ 60) (r : Bool) (hr : r = uniOk f k) :
    Calls Tryz.prog 138 #[.agg #[v, v2], .int .i64 k] w (PostB w r) := by
  obtain ⟨ps, us⟩ := f
  dsimp only at h h' hl hP hk hl2
  obtain ⟨ao, n, cap, rfl, rfl, hnc, hcm, hnone⟩ := h.shape
  obtain ⟨bo, n2, dap, rfl, rfl, hnc', hcm', hnone'⟩ := h'.shape
  unfold maxLen at *
  obtain ⟨b, off, m, wo, fr, tl, rfl, hu, p0, p1, p2, p3, g0, g1, g2, g3, -, -, hbl, -⟩ := h'.uni_at hk
  rw [uniOk_at hu.out, uniC] at hr
  have HR := Lib.hid hr
  clear hr hu
  have hkI : (k : Int) < (us.length : Int) := by omega
  have wn : wrap64 ((ps.length : Int) - 1) = (ps.length : Int) - 1 := IntWalk.wrap64_in _ (by omega)
  obtain ⟨r1, hlet_r1⟩ : ∃ r, r = decide ((0 : Int) ≤ m ∧ m ≤ (ps.length : Int) - 1) := ⟨_, rfl⟩
  have H1 := Lib.hid hlet_r1
  clear hlet_r1
  obtain ⟨r2, hlet_r2⟩ : ∃ r, r = decide ((0 : Int) ≤ wo ∧ wo ≤ (ps.length : Int) - 1) := ⟨_, rfl⟩
  have H2 := Lib.hid hlet_r2
  clear hlet_r2
  have HF12 := Lib.hid (show (r1 && r2) = false → false = r by
    intro e
    rw [HR.out, H1.out, H2.out] at *
    have : decide ((0 ≤ m ∧ m < (ps.length : Int)) ∧ (0 ≤ wo ∧ wo < (ps.length : Int))) = false := by
      rw [decide_eq_false_iff_not]
      intro hh
      rw [show decide ((0 : Int) ≤ m ∧ m ≤ (ps.length : Int) - 1) = true by simp; omega, show decide ((0 : Int) ≤ wo ∧ wo ≤ (ps.length : Int) - 1) = true by simp; omega] at e
      cases e
    rw [this]; rfl)
  go_enter Tryz.func138, Tryz.ntmps138
  go_wp2_with fail
  refine (l1In_b _ _ _ _ r1 H1.out).mono ?_
  rintro e4 w4 ⟨rfl, hbw4⟩
  have hpw4 : Below w.heap.size w w4 := Below.after bwT hbw4 szT
  have sw4 := hpw4.size
  have hBw4 : Below w.heap.size w w4 := hpw4
  have l_f : w.heap.size < w4.heap.size := by have := hbw4.size; simp at this; omega
  have q_f0 : w4.cell? ⟨w.heap.size, 0, none⟩ = some (.slice ao ps.length cap) := oldc hbw4 ltT (by simp [go_sem])
  have q_f1 : w4.cell? ⟨w.heap.size, 1, none⟩ = some (.slice (some ⟨b, off, none⟩) us.length dap) := oldc hbw4 ltT (by simp [go_sem])
  have l_u : w.heap.size + 1 < w4.heap.size := by have := hbw4.size; simp at this; omega
  have q_u0 : w4.cell? ⟨w.heap.size + 1, 0, none⟩ = some (.int .i64 m) := oldc hbw4 ltT (by simp [go_sem])
  have q_u1 : w4.cell? ⟨w.heap.size + 1, 1, none⟩ = some (.int .i64 wo) := oldc hbw4 ltT (by simp [go_sem])
  have q_u2 : w4.cell? ⟨w.heap.size + 1, 2, none⟩ = some (.int .i64 fr) := oldc hbw4 ltT (by simp [go_sem])
  have q_u3 : w4.cell? ⟨w.heap.size + 1, 3, none⟩ = some (.int .i64 tl) := oldc hbw4 ltT (by simp [go_sem])
  clear hbw4 hpw4
  cases r1
  · go_wp2
    go_ret
    exact ⟨ret_bool (HF12.out rfl), bwT⟩
  go_wp2_with fail
  refine (l1In_b _ _ _ _ r2 H2.out).mono ?_
  rintro e5 w5 ⟨rfl, hbw5⟩
  have hpw5 : Below w4.heap.size w4 w5 := Below.after bwT hbw5 szT
  have sw5 := hpw5.size
  have hBw5 : Below w.heap.size w w5 := Below.trans hBw4 (Below.mono hpw5 hBw4.size)
  have q_f0 := oldc hpw5 l_f q_f0
  have q_f1 := oldc hpw5 l_f q_f1
  have q_u0 := oldc hpw5 l_u q_u0
  have q_u1 := oldc hpw5 l_u q_u1
  have q_u2 := oldc hpw5 l_u q_u2
  have q_u3 := oldc hpw5 l_u q_u3
  have l_f := Nat.lt_of_lt_of_le l_f sw5
  have l_u := Nat.lt_of_lt_of_le l_u sw5
  clear hbw5 hpw5
  cases r2
  · go_wp2
    go_ret
    exact ⟨ret_bool (HF12.out rfl), bwT⟩
  have hm := of_decide_eq_true H1.out.symm
  have hwo := of_decide_eq_true H2.out.symm
  clear HF12 H1 H2
  obtain ⟨mi, rfl⟩ := Int.eq_ofNat_of_zero_le hm.1
  obtain ⟨wi, rfl⟩ := Int.eq_ofNat_of_zero_le hwo.1
  have hmi : mi < ps.length := by omega
  have hwi : wi < ps.length := by omega
  obtain ⟨pb, poff, na, sa, fa, ma, ba, da, rfl, hxa, a0, a1, a2, a3, a4, a5, ga0, ga1, ga2, ga3, ga4, ga5, -, -, hpb, -⟩ := (h.below hBw5).per_at hmi
  obtain ⟨_, _, nb, sb, fb, mb, bb, db, ee, hxb, b0, b1, b2, b3, b4, b5, gb0, gb1, gb2, gb3, gb4, gb5, -, -, -, -⟩ := (h.below hBw5).per_at hwi
  simp only [Option.some.injEq, Addr.mk.injEq, and_true] at ee
  obtain ⟨rfl, rfl⟩ := ee
  obtain ⟨-, fba, fda, -⟩ := hP.at hmi hxa.out
  obtain ⟨-, fbb, fdb, -⟩ := hP.at hwi hxb.out
  obtain ⟨dup, hlet_dup⟩ : ∃ r, r = decide (((mi : Int), (wi : Int)) ∈ (us.take k).map fun v => (v.1, v.2.1)) := ⟨_, rfl⟩
  have HD := Lib.hid hlet_dup
  clear hlet_dup
  have HB := Lib.hid (show r = (decide (sa = 1 ∧ sb = 2) && (decide (fr ≤ 9999 ∧ ba ≤ fr ∧ bb ≤ fr) && (decide (tl = -1 ∨ (fr ≤ tl ∧ tl ≤ 9999)) && (liveOk da fr tl && liveOk db fr tl))) && !dup) by
    rw [HR.out, Int.toNat_natCast, Int.toNat_natCast, hxa.out, hxb.out, HD.out]
    rw [show decide ((0 ≤ (mi : Int) ∧ (mi : Int) < (ps.length : Int)) ∧ (0 ≤ (wi : Int) ∧ (wi : Int) < (ps.length : Int))) = true by simp; omega]
    rfl)
  have HFail := Lib.hid (show ¬ ((sa = 1 ∧ sb = 2) ∧ (fr ≤ 9999 ∧ ba ≤ fr ∧ bb ≤ fr) ∧ (tl = -1 ∨ (fr ≤ tl ∧ tl ≤ 9999)) ∧ (da = -1 ∨ (fr ≤ da ∧ (tl = -1 ∨ tl ≤ da))) ∧ (db = -1 ∨ (fr ≤ db ∧ (tl = -1 ∨ tl ≤ db)))) → false = r by
    intro e
    rw [HB.out]
    cases hh : (decide (sa = 1 ∧ sb = 2) && (decide (fr ≤ 9999 ∧ ba ≤ fr ∧ bb ≤ fr) && (decide (tl = -1 ∨ (fr ≤ tl ∧ tl ≤ 9999)) && (liveOk da fr tl && liveOk db fr tl))))
    · rfl
    · simp only [liveOk, Bool.and_eq_true, decide_eq_true_eq] at hh
      exact absurd ⟨hh.1, hh.2.1, hh.2.2.1, hh.2.2.2.1, hh.2.2.2.2⟩ e)
  have HOk := Lib.hid (show ((sa = 1 ∧ sb = 2) ∧ (fr ≤ 9999 ∧ ba ≤ fr ∧ bb ≤ fr) ∧ (tl = -1 ∨ (fr ≤ tl ∧ tl ≤ 9999)) ∧ (da = -1 ∨ (fr ≤ da ∧ (tl = -1 ∨ tl ≤ da))) ∧ (db = -1 ∨ (fr ≤ db ∧ (tl = -1 ∨ tl ≤ db)))) → r = !dup by
    intro e
    rw [HB.out]
    simp [liveOk, e])
  have hmI : ((mi : Nat) : Int) < (ps.length : Int) := by omega
  have hwI : ((wi : Nat) : Int) < (ps.length : Int) := by omega
  clear HB HR hxa hxb hm hwo ga0 gb0 hP
  by_cases s1 : sa = 1
  rotate_left
  · have s1' : (sa != 1) = true := by simpa using s1
    have HX := Lib.hid (HFail.out (fun e => s1 e.1.1))
    clear HFail HOk h h'
    go_wp2
    go_ret
    exact ⟨ret_bool HX.out, bwT⟩
  have s1' : (sa != 1) = false := by simpa using s1
  by_cases s2 : sb = 2
  rotate_left
  · have s2' : (sb != 2) = true := by simpa using s2
    have HX := Lib.hid (HFail.out (fun e => s2 e.1.2))
    clear HFail HOk h h'
    go_wp2
    go_ret
    exact ⟨ret_bool HX.out, bwT⟩
  have s2' : (sb != 2) = false := by simpa using s2
  by_cases s3 : fr ≤ 9999
  rotate_left
  · have s3' : 9999 < fr := by omega
    have HX := Lib.hid (HFail.out (fun e => s3 e.2.1.1))
    clear HFail HOk h h'
    go_wp2
    go_ret
    exact ⟨ret_bool HX.out, bwT⟩
  have s3' : ¬ 9999 < fr := by omega
  have PA := Lib.hid (And.intro a0 (And.intro a1 (And.intro a2 (And.intro a3 (And.intro a4 a5)))))
  have PB := Lib.hid (And.intro b0 (And.intro b1 (And.intro b2 (And.intro b3 (And.intro b4 b5)))))
  obtain ⟨WX, hWX⟩ : ∃ W : World, W = w5 := ⟨_, rfl⟩
  subst hWX
  have hBX : Below w.heap.size w WX := hBw5
  clear a0 a2 a3 a4 a5 b0 b2 b3 b4 b5
  by_cases s4 : tl = -1
  case' pos =>
    have s4' : (tl != -1) = false := by simpa using s4
    have s5 : tl = -1 ∨ (fr ≤ tl ∧ tl ≤ 9999) := .inl s4
    obtain ⟨WY, hWY⟩ : ∃ W : World, W = WX := ⟨_, rfl⟩
    subst hWY
    have hXY : Below WY.heap.size WY WY := Below.refl _ _
    clear hBX
    have hBX : Below w.heap.size w WY := hBw5
    have hpbY : pb < WY.heap.size := hpb
  case' neg =>
    have s4' : (tl != -1) = true := by simpa using s4
    obtain ⟨r4, hlet_r4⟩ : ∃ r, r = decide (fr ≤ tl ∧ tl ≤ 9999) := ⟨_, rfl⟩
    have H4 := Lib.hid hlet_r4
    clear hlet_r4
    go_wp2_with fail
    refine (l1In_b _ _ _ _ r4 H4.out).mono ?_
    rintro e WY ⟨rfl, hXY⟩
    have hBX : Below w.heap.size w WY := Below.after hBX hXY hBX.size
    have sXY := hXY.size
    have q_f0 := oldc hXY l_f q_f0
    have q_f1 := oldc hXY l_f q_f1
    have q_u0 := oldc hXY l_u q_u0
    have q_u1 := oldc hXY l_u q_u1
    have q_u2 := oldc hXY l_u q_u2
    have q_u3 := oldc hXY l_u q_u3
    have PA := Lib.hid (And.intro (oldc hXY hpb PA.out.1) (And.intro (oldc hXY hpb PA.out.2.1) (And.intro (oldc hXY hpb PA.out.2.2.1) (And.intro (oldc hXY hpb PA.out.2.2.2.1) (And.intro (oldc hXY hpb PA.out.2.2.2.2.1) (oldc hXY hpb PA.out.2.2.2.2.2))))))
    have PB := Lib.hid (And.intro (oldc hXY hpb PB.out.1) (And.intro (oldc hXY hpb PB.out.2.1) (And.intro (oldc hXY hpb PB.out.2.2.1) (And.intro (oldc hXY hpb PB.out.2.2.2.1) (And.intro (oldc hXY hpb PB.out.2.2.2.2.1) (oldc hXY hpb PB.out.2.2.2.2.2))))))
    have l_f := Nat.lt_of_lt_of_le l_f sXY
    have l_u := Nat.lt_of_lt_of_le l_u sXY
    have hpbY : pb < WY.heap.size := Nat.lt_of_lt_of_le hpb sXY
    cases r4
    · have HX := Lib.hid (HFail.out (fun e => by
        have h1 := of_decide_eq_false H4.out.symm
        have h2 := e.2.2.1
        omega))
      clear HFail HOk h h' PA PB
      go_wp2
      go_ret
      exact ⟨ret_bool HX.out, bwT⟩
    have s5 : tl = -1 ∨ (fr ≤ tl ∧ tl ≤ 9999) := .inr (of_decide_eq_true H4.out.symm)
    clear H4
  all_goals
    go_wp2
    go_loopw [8, 75] (fun _ s75 wr => ∃ j : Nat, j ≤ 2 ∧ s75 = .int .i64 j ∧ Hid ((1 ≤ j → ba ≤ fr ∧ (da = -1 ∨ (fr ≤ da ∧ tl ≤ da))) ∧ (2 ≤ j → bb ≤ fr ∧ (db = -1 ∨ (fr ≤ db ∧ tl ≤ db)))) ∧ wr.cell? ⟨WY.heap.size, 0, none⟩ = some (.int .i64 (mi : Nat)) ∧ wr.cell? ⟨WY.heap.size, 1, none⟩ = some (.int .i64 (wi : Nat)) ∧ Below WY.heap.size WY wr) (fun _ s75 _ => 2 - (intOf s75).toNat)
    case atStart => exact ⟨0, by omega, rfl, Lib.hid ⟨fun h => absurd h (by omega), fun h => absurd h (by omega)⟩, by simp [go_sem], by simp [go_sem], bwT⟩
    case round =>
      rename_i wr
      obtain ⟨j, hj2, rfl, hj, hc0, hc1, hb⟩ := hrel
      have sW := hb.size
      have hbw : Below w.heap.size w wr := Below.trans hBX (hb.mono hBX.size)
      have q_f0 := oldc hb l_f q_f0
      have q_f1 := oldc hb l_f q_f1
      have q_u0 := oldc hb l_u q_u0
      have q_u1 := oldc hb l_u q_u1
      have q_u2 := oldc hb l_u q_u2
      have q_u3 := oldc hb l_u q_u3
      have l_f := Nat.lt_of_lt_of_le l_f sW
      have l_u := Nat.lt_of_lt_of_le l_u sW
      have hw0 : WY.heap.size < wr.heap.size := by
        have := World.block_lt_of_cell? wr _ hc0
        simpa using this
      by_cases hlt : j < 2
      · have hI : (j : Int) < 2 := by omega
        obtain ⟨x0, x1, x2, x3, x4, x5⟩ := PA.out
        obtain ⟨y0, y1, y2, y3, y4, y5⟩ := PB.out
        have x0 := oldc hb hpbY x0
        have x1 := oldc hb hpbY x1
        have x2 := oldc hb hpbY x2
        have x3 := oldc hb hpbY x3
        have x4 := oldc hb hpbY x4
        have x5 := oldc hb hpbY x5
        have y0 := oldc hb hpbY y0
        have y1 := oldc hb hpbY y1
        have y2 := oldc hb hpbY y2
        have y3 := oldc hb hpbY y3
        have y4 := oldc hb hpbY y4
        have y5 := oldc hb hpbY y5
        clear PA PB h h'
        by_cases j0 : j = 0
        · obtain rfl : j = 0 := by omega
          have HN := Lib.hid (show (ba ≤ fr ∧ (da = -1 ∨ (fr ≤ da ∧ tl ≤ da))) → ((1 ≤ (0 + 1) → ba ≤ fr ∧ (da = -1 ∨ (fr ≤ da ∧ tl ≤ da))) ∧ (2 ≤ (0 + 1) → bb ≤ fr ∧ (db = -1 ∨ (fr ≤ db ∧ tl ≤ db)))) by intro e; exact ⟨fun _ => e, fun h => absurd h (by omega)⟩)
          have HZ := Lib.hid (show ¬ (ba ≤ fr ∧ (da = -1 ∨ (fr ≤ da ∧ tl ≤ da))) → false = r by intro e; exact HFail.out (fun e2 => e ⟨e2.2.1.2.1, by have := e2.2.2.2.1; have := e2.2.1.2.1; omega⟩))
          clear HFail HOk hj
          by_cases d1 : da = -1
          all_goals have d1' : (da != -1) = !decide (da = -1) := rfl
          all_goals simp only [d1, decide_true, decide_false, Bool.not_true, Bool.not_false] at d1'
          all_goals go_wp2
          all_goals first
            | (go_roundw
               case rel => exact ⟨0 + 1, by omega, by go_num, Lib.hid (HN.out (by omega)), by simp [go_sem, *], by simp [go_sem, *], bwT⟩
               case measure => simp [intOf])
            | (go_ret; exact ⟨ret_bool (HZ.out (by omega)), bwT⟩)
        · obtain rfl : j = 1 := by omega
          have HN := Lib.hid (show (bb ≤ fr ∧ (db = -1 ∨ (fr ≤ db ∧ tl ≤ db))) → ((1 ≤ (1 + 1) → ba ≤ fr ∧ (da = -1 ∨ (fr ≤ da ∧ tl ≤ da))) ∧ (2 ≤ (1 + 1) → bb ≤ fr ∧ (db = -1 ∨ (fr ≤ db ∧ tl ≤ db)))) by intro e; exact ⟨fun _ => hj.out.1 (by omega), fun _ => e⟩)
          have HZ := Lib.hid (show ¬ (bb ≤ fr ∧ (db = -1 ∨ (fr ≤ db ∧ tl ≤ db))) → false = r by intro e; exact HFail.out (fun e2 => e ⟨e2.2.1.2.2, by have := e2.2.2.2.2; have := e2.2.1.2.2; omega⟩))
          clear HFail HOk hj
          by_cases d1 : db = -1
          all_goals have d1' : (db != -1) = !decide (db = -1) := rfl
          all_goals simp only [d1, decide_true, decide_false, Bool.not_true, Bool.not_false] at d1'
          all_goals go_wp2
          all_goals first
            | (go_roundw
               case rel => exact ⟨1 + 1, by omega, by go_num, Lib.hid (HN.out (by omega)), by simp [go_sem, *], by simp [go_sem, *], bwT⟩
               case measure => simp [intOf])
            | (go_ret; exact ⟨ret_bool (HZ.out (by omega)), bwT⟩)
      · obtain rfl : j = 2 := by omega
        have HR2 := Lib.hid (HOk.out ⟨⟨s1, s2⟩, ⟨s3, (hj.out.1 (by omega)).1, (hj.out.2 (by omega)).1⟩, s5, by have := (hj.out.1 (by omega)).2; omega, by have := (hj.out.2 (by omega)).2; omega⟩)
        clear HOk HFail PA PB hc0 hc1 h
        obtain ⟨WZ, hWZ⟩ : ∃ W : World, W = wr := ⟨_, rfl⟩
        subst hWZ
        go_wp2
        go_loopw [10] (fun s10 wr => ∃ i : Nat, i ≤ k ∧ s10 = .int .i64 i ∧ Hid (dup = decide (((mi : Int), (wi : Int)) ∈ ((us.take k).drop i).map fun v => (v.1, v.2.1))) ∧ Below WZ.heap.size WZ wr) (fun s10 _ => k - (intOf s10).toNat)
        case atStart => exact ⟨0, Nat.zero_le _, rfl, Lib.hid (by simpa using HD.out), Below.refl _ _⟩
        case round =>
          clear HD
          obtain ⟨i, hi, rfl, hd, hb3⟩ := hrel
          have hbz : Below w.heap.size w wr := Below.trans hbw (hb3.mono hbw.size)
          have q_f1 := oldc hb3 l_f q_f1
          have q_u0 := oldc hb3 l_u q_u0
          have q_u1 := oldc hb3 l_u q_u1
          by_cases hik : i < k
          · obtain ⟨_, _, um, uw, uf, ut, ee, hux, c0, c1, -, -, -, -, -, -, -, -, hub, -⟩ := (h'.below hbz).uni_at (show i < us.length by omega)
            simp only [Option.some.injEq, Addr.mk.injEq, and_true] at ee
            obtain ⟨rfl, rfl⟩ := ee
            have hkI : (i : Int) < (k : Int) := by omega
            have huI : (i : Int) < (us.length : Int) := by omega
            have hux2 : (us.take k)[i]? = some (um, uw, uf, ut) := by rw [List.getElem?_take, if_pos hik]; exact hux.out
            have HS := Lib.hid (drop_cons hux2)
            clear hux hux2 h'
            by_cases m1 : um = (mi : Int)
            · have m1' : (um == (mi : Int)) = true := by simpa using m1
              by_cases m2 : uw = (wi : Int)
              · have m2' : (uw == (wi : Int)) = true := by simpa using m2
                have HX := Lib.hid (show false = r by rw [HR2.out, hd.out, HS.out]; simp [m1, m2])
                clear hd HS HR2
                go_wp2_with fail
                go_quiet (fail)
                go_wp2
                go_ret
                exact ⟨ret_bool HX.out, bwT⟩
              · have m2' : (uw == (wi : Int)) = false := by simpa using m2
                have HN := Lib.hid (show dup = decide (((mi : Int), (wi : Int)) ∈ ((us.take k).drop (i + 1)).map fun v => (v.1, v.2.1)) by
                  rw [hd.out, HS.out]
                  have : ¬ (wi : Int) = uw := fun e => m2 e.symm
                  simp [this])
                clear hd HS
                go_wp2_with fail
                go_quiet (fail)
                go_wp2
                go_roundw
                case rel => exact ⟨i + 1, by omega, by go_num, HN, bwT⟩
                case measure => simp [intOf]; omega
            · have m1' : (um == (mi : Int)) = false := by simpa using m1
              have HN := Lib.hid (show dup = decide (((mi : Int), (wi : Int)) ∈ ((us.take k).drop (i + 1)).map fun v => (v.1, v.2.1)) by
                rw [hd.out, HS.out]
                have : ¬ (mi : Int) = um := fun e => m1 e.symm
                simp [this])
              clear hd HS
              go_wp2_with fail
              go_quiet (fail)
              go_wp2
              go_roundw
              case rel => exact ⟨i + 1, by omega, by go_num, HN, bwT⟩
              case measure => simp [intOf]; omega
          · have HX := Lib.hid (show true = r by rw [HR2.out, hd.out, List.drop_eq_nil_of_le (by simp; omega)]; rfl)
            clear hd HR2 h'
            go_wp2
            go_ret
            exact ⟨ret_bool HX.out, bwT⟩

end

/-! ### FamH -/
section

def nmSum : List Per → Nat
  | [] => 0
  | p :: ps => p.1.size + nmSum ps
theorem nmSum_app : ∀ a b : List Per, nmSum (a ++ b) = nmSum a + nmSum b
  | [], b => by simp [nmSum]
  | p :: a, b => by rw [List.cons_append, nmSum, nmSum, nmSum_app a b]; omega
theorem nmSum_take {ps : List Per} {k : Nat} {p : Per} (h : ps[k]? = some p) : nmSum (ps.take (k + 1)) = nmSum (ps.take k) + p.1.size := by
  rw [take_snoc h, nmSum_app]; simp [nmSum]
theorem nmSum_le (ps : List Per) (k : Nat) : nmSum (ps.take k) ≤ nmSum ps := by
  have := nmSum_app (ps.take k) (ps.drop k)
  rw [List.take_append_drop] at this; omega
instance decEqPers : DecidableEq (List Per) := fun a b => instDecidableEqList a b
instance decEqUnis : DecidableEq (List Uni) := fun a b => instDecidableEqList a b
instance decEqFam : DecidableEq (List Per × List Uni) := instDecidableEqProd
def famSz (f : Fam) : Nat := f.1.length + nmSum f.1 + f.2.length

theorem Rd.fam {z : Bool} {lo hi : Nat} {w : World} {a b : Value} {f : Fam} (h : Rd z lo hi w [a, b] f) : Rd z lo hi w [a] f.1 ∧ Rd z lo hi w [b] f.2 := h.two rfl
theorem shapeFam {z : Bool} {lo hi : Nat} {w : World} {a b : Value} {f : Fam} (h : Rd z lo hi w [a, b] f) : ∃ ao n cap bo m dap, a = .slice ao n cap ∧ b = .slice bo m dap := by
  obtain ⟨h1, h2⟩ := h.fam
  obtain ⟨ao, n, cap, rfl, -⟩ := h1.shape
  obtain ⟨bo, m, dap, rfl, -⟩ := h2.shape
  exact ⟨ao, n, cap, bo, m, dap, rfl, rfl⟩

theorem szPerson_any (w : World) (nm : ByteArray) (sx fa mo bo di : Int) (hs : nm.size ≤ maxLen) (left : Int) (h0 : 0 ≤ left) (h1 : left ≤ 1048576) :
    Calls Tryz.prog 72 #[.agg #[.string nm, .int .i64 sx, .int .i64 fa, .int .i64 mo, .int .i64 bo, .int .i64 di], .int .i64 left] w (PostI w (if left < nm.size then -1 else left - nm.size)) := by
  unfold maxLen at *
  by_cases hlt : left < nm.size
  · have q : wrap64 (left - (nm.size : Int)) = left - nm.size := IntWalk.wrap64_in _ (by omega)
    go_enter Tryz.func72, Tryz.ntmps72
    go_wp2
    go_ret
    exact ⟨by first | rfl | exact ret_int (if_pos hlt).symm, bwT⟩
  · have q : wrap64 (left - (nm.size : Int)) = left - nm.size := IntWalk.wrap64_in _ (by omega)
    go_enter Tryz.func72, Tryz.ntmps72
    go_wp2
    go_ret
    exact ⟨by first | rfl | exact ret_int (if_neg hlt).symm, bwT⟩

set_option maxHeartbeats 1000000 in
theorem szPersonS_any {z : Bool} {lo hi : Nat} (w : World) (v : Value) (xs : List Per) (h : Rd z lo hi w [v] xs) (left : Int) (h0 : 0 ≤ left) (h1 : left ≤ 1048576) :
    Calls Tryz.prog 33 #[v, .int .i64 left] w (PostI w (if left < (xs.length + nmSum xs : Nat) then -1 else left - (xs.length + nmSum xs : Nat))) := by
  obtain ⟨ao, n, cap, rfl, rfl, hnc, hcm, hnone⟩ := h.shape
  unfold maxLen at *
  obtain ⟨R, hR⟩ : ∃ R : Int, R = if left < (xs.length + nmSum xs : Nat) then -1 else left - (xs.length + nmSum xs : Nat) := ⟨_, rfl⟩
  rw [← hR]
  have HR := Lib.hid hR
  clear hR
  have q : wrap64 (left - (xs.length : Int)) = left - xs.length := IntWalk.wrap64_in _ (by omega)
  by_cases hlt : left < xs.length
  · have HF := Lib.hid (show R = -1 by rw [HR.out, if_pos (by omega)])
    clear HR h
    go_enter Tryz.func33, Tryz.ntmps33
    go_wp2
    go_ret
    exact ⟨ret_int HF.out.symm, Below.refl _ _⟩
  · have hge : ¬ left - (xs.length : Int) < 0 := by omega
    go_enter Tryz.func33, Tryz.ntmps33
    go_wp2
    go_loopw [1, 5] (fun s1 s5 wr => ∃ (k : Nat) (l : Int), k ≤ xs.length ∧ s5 = .int .i64 k ∧ s1 = .int .i64 l ∧ Hid (l = left - xs.length - nmSum (xs.take k)) ∧ 0 ≤ l ∧ l ≤ 1048576 ∧ Below w.heap.size w wr) (fun _ s5 _ => xs.length - (intOf s5).toNat)
    case atStart => exact ⟨0, _, Nat.zero_le _, rfl, rfl, Lib.hid (by simp [nmSum]), by omega, by omega, Below.refl _ _⟩
    case round =>
      rename_i wr
      obtain ⟨k, l, hk, rfl, rfl, hl, hl0, hl1, hb⟩ := hrel
      have sW := hb.size
      by_cases hltk : k < xs.length
      · obtain ⟨b, off, nm, sx, fa, mo, bo, di, rfl, hx, c0, c1, c2, c3, c4, c5, hs, -, -, -, -, -, -, -, hbl, -⟩ := (h.below hb).per_at hltk
        have hI : (k : Int) < (xs.length : Int) := by omega
        have hle := nmSum_le xs (k + 1)
        rw [nmSum_take hx.out] at hle
        dsimp only at hle
        have HT := Lib.hid (nmSum_take hx.out)
        go_wp2_with fail
        refine (szPerson_any _ nm sx fa mo bo di hs l hl0 hl1).mono ?_
        rintro e w1 ⟨rfl, hb1⟩
        have hB1 : Below w.heap.size w w1 := Below.after hb hb1 sW
        clear hx c0 c1 c2 c3 c4 c5
        by_cases hneg : l < nm.size
        · rw [if_pos hneg]
          have HF := Lib.hid (show R = -1 by rw [HR.out, if_pos]; have := hl.out; omega)
          clear HR hl HT h hle
          go_wp2
          go_ret
          exact ⟨ret_int HF.out.symm, hB1⟩
        · rw [if_neg hneg]
          have hge2 : ¬ l - (nm.size : Int) < 0 := by omega
          have HL := Lib.hid (show l - (nm.size : Int) = left - xs.length - nmSum (xs.take (k + 1)) by have := hl.out; have := HT.out; (try dsimp only at this); omega)
          clear hl HT h hle
          go_wp2
          go_roundw
          case rel => exact ⟨k + 1, _, by omega, by go_num, rfl, HL, by omega, by omega, hB1⟩
          case measure => simp [intOf]; omega
      · have HF := Lib.hid (show l = R by
          have h2 := hl.out
          rw [List.take_of_length_le (by omega)] at h2
          rw [HR.out, if_neg (by omega)]; omega)
        clear h hl HR
        go_wp2
        go_ret
        exact ⟨ret_int HF.out, hb⟩
theorem szUnionS_any {z : Bool} {lo hi : Nat} (w : World) (v : Value) (xs : List Uni) (h : Rd z lo hi w [v] xs) (left : Int) (h0 : 0 ≤ left) (h1 : left ≤ 1048576) :
    Calls Tryz.prog 34 #[v, .int .i64 left] w (PostI w (if left < xs.length then -1 else left - xs.length)) := by
  obtain ⟨ao, n, cap, rfl, rfl, hnc, hcm, hnone⟩ := h.shape
  clear h
  unfold maxLen at *
  by_cases hlt : left < xs.length
  · go_enter Tryz.func34, Tryz.ntmps34
    go_wp2
    go_ret
    exact ⟨by first | rfl | exact ret_int (if_pos hlt).symm, Below.refl _ _⟩
  · go_enter Tryz.func34, Tryz.ntmps34
    go_wp2
    go_ret
    exact ⟨by first | rfl | exact ret_int (if_neg hlt).symm, Below.refl _ _⟩

set_option maxHeartbeats 1000000 in
theorem szFamily_any {z : Bool} {lo hi : Nat} (w : World) (a b : Value) (f : Fam) (h : Rd z lo hi w [a, b] f) (left : Int) (h0 : 0 ≤ left) (h1 : left ≤ 1048576) :
    Calls Tryz.prog 7 #[.agg #[a, b], .int .i64 left] w (PostI w (if left < (famSz f : Int) then -1 else left - (famSz f : Int))) := by
  obtain ⟨ha, hb⟩ := h.fam
  obtain ⟨R, hR⟩ : ∃ R : Int, R = if left < (famSz f : Int) then -1 else left - (famSz f : Int) := ⟨_, rfl⟩
  rw [← hR]
  have hfs : famSz f = f.1.length + nmSum f.1 + f.2.length := rfl
  have HR := Lib.hid hR
  have HS := Lib.hid hfs
  clear hR hfs h
  go_enter Tryz.func7, Tryz.ntmps7
  go_wp2_with fail
  refine (szPersonS_any _ _ f.1 (ha.below bwT) left h0 h1).mono ?_
  rintro e6 w6 ⟨rfl, hbw6⟩
  have hpw6 : Below w.heap.size w w6 := Below.after bwT hbw6 szT
  have sw6 := hpw6.size
  have hBw6 : Below w.heap.size w w6 := hpw6
  have l_a : w.heap.size < w6.heap.size := by have := hbw6.size; simp at this; omega
  have q_a0 : w6.cell? ⟨w.heap.size, 0, none⟩ = some (a) := oldc hbw6 ltT (by simp [go_sem])
  have q_a1 : w6.cell? ⟨w.heap.size, 1, none⟩ = some (b) := oldc hbw6 ltT (by simp [go_sem])
  clear hbw6 hpw6
  by_cases hlt : left < (f.1.length + nmSum f.1 : Nat)
  · rw [if_pos hlt]
    have HF := Lib.hid (show R = -1 by rw [HR.out, if_pos]; have := HS.out; omega)
    clear HR ha hb
    go_wp2
    go_ret
    exact ⟨ret_int HF.out.symm, hBw6⟩
  rw [if_neg hlt]
  obtain ⟨l, hl⟩ : ∃ l : Int, l = left - (f.1.length + nmSum f.1 : Nat) := ⟨_, rfl⟩
  rw [← hl]
  have hl0 : 0 ≤ l := by omega
  have hl1 : l ≤ 1048576 := by omega
  have hln : ¬ l < 0 := by omega
  have HL := Lib.hid hl
  clear hl hlt
  go_wp2_with fail
  refine (szUnionS_any _ _ f.2 (hb.below bwT) l hl0 hl1).mono ?_
  rintro e7 w7 ⟨rfl, hbw7⟩
  have hpw7 : Below w6.heap.size w6 w7 := Below.after bwT hbw7 szT
  have sw7 := hpw7.size
  have hBw7 : Below w.heap.size w w7 := Below.trans hBw6 (Below.mono hpw7 hBw6.size)
  have q_a0 := oldc hpw7 l_a q_a0
  have q_a1 := oldc hpw7 l_a q_a1
  have l_a := Nat.lt_of_lt_of_le l_a sw7
  clear hbw7 hpw7
  by_cases hlt : l < (f.2.length : Nat)
  · rw [if_pos hlt]
    have HF := Lib.hid (show R = -1 by rw [HR.out, if_pos]; have := HS.out; have := HL.out; omega)
    clear HR ha hb
    go_wp2
    go_ret
    exact ⟨ret_int HF.out.symm, hBw7⟩
  rw [if_neg hlt]
  have hln2 : ¬ l - (f.2.length : Int) < 0 := by omega
  have HF := Lib.hid (show l - (f.2.length : Int) = R by have := HS.out; have := HL.out; rw [HR.out, if_neg (by omega)]; omega)
  clear HR ha hb
  go_wp2
  go_ret
  exact ⟨ret_int HF.out, hBw7⟩

set_option maxHeartbeats 1000000 in
theorem toFamily_any {z : Bool} {lo hi : Nat} (w : World) (a b : Value) (c : Fam) (h : Rd z lo hi w [a, b] c) (h1 : c.1.length ≤ 1048576) (h2 : c.2.length ≤ 1048576) :
    Calls Tryz.prog 10 #[.agg #[a, b]] w (PostOw2 w c) := by
  obtain ⟨ha, hb⟩ := h.fam
  go_enter Tryz.func10, Tryz.ntmps10
  go_wp2_with fail
  refine (toPersonS_any _ _ _ (ha.below (by go_grown)) h1).mono ?_
  rintro e w1 ⟨u, rfl, how1, hb1⟩
  have hB1 : Below w.heap.size w w1 := Below.after (by go_grown) hb1 (by simp; omega)
  have s1 := hb1.size
  obtain ⟨hc, hf⟩ := bcell hb1
  simp only [World.size_alloc] at how1 s1 hc hf
  obtain ⟨ao1, n1, cap1, rfl, -⟩ := how1.rd.shape
  obtain ⟨l0, l1, l2⟩ : w.heap.size < w1.heap.size ∧ w.heap.size + 1 < w1.heap.size ∧ w.heap.size + 1 + 1 < w1.heap.size := by omega
  go_wp2_with fail
  refine (toUnionS_any _ _ _ (hb.below (by go_grown)) h2).mono ?_
  rintro e w2 ⟨v, rfl, how2, hb2⟩
  have hB2 : Below w.heap.size w w2 := Below.after (by go_grown) hb2 (by simp; omega)
  have s2 := hb2.size
  obtain ⟨hc2, hf2⟩ := bcell hb2
  simp only [World.size_alloc, World.size_setCell] at how2 s2 hc2 hf2
  obtain ⟨ao2, n2, cap2, rfl, -⟩ := how2.rd.shape
  obtain ⟨m0, m1, m2⟩ : w.heap.size < w2.heap.size ∧ w.heap.size + 1 < w2.heap.size ∧ w.heap.size + 1 + 1 < w2.heap.size := by omega
  have HO := Lib.hid (Ow.pair (how1.keep (((Zone.refl _ _ _).setCell (.inl (by simp)) _).below hb2 (by simp))) how2 (.inl (Nat.le_refl _)) (l := w.heap.size + 1 + 1 + 1) (h := w2.heap.size) (by omega) (by omega) (by omega) (by omega))
  clear how1 how2 ha hb h
  clear hb1 hb2
  go_wp2
  exact bodyPost_ret (v := .agg #[.slice ao1 n1 cap1, .slice ao2 n2 cap2]) (by simp [results, Tryz.results10, go_sem, hc, hc2, l0, l1, l2, m0, m1, m2]) rfl ⟨_, _, rfl, (HO.out.keep znT).top.mono (by omega) (by simp), bwT⟩

set_option maxHeartbeats 1000000 in
theorem eqFamily_b {z z' : Bool} {lo hi lo' hi' : Nat} (w : World) (u1 u2 v1 v2 : Value) (x y : Fam) (h : Rd z lo hi w [u1, u2] x) (h' : Rd z' lo' hi' w [v1, v2] y) (b : Bool) (hb : b = decide (x = y)) :
    Calls Tryz.prog 13 #[.agg #[u1, u2], .agg #[v1, v2]] w (PostB w b) := by
  obtain ⟨x1, x2⟩ := x
  obtain ⟨y1, y2⟩ := y
  obtain ⟨hx1, hx2⟩ := h.fam
  obtain ⟨hy1, hy2⟩ := h'.fam
  obtain ⟨r1, hlet_r1⟩ : ∃ r, r = decide (x1 = y1) := ⟨_, rfl⟩
  have H1 := Lib.hid hlet_r1
  clear hlet_r1
  obtain ⟨r2, hlet_r2⟩ : ∃ r, r = decide (x2 = y2) := ⟨_, rfl⟩
  have H2 := Lib.hid hlet_r2
  clear hlet_r2
  have HR := Lib.hid (show b = (r1 && r2) by rw [hb, H1.out, H2.out]; simp [Prod.mk.injEq])
  clear hb h h'
  dsimp only at hx1 hx2 hy1 hy2
  go_enter Tryz.func13, Tryz.ntmps13
  go_wp2_with fail
  refine (eqPersonS_b _ _ _ x1 y1 (hx1.below bwT) (hy1.below bwT) _ H1.out).mono ?_
  rintro e8 w8 ⟨rfl, hbw8⟩
  have hpw8 : Below w.heap.size w w8 := Below.after bwT hbw8 szT
  have sw8 := hpw8.size
  have hBw8 : Below w.heap.size w w8 := hpw8
  have l_a : w.heap.size < w8.heap.size := by have := hbw8.size; simp at this; omega
  have q_a0 : w8.cell? ⟨w.heap.size, 0, none⟩ = some (u1) := oldc hbw8 ltT (by simp [go_sem])
  have q_a1 : w8.cell? ⟨w.heap.size, 1, none⟩ = some (u2) := oldc hbw8 ltT (by simp [go_sem])
  have l_b : w.heap.size + 1 < w8.heap.size := by have := hbw8.size; simp at this; omega
  have q_b0 : w8.cell? ⟨w.heap.size + 1, 0, none⟩ = some (v1) := oldc hbw8 ltT (by simp [go_sem])
  have q_b1 : w8.cell? ⟨w.heap.size + 1, 1, none⟩ = some (v2) := oldc hbw8 ltT (by simp [go_sem])
  clear hbw8 hpw8
  cases r1
  · go_wp2
    go_ret
    exact ⟨ret_bool (by rw [HR.out]; rfl), hBw8⟩
  go_wp2_with fail
  refine (eqUnionS_b _ _ _ x2 y2 (hx2.below bwT) (hy2.below bwT) _ H2.out).mono ?_
  rintro e9 w9 ⟨rfl, hbw9⟩
  have hpw9 : Below w8.heap.size w8 w9 := Below.after bwT hbw9 szT
  have sw9 := hpw9.size
  have hBw9 : Below w.heap.size w w9 := Below.trans hBw8 (Below.mono hpw9 hBw8.size)
  have q_a0 := oldc hpw9 l_a q_a0
  have q_a1 := oldc hpw9 l_a q_a1
  have q_b0 := oldc hpw9 l_b q_b0
  have q_b1 := oldc hpw9 l_b q_b1
  have l_a := Nat.lt_of_lt_of_le l_a sw9
  have l_b := Nat.lt_of_lt_of_le l_b sw9
  clear hbw9 hpw9
  cases r2
  · go_wp2
    go_ret
    exact ⟨ret_bool (by rw [HR.out]; rfl), hBw9⟩
  go_wp2
  go_ret
  exact ⟨ret_bool (by rw [HR.out]; rfl), hBw9⟩

end

/-! ### FamS -/
section

theorem PplTo.snoc {ps : List Per} {k : Nat} (h : PplTo ps k) (hk : perOk ps k = true) : PplTo ps (k + 1) := by
  intro i hi
  by_cases e : i = k
  · subst e; exact hk
  · exact h i (by omega)
theorem famB_ppl {f : Fam} {k : Nat} (hk : k < f.1.length) (h : perOk f.1 k = false) : famB f = false := by
  unfold famB; rw [all_range_false hk h]; simp
theorem famB_dep {f : Fam} (h : depOk f.1 = false) : famB f = false := by unfold famB; rw [h]; simp
theorem famB_uni {f : Fam} {k : Nat} (hk : k < f.2.length) (h : uniOk f k = false) : famB f = false := by
  unfold famB; rw [all_range_false hk h]; simp
theorem famB_true {f : Fam} (h1 : f.1.length ≤ 40) (h2 : f.2.length ≤ 60) (hp : PplTo f.1 f.1.length) (hd : depOk f.1 = true) (hu : ∀ k, k < f.2.length → uniOk f k = true) : famB f = true := by
  unfold famB; rw [all_range.2 hp, all_range.2 hu, hd]; simp [h1, h2]
theorem deps_step {L : List Int} {k : Nat} {d : Int} (h : L[k]? = some d) : (L.drop k).all (fun d => decide (d ≤ 10)) = (decide (d ≤ 10) && (L.drop (k + 1)).all fun d => decide (d ≤ 10)) := by
  rw [drop_cons h, List.all_cons]

set_option maxRecDepth 20000 in
set_option maxHeartbeats 4000000 in
theorem isFamS_b {z : Bool} {lo hi : Nat} (w : World) (v v2 : Value) (f : Fam) (h : Rd z lo hi w [v, v2] f) (r : Bool) (hr : r = famB f) :
    Calls Tryz.prog 102 #[.agg #[v, v2]] w (PostB w r) := by
  obtain ⟨ha, hb⟩ := h.fam
  obtain ⟨ao, n, cap, rfl, hn, hnc, hcm, hnone⟩ := ha.shape
  obtain ⟨bo, n2, dap, rfl, hn2, hnc', hcm', hnone'⟩ := hb.shape
  subst hn hn2
  unfold maxLen at *
  have HR := Lib.hid hr
  clear hr h
  by_cases h1 : f.1.length ≤ 40
  rotate_left
  · have HX := Lib.hid (show false = r by rw [HR.out]; unfold famB; simp [h1])
    have h1' : (40 : Int) < (f.1.length : Int) := by omega
    clear ha hb
    go_enter Tryz.func102, Tryz.ntmps102
    go_wp2
    go_ret
    exact ⟨ret_bool HX.out, bwT⟩
  have h1' : ¬ (40 : Int) < (f.1.length : Int) := by omega
  by_cases h2 : f.2.length ≤ 60
  rotate_left
  · have HX := Lib.hid (show false = r by rw [HR.out]; unfold famB; simp [h2])
    have h2' : (60 : Int) < (f.2.length : Int) := by omega
    clear ha hb
    go_enter Tryz.func102, Tryz.ntmps102
    go_wp2
    go_ret
    exact ⟨ret_bool HX.out, bwT⟩
  have h2' : ¬ (60 : Int) < (f.2.length : Int) := by omega
  go_enter Tryz.func102, Tryz.ntmps102
  go_wp2
  go_loopw [3, 20] (fun _ s20 wr => ∃ k : Nat, k ≤ f.1.length ∧ s20 = .int .i64 k ∧ Hid (PplTo f.1 k) ∧ Below (w.heap.size + 1) (w.alloc (.cells #[.slice ao f.1.length cap, .slice bo f.2.length dap] 37)) wr) (fun _ s20 _ => f.1.length - (intOf s20).toNat)
  case atStart => exact ⟨0, Nat.zero_le _, rfl, Lib.hid (fun i hi => absurd hi (by omega)), Below.refl _ _⟩
  case round =>
    rename_i wr
    obtain ⟨k, hk, rfl, hP, hbb⟩ := hrel
    have sW := hbb.size
    simp only [World.size_alloc] at sW
    have hbw : Below w.heap.size w wr := Below.trans ((Below.refl _ _).alloc (Nat.le_refl _) _) (hbb.mono (by omega))
    have q_f0 : wr.cell? ⟨w.heap.size, 0, none⟩ = some (.slice ao f.1.length cap) := oldc hbb (by omega) (by simp [go_sem])
    have q_f1 : wr.cell? ⟨w.heap.size, 1, none⟩ = some (.slice bo f.2.length dap) := oldc hbb (by omega) (by simp [go_sem])
    by_cases hlt : k < f.1.length
    · have hI : (k : Int) < (f.1.length : Int) := by omega
      obtain ⟨r1, hlet_r1⟩ : ∃ r, r = perOk f.1 k := ⟨_, rfl⟩
      have H1 := Lib.hid hlet_r1
      clear hlet_r1
      go_wp2_with fail
      refine (perS_b _ _ _ f.1 (ha.below bwT) k hlt hP.out r1 H1.out).mono ?_
      rintro e w1 ⟨rfl, hb1⟩
      have hB1 : Below (w.heap.size + 1) (w.alloc (.cells #[.slice ao f.1.length cap, .slice bo f.2.length dap] 37)) w1 := Below.trans hbb (hb1.mono (by omega))
      have hB1w : Below w.heap.size w w1 := Below.after hbw hb1 hbw.size
      cases r1
      · have HX := Lib.hid (show false = r by rw [HR.out, famB_ppl hlt H1.out.symm])
        go_wp2
        go_ret
        exact ⟨ret_bool HX.out, hB1w⟩
      · have HN := Lib.hid (hP.out.snoc H1.out.symm)
        clear hP
        go_wp2
        go_roundw
        case rel => exact ⟨k + 1, by omega, by go_num, HN, hB1⟩
        case measure => simp [intOf]; omega
    · obtain rfl : k = f.1.length := by omega
      obtain ⟨W0, hW0⟩ : ∃ W : World, W = wr := ⟨_, rfl⟩
      subst hW0
      have l_f : w.heap.size < W0.heap.size := by omega
      go_wp2_with fail
      refine (depS_any _ _ _ f.1 (ha.below bwT) hP.out h1).mono ?_
      rintro e w2 ⟨u, rfl, hod, hb2⟩
      have s2 := hb2.size
      have q_f0 := oldc hb2 l_f q_f0
      have q_f1 := oldc hb2 l_f q_f1
      have l_f := Nat.lt_of_lt_of_le l_f s2
      have hB2 : Below w.heap.size w w2 := Below.after hbw hb2 hbw.size
      have hdl := deps_len f.1
      obtain ⟨D, hD⟩ : ∃ D, D = deps f.1 := ⟨_, rfl⟩
      rw [← hD] at hod hdl
      have HDp := Lib.hid (show depOk f.1 = (D.drop 0).all fun d => decide (d ≤ 10) by rw [hD]; rfl)
      clear hD hbb hb2
      obtain ⟨dao, dn, dcap, rfl, rfl, -, hdcm, -⟩ := hod.rd.shape
      unfold maxLen at hdcm
      have hdI : (D.length : Int) = (f.1.length : Int) := by omega
      go_wp2
      go_loopw [5, 31] (fun _ s31 wr => ∃ k : Nat, k ≤ D.length ∧ s31 = .int .i64 k ∧ Hid (depOk f.1 = (D.drop k).all fun d => decide (d ≤ 10)) ∧ Below w2.heap.size w2 wr) (fun _ s31 _ => D.length - (intOf s31).toNat)
      case atStart => exact ⟨0, Nat.zero_le _, rfl, HDp, Below.refl _ _⟩
      case round =>
        clear HDp
        obtain ⟨k, hkd, rfl, hd, hb3⟩ := hrel
        have hB3 : Below w.heap.size w wr := Below.trans hB2 (hb3.mono hB2.size)
        by_cases hltd : k < D.length
        · obtain ⟨db, doff, d, rfl, hx, hc, hd1, hd2, _⟩ := (hod.rd.below hb3).int_at hltd
          have hI2 : (k : Int) < (D.length : Int) := by omega
          have HS := Lib.hid (deps_step hx.out)
          clear hx
          by_cases h10 : d ≤ 10
          · have h10' : ¬ 10 < d := by omega
            have HN := Lib.hid (show depOk f.1 = (D.drop (k + 1)).all fun d => decide (d ≤ 10) by rw [hd.out, HS.out]; simp [h10])
            clear hd HS
            go_wp2
            go_roundw
            case rel => exact ⟨k + 1, by omega, by go_num, HN, hb3⟩
            case measure => simp [intOf]; omega
          · have h10' : 10 < d := by omega
            have HX := Lib.hid (show false = r by rw [HR.out, famB_dep (by rw [hd.out, HS.out]; simp [h10])])
            clear hd HS
            go_wp2
            go_ret
            exact ⟨ret_bool HX.out, hB3⟩
        · have HD := Lib.hid (show depOk f.1 = true by rw [hd.out, List.drop_eq_nil_of_le (by omega)]; rfl)
          have hI2 : ¬ (k : Int) < (D.length : Int) := by omega
          have q_f0 := oldc hb3 l_f q_f0
          have q_f1 := oldc hb3 l_f q_f1
          have l_f := Nat.lt_of_lt_of_le l_f hb3.size
          obtain ⟨W3, hW3⟩ : ∃ W : World, W = wr := ⟨_, rfl⟩
          subst hW3
          clear hd hod
          go_wp2
          go_loopw [6, 41] (fun _ s41 wr => ∃ k : Nat, k ≤ f.2.length ∧ s41 = .int .i64 k ∧ Hid (∀ i, i < k → uniOk f i = true) ∧ Below W3.heap.size W3 wr) (fun _ s41 _ => f.2.length - (intOf s41).toNat)
          case atStart => exact ⟨0, Nat.zero_le _, rfl, Lib.hid (fun i hi => absurd hi (by omega)), Below.refl _ _⟩
          case round =>
            obtain ⟨k, hku, rfl, hU, hb4⟩ := hrel
            have hB4 : Below w.heap.size w wr := Below.trans hB3 (hb4.mono hB3.size)
            have q_f0 := oldc hb4 l_f q_f0
            have q_f1 := oldc hb4 l_f q_f1
            by_cases hltu : k < f.2.length
            · have hI3 : (k : Int) < (f.2.length : Int) := by omega
              obtain ⟨r5, hlet_r5⟩ : ∃ r, r = uniOk f k := ⟨_, rfl⟩
              have H5 := Lib.hid hlet_r5
              clear hlet_r5
              go_wp2_with fail
              refine (uniS_b _ _ _ f (ha.below bwT) (hb.below bwT) h1 hP.out k hltu h2 r5 H5.out).mono ?_
              rintro e w5 ⟨rfl, hb5⟩
              have hb45 : Below W3.heap.size W3 w5 := Below.after hb4 hb5 hb4.size
              have hB5 : Below w.heap.size w w5 := Below.after hB4 hb5 hB4.size
              cases r5
              · have HX := Lib.hid (show false = r by rw [HR.out, famB_uni hltu H5.out.symm])
                go_wp2
                go_ret
                exact ⟨ret_bool HX.out, hB5⟩
              · have HN := Lib.hid (show ∀ i, i < k + 1 → uniOk f i = true by
                  intro i hi
                  by_cases e : i = k
                  · subst e; exact H5.out.symm
                  · exact hU.out i (by omega))
                clear hU
                go_wp2
                go_roundw
                case rel => exact ⟨k + 1, by omega, by go_num, HN, hb45⟩
                case measure => simp [intOf]; omega
            · have HX := Lib.hid (show true = r by rw [HR.out, famB_true h1 h2 hP.out HD.out (fun i hi => hU.out i (by omega))])
              have hI3 : ¬ (k : Int) < (f.2.length : Int) := by omega
              clear hU
              go_wp2
              go_ret
              exact ⟨ret_bool HX.out, hB4⟩

end

/-! ### ExoS -/
section

theorem famSz_le (f : Fam) : f.1.length ≤ famSz f ∧ f.2.length ≤ famSz f := by unfold famSz; omega
def exoU (g : List Int) (u : Uni) : Bool := !decide (g.getD u.1.toNat 0 = g.getD u.2.1.toNat 0)
def exoB (f : Fam) (g : List Int) : Bool := famB f && (decide (g.length = f.1.length) && f.2.all (exoU g))

theorem famB_facts {f : Fam} (h : famB f = true) : f.1.length ≤ 40 ∧ f.2.length ≤ 60 ∧ PplTo f.1 f.1.length ∧ ∀ k, k < f.2.length → uniOk f k = true := by
  simp only [famB, Bool.and_eq_true, decide_eq_true_eq] at h
  exact ⟨h.1.1, h.1.2, all_range.1 h.2.1, all_range.1 h.2.2.2⟩
theorem uniOk_facts {f : Fam} {k : Nat} {m wo fr tl : Int} (h : uniOk f k = true) (hu : f.2[k]? = some (m, wo, fr, tl)) : (0 ≤ m ∧ m < f.1.length) ∧ (0 ≤ wo ∧ wo < f.1.length) := by
  unfold uniOk at h
  rw [hu] at h
  simp only [uniC, Bool.and_eq_true, decide_eq_true_eq] at h
  exact h.1
theorem getD_at {g : List Int} {m : Nat} {x : Int} (h : g[m]? = some x) : g.getD ((m : Nat) : Int).toNat 0 = x := by
  rw [Int.toNat_natCast, List.getD_eq_getElem?_getD, h]; rfl


end

end Go.Proofs.YtcbhdmmohdnjbaaGreat
