/- Texts laid one behind the other (merge.py): Name, TyPerson, ParS, PerS. -/
import Derived.Test.YtefbbbhidnnchaaZ14A
namespace Go.Proofs.Ytefbbbhidnnchaa
set_option linter.unusedVariables false
set_option linter.unusedSimpArgs false
open Go.RowKit

/-! ### Name -/
section

theorem letters_step {s : ByteArray} {k : Nat} (h : k < s.size) : letters (s.data.toList.drop k) = (decide (97 ≤ (s[k]'h).toNat ∧ (s[k]'h).toNat ≤ 122) && letters (s.data.toList.drop (k + 1))) := by
  have h' : k < s.data.toList.length := by simpa using h
  rw [List.drop_eq_getElem_cons h']
  simp [letters]
  rfl
theorem letters_end {s : ByteArray} {k : Nat} (h : s.size ≤ k) : letters (s.data.toList.drop k) = true := by
  rw [List.drop_eq_nil_of_le (by simpa using h)]; rfl

set_option maxHeartbeats 1000000 in
theorem isNameI_b (w : World) (s : ByteArray) (hs : s.size ≤ maxLen) (r : Bool) (hr : r = nameOk s) :
    Calls Try.prog 60 #[.string s] w (PostB w r) := by
  unfold maxLen at hs
  have HR := Lib.hid hr
  clear hr
  by_cases h1 : 1 ≤ s.size
  · by_cases h2 : s.size ≤ 12
    · have h1' : ¬ (s.size : Int) < 1 := by omega
      have h2' : ¬ (12 : Int) < (s.size : Int) := by omega
      have HL := Lib.hid (show r = letters (s.data.toList.drop 0) by rw [HR.out, nameOk]; simp [h1, h2])
      go_enter Try.func60, Try.ntmps60
      go_wp2
      go_loopw [3] (fun s3 wr => ∃ k : Nat, k ≤ s.size ∧ s3 = .int .i64 k ∧ Hid (r = letters (s.data.toList.drop k)) ∧ Below w.heap.size w wr) (fun s3 _ => s.size - (intOf s3).toNat)
      case atStart => exact ⟨0, Nat.zero_le _, rfl, HL, Below.refl _ _⟩
      case round =>
        obtain ⟨k, hk, rfl, ht, hb⟩ := hrel
        by_cases hlt : k < s.size
        · have hI : (k : Int) < (s.size : Int) := by omega
          have HT := Lib.hid (letters_step hlt)
          have HFail := Lib.hid (show ¬ (97 ≤ ((s[k]'hlt).toNat : Int) ∧ ((s[k]'hlt).toNat : Int) ≤ 122) → false = r by
            intro e
            have e2 : ¬ (97 ≤ (s[k]'hlt).toNat ∧ (s[k]'hlt).toNat ≤ 122) := by omega
            rw [ht.out, HT.out]; simp [e2])
          have HOk := Lib.hid (show (97 ≤ ((s[k]'hlt).toNat : Int) ∧ ((s[k]'hlt).toNat : Int) ≤ 122) → r = letters (s.data.toList.drop (k + 1)) by
            intro e
            have e2 : 97 ≤ (s[k]'hlt).toNat ∧ (s[k]'hlt).toNat ≤ 122 := by omega
            rw [ht.out, HT.out]; simp [e2])
          clear ht HT
          go_wp2
          all_goals first
            | (go_roundw
               case rel => exact ⟨k + 1, by omega, by go_num, Lib.hid (HOk.out (by omega)), hb⟩
               case measure => simp [intOf]; omega)
            | (go_ret; exact ⟨ret_bool (HFail.out (by omega)), hb⟩)
        · have HF := Lib.hid (show true = r by rw [ht.out, letters_end (by omega)])
          have hI : ¬ (k : Int) < (s.size : Int) := by omega
          go_wp2
          go_ret
          exact ⟨ret_bool HF.out, hb⟩
    · have HF := Lib.hid (show false = r by rw [HR.out, nameOk]; simp [h2])
      have h1' : ¬ (s.size : Int) < 1 := by omega
      have h2' : (12 : Int) < (s.size : Int) := by omega
      go_enter Try.func60, Try.ntmps60
      go_wp2
      go_ret
      exact ⟨ret_bool HF.out, bwT⟩
  · have HF := Lib.hid (show false = r by rw [HR.out, nameOk]; simp [h1])
    have h1' : (s.size : Int) < 1 := by omega
    go_enter Try.func60, Try.ntmps60
    go_wp2
    go_ret
    exact ⟨ret_bool HF.out, bwT⟩

set_option maxHeartbeats 1000000 in
theorem isNameS_b (w : World) (s : ByteArray) (hs : s.size ≤ maxLen) (r : Bool) (hr : r = nameOk s) :
    Calls Try.prog 97 #[.string s] w (PostB w r) := by
  unfold maxLen at hs
  obtain ⟨r2, hlet_r2⟩ : ∃ r, r = decide (1 ≤ s.size ∧ s.size ≤ 12) := ⟨_, rfl⟩
  have H2 := Lib.hid hlet_r2
  clear hlet_r2
  obtain ⟨r1, hlet_r1⟩ : ∃ r, r = letters s.data.toList := ⟨_, rfl⟩
  have H1 := Lib.hid hlet_r1
  clear hlet_r1
  have HR := Lib.hid (show r = (r2 && r1) by rw [hr, nameOk, H1.out, H2.out])
  clear hr
  go_enter Try.func97, Try.ntmps97
  go_wp2
  go_loopw [3] (fun s3 wr => ∃ k : Nat, k ≤ s.size ∧ s3 = .int .i64 k ∧ Hid (r1 = letters (s.data.toList.drop k)) ∧ Below w.heap.size w wr) (fun s3 _ => s.size - (intOf s3).toNat)
  case atStart => exact ⟨0, Nat.zero_le _, rfl, H1, Below.refl _ _⟩
  case round =>
    obtain ⟨k, hk, rfl, ht, hb⟩ := hrel
    by_cases hlt : k < s.size
    · have hI : (k : Int) < (s.size : Int) := by omega
      have HT := Lib.hid (letters_step hlt)
      have HFail := Lib.hid (show ¬ (97 ≤ ((s[k]'hlt).toNat : Int) ∧ ((s[k]'hlt).toNat : Int) ≤ 122) → false = r by
        intro e
        have e2 : ¬ (97 ≤ (s[k]'hlt).toNat ∧ (s[k]'hlt).toNat ≤ 122) := by omega
        rw [HR.out, ht.out, HT.out]; simp [e2])
      have HOk := Lib.hid (show (97 ≤ ((s[k]'hlt).toNat : Int) ∧ ((s[k]'hlt).toNat : Int) ≤ 122) → r1 = letters (s.data.toList.drop (k + 1)) by
        intro e
        have e2 : 97 ≤ (s[k]'hlt).toNat ∧ (s[k]'hlt).toNat ≤ 122 := by omega
        rw [ht.out, HT.out]; simp [e2])
      clear ht HT
      go_wp2
      all_goals first
        | (go_roundw
           case rel => exact ⟨k + 1, by omega, by go_num, Lib.hid (HOk.out (by omega)), hb⟩
           case measure => simp [intOf]; omega)
        | (go_ret; exact ⟨ret_bool (HFail.out (by omega)), hb⟩)
    · have HT := Lib.hid (show r1 = true by rw [ht.out, letters_end (by omega)])
      have hI : ¬ (k : Int) < (s.size : Int) := by omega
      have H3 := Lib.hid (show r2 = decide ((1 : Int) ≤ (s.size : Int) ∧ (s.size : Int) ≤ 12) by rw [H2.out]; congr 1; apply propext; omega)
      go_wp2_with fail
      refine (l1In_b _ _ _ _ r2 H3.out).mono ?_
      rintro e w1 ⟨rfl, hb1⟩
      have hB1 : Below w.heap.size w w1 := Below.after hb hb1 hb.size
      go_wp2
      go_ret
      exact ⟨ret_bool (by rw [HR.out, HT.out]; simp), hB1⟩

end

/-! ### TyPerson -/
section

theorem slPerson : SlTy Try.prog 23 56 (.agg #[.string ByteArray.empty, .int .i64 0, .int .i64 0, .int .i64 0, .int .i64 0, .int .i64 0]) 6 56 := SlTy.of Try.underlying23 (by kernel_rfl) rfl
theorem repPer_inv {z : Bool} {w : World} {cs : List Value} {nm : ByteArray} {sx : Int} {fa : Int} {mo : Int} {bo : Int} {di : Int} {fp : List Nat} (h : Rep.rep z w cs ((nm, sx, fa, mo, bo, di) : Per) fp) : cs = [.string nm, .int .i64 sx, .int .i64 fa, .int .i64 mo, .int .i64 bo, .int .i64 di] ∧ nm.size ≤ maxLen ∧ I64 sx ∧ I64 fa ∧ I64 mo ∧ I64 bo ∧ I64 di ∧ fp = [] := by
  obtain ⟨_, _, _, _, rfl, rfl, ⟨rfl, h0, rfl⟩, _, _, _, _, rfl, rfl, ⟨rfl, h1, rfl⟩, _, _, _, _, rfl, rfl, ⟨rfl, h2, rfl⟩, _, _, _, _, rfl, rfl, ⟨rfl, h3, rfl⟩, _, _, _, _, rfl, rfl, ⟨rfl, h4, rfl⟩, ⟨rfl, h5, rfl⟩⟩ := h
  exact ⟨rfl, h0, h1, h2, h3, h4, h5, rfl⟩
theorem repPer_mk {z : Bool} {w : World} {nm : ByteArray} {sx : Int} {fa : Int} {mo : Int} {bo : Int} {di : Int} (h0 : nm.size ≤ maxLen) (h1 : I64 sx) (h2 : I64 fa) (h3 : I64 mo) (h4 : I64 bo) (h5 : I64 di) : Rep.rep z w [.string nm, .int .i64 sx, .int .i64 fa, .int .i64 mo, .int .i64 bo, .int .i64 di] ((nm, sx, fa, mo, bo, di) : Per) [] :=
  ⟨[_], _, [], [], rfl, rfl, ⟨rfl, h0, rfl⟩, ⟨[_], _, [], [], rfl, rfl, ⟨rfl, h1, rfl⟩, ⟨[_], _, [], [], rfl, rfl, ⟨rfl, h2, rfl⟩, ⟨[_], _, [], [], rfl, rfl, ⟨rfl, h3, rfl⟩, ⟨[_], _, [], [], rfl, rfl, ⟨rfl, h4, rfl⟩, ⟨rfl, h5, rfl⟩⟩⟩⟩⟩⟩
theorem Rd.per_at {z : Bool} {lo hi : Nat} {w : World} {xs : List Per} {ao : Option Addr} {n cap : Nat} (h : Rd z lo hi w [.slice ao n cap] xs) {i : Nat} (hi' : i < n) :
    ∃ (b off : Nat) (nm : ByteArray) (sx : Int) (fa : Int) (mo : Int) (bo : Int) (di : Int), ao = some ⟨b, off, none⟩ ∧ Hid (xs[i]? = some (nm, sx, fa, mo, bo, di)) ∧ w.cell? ⟨b, off + i * 6, none⟩ = some (.string nm) ∧ w.cell? ⟨b, off + i * 6 + 1, none⟩ = some (.int .i64 sx) ∧ w.cell? ⟨b, off + i * 6 + 2, none⟩ = some (.int .i64 fa) ∧ w.cell? ⟨b, off + i * 6 + 3, none⟩ = some (.int .i64 mo) ∧ w.cell? ⟨b, off + i * 6 + 4, none⟩ = some (.int .i64 bo) ∧ w.cell? ⟨b, off + i * 6 + 5, none⟩ = some (.int .i64 di) ∧ nm.size ≤ maxLen ∧ I64 sx ∧ I64 fa ∧ I64 mo ∧ I64 bo ∧ I64 di ∧ lo ≤ b ∧ b < hi ∧ b < w.heap.size ∧ (z = true → ∀ o, w.frozen? ⟨b, o, none⟩ = false) := by
  obtain ⟨b, off, ⟨nm, sx, fa, mo, bo, di⟩, cs, e, hx, ⟨fp, hr, _⟩, _, g1, g2, g3, hc, hf⟩ := h.at hi'
  obtain ⟨rfl, h0, h1, h2, h3, h4, h5, -⟩ := repPer_inv hr
  refine ⟨b, off, nm, sx, fa, mo, bo, di, e, hx, ?_, ?_, ?_, ?_, ?_, ?_, h0, h1, h2, h3, h4, h5, g1, g2, g3, hf⟩
  · have := hc 0 (.string nm) rfl; simpa [Rep.sz, Nat.add_assoc] using this
  · have := hc 1 (.int .i64 sx) rfl; simpa [Rep.sz, Nat.add_assoc] using this
  · have := hc 2 (.int .i64 fa) rfl; simpa [Rep.sz, Nat.add_assoc] using this
  · have := hc 3 (.int .i64 mo) rfl; simpa [Rep.sz, Nat.add_assoc] using this
  · have := hc 4 (.int .i64 bo) rfl; simpa [Rep.sz, Nat.add_assoc] using this
  · have := hc 5 (.int .i64 di) rfl; simpa [Rep.sz, Nat.add_assoc] using this

end

/-! ### ParS -/
section

set_option maxRecDepth 20000 in
set_option maxHeartbeats 4000000 in
theorem parS_b {z : Bool} {lo hi : Nat} (w : World) (v v2 : Value) (ps : List Per) (h : Rd z lo hi w [v] ps) (k : Nat) (hP : PplTo ps k) {nm : ByteArray} {sx fa mo born di : Int} (hk : ps[k]? = some (nm, sx, fa, mo, born, di)) (q : Int) (sex late : Int) (hl0 : 0 ≤ late) (hl1 : late ≤ 1)
    (r : Bool) (hr : r = upOk ps k born q sex late) :
    Calls Try.prog 98 #[.agg #[v, v2], .int .i64 k, .int .i64 q, .int .i64 sex, .int .i64 late] w (PostB w r) := by
  obtain ⟨ao, n, cap, rfl, rfl, hnc, hcm, hnone⟩ := h.shape
  unfold maxLen at *
  have hkl : k < ps.length := (List.getElem?_eq_some_iff.1 hk).1
  have HR := Lib.hid hr
  clear hr
  by_cases h1 : q = -1
  · obtain rfl : r = true := by rw [HR.out, upOk]; simp [h1]
    subst h1
    clear h hP
    go_enter Try.func98, Try.ntmps98
    go_wp2
    go_ret
    exact ⟨rfl, bwT⟩
  have h1' : (q == -1) = false := by simpa using h1
  by_cases h2 : 0 ≤ q ∧ q < k
  · obtain ⟨m, rfl⟩ := Int.eq_ofNat_of_zero_le h2.1
    have hm : m < k := by omega
    obtain ⟨b, off, nm0, sx0, fa0, mo0, bo0, di0, rfl, hx, p0, p1, p2, p3, p4, p5, g0, g1, g2, g3, g4, g5, -, -, hbl, -⟩ := h.per_at (show m < ps.length by omega)
    obtain ⟨_, _, nm1, sx1, fa1, mo1, bo1, di1, ee, hy, -, -, -, -, c4, -, -, -, -, -, -, -, -, -, -, -⟩ := h.per_at hkl
    simp only [Option.some.injEq, Addr.mk.injEq, and_true] at ee
    obtain ⟨rfl, rfl⟩ := ee
    obtain ⟨rfl, rfl, rfl, rfl, rfl, rfl⟩ : nm = nm1 ∧ sx = sx1 ∧ fa = fa1 ∧ mo = mo1 ∧ born = bo1 ∧ di = di1 := by
      have := hk.symm.trans hy.out
      simpa using this
    obtain ⟨-, f2, f3, -⟩ := hP.at hm hx.out
    have HB := Lib.hid (show r = (decide (sx0 = sex) && (decide (bo0 < born) && (decide (di0 = -1) || decide (born ≤ di0 + late)))) by
      rw [HR.out, upOk, upC, Int.toNat_natCast, hx.out]
      have e1 : ¬ ((m : Nat) : Int) = -1 := by omega
      have e2 : (0 : Int) ≤ ((m : Nat) : Int) ∧ ((m : Nat) : Int) < (k : Int) := by omega
      simp only [e1, e2, decide_false, decide_true, and_self, Bool.false_or, Bool.true_and]
      rw [Bool.decide_or])
    have hI1 : ¬ ((m : Nat) : Int) < 0 := by omega
    have hI2 : ¬ ((k : Nat) : Int) ≤ ((m : Nat) : Int) := by omega
    have hI3 : ((m : Nat) : Int) < (ps.length : Int) := by omega
    have hI4 : ((k : Nat) : Int) < (ps.length : Int) := by omega
    have hwr : IntKind.i64.wrap (di0 + late) = di0 + late := IntWalk.i64_in _ (by omega)
    have nb1 : ¬ b = w.heap.size := by omega
    have nb2 : ¬ w.heap.size = b := by omega
    clear h hP hx hy hk HR h2 f2 f3
    by_cases q1 : sx0 = sex
    · have q1' : (sx0 != sex) = false := by simpa using q1
      by_cases q2 : bo0 < born
      · by_cases q3 : di0 = -1
        · have q3' : (di0 == -1) = true := by simpa using q3
          obtain rfl : r = true := by rw [HB.out]; simp [*]
          clear HB
          go_enter Try.func98, Try.ntmps98
          go_wp2
          go_ret
          exact ⟨rfl, bwT⟩
        · have q3' : (di0 == -1) = false := by simpa using q3
          by_cases q4 : born ≤ di0 + late
          · obtain rfl : r = true := by rw [HB.out]; simp [*]
            clear HB
            go_enter Try.func98, Try.ntmps98
            go_wp2
            go_ret
            exact ⟨rfl, bwT⟩
          · have q4' : decide (born ≤ di0 + late) = false := by simpa using q4
            obtain rfl : r = false := by rw [HB.out]; simp [q1, q2, q3, q4]
            clear HB
            go_enter Try.func98, Try.ntmps98
            go_wp2
            go_ret
            exact ⟨rfl, bwT⟩
      · have q2' : decide (bo0 < born) = false := by simpa using q2
        obtain rfl : r = false := by rw [HB.out]; simp [q1, q2]
        clear HB
        go_enter Try.func98, Try.ntmps98
        go_wp2
        go_ret
        exact ⟨rfl, bwT⟩
    · have q1' : (sx0 != sex) = true := by simpa using q1
      obtain rfl : r = false := by rw [HB.out]; simp [q1]
      clear HB
      go_enter Try.func98, Try.ntmps98
      go_wp2
      go_ret
      exact ⟨rfl, bwT⟩
  · obtain rfl : r = false := by rw [HR.out, upOk]; simp [h1]; omega
    clear h hP HR
    go_enter Try.func98, Try.ntmps98
    go_wp2
    all_goals first
      | (exfalso; omega)
      | (go_ret; exact ⟨rfl, bwT⟩)

end

/-! ### PerS -/
section

set_option maxRecDepth 20000 in
set_option maxHeartbeats 4000000 in
theorem perS_b {z : Bool} {lo hi : Nat} (w : World) (v v2 : Value) (ps : List Per) (h : Rd z lo hi w [v] ps) (i : Nat) (hil : i < ps.length) (hP : PplTo ps i) (r : Bool) (hr : r = perOk ps i) :
    Calls Try.prog 65 #[.agg #[v, v2], .int .i64 i] w (PostB w r) := by
  obtain ⟨ao, n, cap, rfl, rfl, hnc, hcm, hnone⟩ := h.shape
  unfold maxLen at *
  obtain ⟨b, off, nm, sx, fa, mo, bo, di, rfl, hx, p0, p1, p2, p3, p4, p5, g0, g1, g2, g3, g4, g5, -, -, hbl, -⟩ := h.per_at hil
  rw [perOk_at hx.out] at hr
  have hR : Rd z lo hi w [.slice (some ⟨b, off, none⟩) ps.length cap] ps := h
  obtain ⟨r1, hlet_r1⟩ : ∃ r, r = nameOk nm := ⟨_, rfl⟩
  have H1 := Lib.hid hlet_r1
  clear hlet_r1
  obtain ⟨r2, hr2⟩ : ∃ r, r = decide ((1 : Int) ≤ sx ∧ sx ≤ 2) := ⟨_, rfl⟩
  have H2 := Lib.hid hr2
  have H2b := Lib.hid (show decide (sx = 1 ∨ sx = 2) = r2 by rw [hr2]; congr 1; apply propext; omega)
  clear hr2
  obtain ⟨r3, hlet_r3⟩ : ∃ r, r = decide ((0 : Int) ≤ bo ∧ bo ≤ 9999) := ⟨_, rfl⟩
  have H3 := Lib.hid hlet_r3
  clear hlet_r3
  obtain ⟨r4, hlet_r4⟩ : ∃ r, r = decide (di = -1 ∨ (bo ≤ di ∧ di ≤ 9999)) := ⟨_, rfl⟩
  have H4 := Lib.hid hlet_r4
  clear hlet_r4
  obtain ⟨dup, hlet_dup⟩ : ∃ r, r = decide (nm ∈ (ps.take i).map (·.1)) := ⟨_, rfl⟩
  have H5 := Lib.hid hlet_dup
  clear hlet_dup
  obtain ⟨r6, hlet_r6⟩ : ∃ r, r = upOk ps i bo fa 1 1 := ⟨_, rfl⟩
  have H6 := Lib.hid hlet_r6
  clear hlet_r6
  obtain ⟨r7, hlet_r7⟩ : ∃ r, r = upOk ps i bo mo 2 0 := ⟨_, rfl⟩
  have H7 := Lib.hid hlet_r7
  clear hlet_r7
  have HR := Lib.hid (show r = (r1 && (r2 && (r3 && (r4 && (!dup && (r6 && r7)))))) by rw [hr, perC, H1.out, H2b.out, H3.out, H4.out, H5.out, H6.out, H7.out])
  clear hr H2b
  have hI : (i : Int) < (ps.length : Int) := by omega
  go_enter Try.func65, Try.ntmps65
  go_wp2_with fail
  refine (isNameS_b _ nm g0 r1 H1.out).mono ?_
  rintro e1 w1 ⟨rfl, hbw1⟩
  have hpw1 : Below w.heap.size w w1 := Below.after bwT hbw1 szT
  have sw1 := hpw1.size
  have hBw1 : Below w.heap.size w w1 := hpw1
  have l_f : w.heap.size < w1.heap.size := by have := hbw1.size; simp at this; omega
  have q_f0 : w1.cell? ⟨w.heap.size, 0, none⟩ = some (.slice (some ⟨b, off, none⟩) ps.length cap) := oldc hbw1 ltT (by simp [go_sem])
  have q_f1 : w1.cell? ⟨w.heap.size, 1, none⟩ = some (v2) := oldc hbw1 ltT (by simp [go_sem])
  have l_p : w.heap.size + 1 < w1.heap.size := by have := hbw1.size; simp at this; omega
  have q_p0 : w1.cell? ⟨w.heap.size + 1, 0, none⟩ = some (.string nm) := oldc hbw1 ltT (by simp [go_sem])
  have q_p1 : w1.cell? ⟨w.heap.size + 1, 1, none⟩ = some (.int .i64 sx) := oldc hbw1 ltT (by simp [go_sem])
  have q_p2 : w1.cell? ⟨w.heap.size + 1, 2, none⟩ = some (.int .i64 fa) := oldc hbw1 ltT (by simp [go_sem])
  have q_p3 : w1.cell? ⟨w.heap.size + 1, 3, none⟩ = some (.int .i64 mo) := oldc hbw1 ltT (by simp [go_sem])
  have q_p4 : w1.cell? ⟨w.heap.size + 1, 4, none⟩ = some (.int .i64 bo) := oldc hbw1 ltT (by simp [go_sem])
  have q_p5 : w1.cell? ⟨w.heap.size + 1, 5, none⟩ = some (.int .i64 di) := oldc hbw1 ltT (by simp [go_sem])
  clear hbw1 hpw1
  cases r1
  · go_wp2
    go_ret
    exact ⟨ret_bool (by rw [HR.out]; rfl), bwT⟩
  go_wp2_with fail
  refine (l1In_b _ _ _ _ r2 H2.out).mono ?_
  rintro e2 w2 ⟨rfl, hbw2⟩
  have hpw2 : Below w1.heap.size w1 w2 := Below.after bwT hbw2 szT
  have sw2 := hpw2.size
  have hBw2 : Below w.heap.size w w2 := Below.trans hBw1 (Below.mono hpw2 hBw1.size)
  have q_f0 := oldc hpw2 l_f q_f0
  have q_f1 := oldc hpw2 l_f q_f1
  have q_p0 := oldc hpw2 l_p q_p0
  have q_p1 := oldc hpw2 l_p q_p1
  have q_p2 := oldc hpw2 l_p q_p2
  have q_p3 := oldc hpw2 l_p q_p3
  have q_p4 := oldc hpw2 l_p q_p4
  have q_p5 := oldc hpw2 l_p q_p5
  have l_f := Nat.lt_of_lt_of_le l_f sw2
  have l_p := Nat.lt_of_lt_of_le l_p sw2
  clear hbw2 hpw2
  cases r2
  · go_wp2
    go_ret
    exact ⟨ret_bool (by rw [HR.out]; rfl), bwT⟩
  go_wp2_with fail
  refine (l1In_b _ _ _ _ r3 H3.out).mono ?_
  rintro e3 w3 ⟨rfl, hbw3⟩
  have hpw3 : Below w2.heap.size w2 w3 := Below.after bwT hbw3 szT
  have sw3 := hpw3.size
  have hBw3 : Below w.heap.size w w3 := Below.trans hBw2 (Below.mono hpw3 hBw2.size)
  have q_f0 := oldc hpw3 l_f q_f0
  have q_f1 := oldc hpw3 l_f q_f1
  have q_p0 := oldc hpw3 l_p q_p0
  have q_p1 := oldc hpw3 l_p q_p1
  have q_p2 := oldc hpw3 l_p q_p2
  have q_p3 := oldc hpw3 l_p q_p3
  have q_p4 := oldc hpw3 l_p q_p4
  have q_p5 := oldc hpw3 l_p q_p5
  have l_f := Nat.lt_of_lt_of_le l_f sw3
  have l_p := Nat.lt_of_lt_of_le l_p sw3
  clear hbw3 hpw3
  cases r3
  · go_wp2
    go_ret
    exact ⟨ret_bool (by rw [HR.out]; rfl), bwT⟩
  have hBX := hBw3
  clear p0 p1 p2 p3 p4 p5
  by_cases s4 : di = -1
  case' pos =>
    have s4' : (di != -1) = false := by simpa using s4
    obtain ⟨WY, hWY⟩ : ∃ W : World, W = w3 := ⟨_, rfl⟩
    subst hWY
    have hBY : Below w.heap.size w WY := hBw3
    obtain rfl : r4 = true := by rw [H4.out]; simp [s4]
  case' neg =>
    have s4' : (di != -1) = true := by simpa using s4
    have H4c := Lib.hid (show r4 = decide (bo ≤ di ∧ di ≤ 9999) by rw [H4.out]; simp [s4])
    go_wp2_with fail
    refine (l1In_b _ _ _ _ r4 H4c.out).mono ?_
    rintro e WY ⟨rfl, hXY⟩
    have hBY : Below w.heap.size w WY := Below.after hBX hXY hBX.size
    have sXY := hXY.size
    have q_f0 := oldc hXY l_f q_f0
    have q_f1 := oldc hXY l_f q_f1
    have q_p0 := oldc hXY l_p q_p0
    have q_p1 := oldc hXY l_p q_p1
    have q_p2 := oldc hXY l_p q_p2
    have q_p3 := oldc hXY l_p q_p3
    have q_p4 := oldc hXY l_p q_p4
    have q_p5 := oldc hXY l_p q_p5
    have l_f := Nat.lt_of_lt_of_le l_f sXY
    have l_p := Nat.lt_of_lt_of_le l_p sXY
    cases r4
    · go_wp2
      go_ret
      exact ⟨ret_bool (by rw [HR.out]; rfl), bwT⟩
  all_goals
    clear hBX
    go_wp2
    go_loopw [6] (fun s6 wr => ∃ j : Nat, j ≤ i ∧ s6 = .int .i64 j ∧ Hid (dup = decide (nm ∈ ((ps.take i).drop j).map (·.1))) ∧ Below WY.heap.size WY wr) (fun s6 _ => i - (intOf s6).toNat)
    case atStart => exact ⟨0, Nat.zero_le _, rfl, Lib.hid (by simpa using H5.out), Below.refl _ _⟩
    case round =>
      rename_i wr
      obtain ⟨j, hj, rfl, hd, hb⟩ := hrel
      have sW := hb.size
      have hbw : Below w.heap.size w wr := Below.trans hBY (hb.mono hBY.size)
      have q_f0 := oldc hb l_f q_f0
      have q_f1 := oldc hb l_f q_f1
      have q_p0 := oldc hb l_p q_p0
      have q_p2 := oldc hb l_p q_p2
      have q_p3 := oldc hb l_p q_p3
      have l_f := Nat.lt_of_lt_of_le l_f sW
      have l_p := Nat.lt_of_lt_of_le l_p sW
      clear H5
      by_cases hlt : j < i
      · obtain ⟨_, _, nm2, sx2, fa2, mo2, bo2, di2, ee, hy, c0, c1, c2, c3, c4, c5, -, -, -, -, -, -, -, -, hbl2, -⟩ := (h.below hbw).per_at (show j < ps.length by omega)
        simp only [Option.some.injEq, Addr.mk.injEq, and_true] at ee
        obtain ⟨rfl, rfl⟩ := ee
        have hjI : (j : Int) < (i : Int) := by omega
        have hjn : (j : Int) < (ps.length : Int) := by omega
        have hy2 : (ps.take i)[j]? = some (nm2, sx2, fa2, mo2, bo2, di2) := by rw [List.getElem?_take, if_pos hlt]; exact hy.out
        have HS := Lib.hid (drop_cons hy2)
        clear hy hy2 h hP hR
        by_cases m1 : nm2 = nm
        · have m1' : (nm2.toList == nm.toList) = true := by rw [text_eq]; simpa using m1
          have HX := Lib.hid (show false = r by rw [HR.out, hd.out, HS.out]; simp [m1])
          clear hd HS HR
          go_wp2_with fail
          go_quiet (fail)
          go_wp2
          go_ret
          exact ⟨ret_bool HX.out, bwT⟩
        · have m1' : (nm2.toList == nm.toList) = false := by rw [text_eq]; simpa using m1
          have HN := Lib.hid (show dup = decide (nm ∈ ((ps.take i).drop (j + 1)).map (·.1)) by
            rw [hd.out, HS.out]
            have : ¬ nm = nm2 := fun e => m1 e.symm
            simp [this])
          clear hd HS
          go_wp2_with fail
          go_quiet (fail)
          go_wp2
          go_roundw
          case rel => exact ⟨j + 1, by omega, by go_num, HN, bwT⟩
          case measure => simp [intOf]; omega
      · have HD := Lib.hid (show dup = false by rw [hd.out, List.drop_eq_nil_of_le (by simp; omega)]; rfl)
        clear hd
        have hjI : ¬ (j : Int) < (i : Int) := by omega
        go_wp2_with fail
        refine (parS_b _ _ v2 ps (hR.below bwT) i hP hx.out fa 1 1 (by omega) (by omega) r6 H6.out).mono ?_
        rintro e w8 ⟨rfl, hb8⟩
        have hB8 : Below w.heap.size w w8 := Below.after hbw hb8 hbw.size
        have q_f0 := oldc hb8 l_f q_f0
        have q_f1 := oldc hb8 l_f q_f1
        have q_p3 := oldc hb8 l_p q_p3
        cases r6
        · go_wp2
          go_ret
          exact ⟨ret_bool (by rw [HR.out, HD.out]; rfl), hB8⟩
        go_wp2_with fail
        refine (parS_b _ _ v2 ps (hR.below bwT) i hP hx.out mo 2 0 (by omega) (by omega) r7 H7.out).mono ?_
        rintro e w9 ⟨rfl, hb9⟩
        have hB9 : Below w.heap.size w w9 := Below.after hB8 hb9 hB8.size
        go_wp2
        go_ret
        exact ⟨ret_bool (by rw [HR.out, HD.out]; rfl), hB9⟩

end

end Go.Proofs.Ytefbbbhidnnchaa
