/- Texts laid one behind the other (merge.py): Name, TyPerson, ParS, PerS, DepS, TyUnion, UniS, FamH, FamS, ExoS. -/
import Derived.Test.YtcbhdmmohdnjbaaGreatBase
namespace Go.Proofs.YtcbhdmmohdnjbaaGreat
set_option linter.unusedVariables false
set_option linter.unusedSimpArgs false
open Go.RowKit
set_option maxHeartbeats 100000000
section
theorem letters_step {s : ByteArray} {k : Nat} (h : k < s.size) : letters (s.data.toList.drop k) = (decide (97 ≤ (s[k]'h).toNat ∧ (s[k]'h).toNat ≤ 122) && letters (s.data.toList.drop (k + 1))) := by
 have h' : k < s.data.toList.length := by simpa using h
 rw [List.drop_eq_getElem_cons h']
 simp [letters]
 rfl
theorem letters_end {s : ByteArray} {k : Nat} (h : s.size ≤ k) : letters (s.data.toList.drop k) = true := by
 rw [List.drop_eq_nil_of_le (by simpa using h)]; rfl
theorem isNameI_b (w : World) (s : ByteArray) (hs : s.size ≤ maxLen) (r : Bool) (hr : r = nameOk s) :
  Calls Tryz.prog 96 #[.string s] w (PostB w r) := by
 unfold maxLen at hs
 have HR := Hd hr
 clear hr
 by_cases h1 : 1 ≤ s.size
 ·by_cases h2 : s.size ≤ 12
  ·have h1' : ¬ (s.size : Int) < 1 := by omega
   have h2' : ¬ (12 : Int) < (s.size : Int) := by omega
   have HL := Hd (show r = letters (s.data.toList.drop 0) by rw [HR.out, nameOk]; simp [h1, h2])
   go_enter Tryz.func96, Tryz.ntmps96
   go_wp2
   go_loopw [3] (fun s3 wr => ∃ k : Nat, k ≤ s.size ∧ s3 = .int .i64 k ∧ Hid (r = letters (s.data.toList.drop k)) ∧ Below w.heap.size w wr) (fun s3 _ => s.size - (intOf s3).toNat)
   case atStart => exact ⟨0, Nat.zero_le _, rfl, HL, Below.refl _ _⟩
   case round =>
    obtain ⟨k, hk, rfl, ht, hb⟩ := hrel
    by_cases hlt : k < s.size
    ·have hI : (k : Int) < (s.size : Int) := by omega
     have HT := Hd (letters_step hlt)
     have HFail := Hd (show ¬ (97 ≤ ((s[k]'hlt).toNat : Int) ∧ ((s[k]'hlt).toNat : Int) ≤ 122) → false = r by
      intro e
      have e2 : ¬ (97 ≤ (s[k]'hlt).toNat ∧ (s[k]'hlt).toNat ≤ 122) := by omega
      rw [ht.out, HT.out]; simp [e2])
     have HOk := Hd (show (97 ≤ ((s[k]'hlt).toNat : Int) ∧ ((s[k]'hlt).toNat : Int) ≤ 122) → r = letters (s.data.toList.drop (k + 1)) by
      intro e
      have e2 : 97 ≤ (s[k]'hlt).toNat ∧ (s[k]'hlt).toNat ≤ 122 := by omega
      rw [ht.out, HT.out]; simp [e2])
     clear ht HT
     go_wp2
     all_goals first
      | (go_roundw
         case rel => exact ⟨k + 1, by omega, by go_num, Hd (HOk.out omT), hb⟩
         case measure => simp [intOf]; omega)
      | (go_ret; exact ⟨ret_bool (HFail.out omT), hb⟩)
    ·have HF := Hd (show true = r by rw [ht.out, letters_end omT])
     have hI : ¬ (k : Int) < (s.size : Int) := by omega
     go_wp2
     go_ret
     exact ⟨ret_bool HF.out, hb⟩
  ·have HF := Hd (show false = r by rw [HR.out, nameOk]; simp [h2])
   have h1' : ¬ (s.size : Int) < 1 := by omega
   have h2' : (12 : Int) < (s.size : Int) := by omega
   go_enter Tryz.func96, Tryz.ntmps96
   go_wp2
   go_ret
   exact ⟨ret_bool HF.out, bwT⟩
 ·have HF := Hd (show false = r by rw [HR.out, nameOk]; simp [h1])
  have h1' : (s.size : Int) < 1 := by omega
  go_enter Tryz.func96, Tryz.ntmps96
  go_wp2
  go_ret
  exact ⟨ret_bool HF.out, bwT⟩
theorem isNameS_b (w : World) (s : ByteArray) (hs : s.size ≤ maxLen) (r : Bool) (hr : r = nameOk s) :
  Calls Tryz.prog 91 #[.string s] w (PostB w r) := by
 unfold maxLen at hs
 obtain ⟨r2, hlet_r2⟩ : ∃ r, r = decide (1 ≤ s.size ∧ s.size ≤ 12) := ⟨_, rfl⟩
 have H2 := Hd hlet_r2
 clear hlet_r2
 obtain ⟨r1, hlet_r1⟩ : ∃ r, r = letters s.data.toList := ⟨_, rfl⟩
 have H1 := Hd hlet_r1
 clear hlet_r1
 have HR := Hd (show r = (r2 && r1) by rw [hr, nameOk, H1.out, H2.out])
 clear hr
 go_enter Tryz.func91, Tryz.ntmps91
 go_wp2
 go_loopw [3] (fun s3 wr => ∃ k : Nat, k ≤ s.size ∧ s3 = .int .i64 k ∧ Hid (r1 = letters (s.data.toList.drop k)) ∧ Below w.heap.size w wr) (fun s3 _ => s.size - (intOf s3).toNat)
 case atStart => exact ⟨0, Nat.zero_le _, rfl, H1, Below.refl _ _⟩
 case round =>
  obtain ⟨k, hk, rfl, ht, hb⟩ := hrel
  by_cases hlt : k < s.size
  ·have hI : (k : Int) < (s.size : Int) := by omega
   have HT := Hd (letters_step hlt)
   have HFail := Hd (show ¬ (97 ≤ ((s[k]'hlt).toNat : Int) ∧ ((s[k]'hlt).toNat : Int) ≤ 122) → false = r by
    intro e
    have e2 : ¬ (97 ≤ (s[k]'hlt).toNat ∧ (s[k]'hlt).toNat ≤ 122) := by omega
    rw [HR.out, ht.out, HT.out]; simp [e2])
   have HOk := Hd (show (97 ≤ ((s[k]'hlt).toNat : Int) ∧ ((s[k]'hlt).toNat : Int) ≤ 122) → r1 = letters (s.data.toList.drop (k + 1)) by
    intro e
    have e2 : 97 ≤ (s[k]'hlt).toNat ∧ (s[k]'hlt).toNat ≤ 122 := by omega
    rw [ht.out, HT.out]; simp [e2])
   clear ht HT
   go_wp2
   all_goals first
    | (go_roundw
       case rel => exact ⟨k + 1, by omega, by go_num, Hd (HOk.out omT), hb⟩
       case measure => simp [intOf]; omega)
    | (go_ret; exact ⟨ret_bool (HFail.out omT), hb⟩)
  ·have HT := Hd (show r1 = true by rw [ht.out, letters_end omT])
   have hI : ¬ (k : Int) < (s.size : Int) := by omega
   have H3 := Hd (show r2 = decide ((1 : Int) ≤ (s.size : Int) ∧ (s.size : Int) ≤ 12) by rw [H2.out]; congr 1; apply propext; omega)
   go_wp2_with fail
   refine (l1In_b _ _ _ _ r2 H3.out).mono ?_
   rintro e w1 ⟨rfl, hb1⟩
   have hB1 : Below w.heap.size w w1 := Below.after hb hb1 hb.size
   go_wp2
   go_ret
   exact ⟨ret_bool (by rw [HR.out, HT.out]; simp), hB1⟩
end
section
theorem slPerson : SlTy Tryz.prog 34 100 (.agg #[.string ByteArray.empty, .int .i64 0, .int .i64 0, .int .i64 0, .int .i64 0, .int .i64 0]) 6 56 := SlTy.of Tryz.underlying34 krT rfl
theorem repPer_inv {z : Bool} {w : World} {cs : List Value} {nm : ByteArray} {sx : Int} {fa : Int} {mo : Int} {bo : Int} {di : Int} {fp : List Nat} (h : Rep.rep z w cs ((nm, sx, fa, mo, bo, di) : Per) fp) : cs = [.string nm, .int .i64 sx, .int .i64 fa, .int .i64 mo, .int .i64 bo, .int .i64 di] ∧ nm.size ≤ maxLen ∧ I64 sx ∧ I64 fa ∧ I64 mo ∧ I64 bo ∧ I64 di ∧ fp = [] := by
 obtain ⟨_, _, _, _, rfl, rfl, ⟨rfl, h0, rfl⟩, _, _, _, _, rfl, rfl, ⟨rfl, h1, rfl⟩, _, _, _, _, rfl, rfl, ⟨rfl, h2, rfl⟩, _, _, _, _, rfl, rfl, ⟨rfl, h3, rfl⟩, _, _, _, _, rfl, rfl, ⟨rfl, h4, rfl⟩, ⟨rfl, h5, rfl⟩⟩ := h
 exact ⟨rfl, h0, h1, h2, h3, h4, h5, rfl⟩
theorem repPer_mk {z : Bool} {w : World} {nm : ByteArray} {sx : Int} {fa : Int} {mo : Int} {bo : Int} {di : Int} (h0 : nm.size ≤ maxLen) (h1 : I64 sx) (h2 : I64 fa) (h3 : I64 mo) (h4 : I64 bo) (h5 : I64 di) : Rep.rep z w [.string nm, .int .i64 sx, .int .i64 fa, .int .i64 mo, .int .i64 bo, .int .i64 di] ((nm, sx, fa, mo, bo, di) : Per) [] :=
 ⟨[_], _, [], [], rfl, rfl, ⟨rfl, h0, rfl⟩, ⟨[_], _, [], [], rfl, rfl, ⟨rfl, h1, rfl⟩, ⟨[_], _, [], [], rfl, rfl, ⟨rfl, h2, rfl⟩, ⟨[_], _, [], [], rfl, rfl, ⟨rfl, h3, rfl⟩, ⟨[_], _, [], [], rfl, rfl, ⟨rfl, h4, rfl⟩, ⟨rfl, h5, rfl⟩⟩⟩⟩⟩⟩
theorem Rd.per_at {z : Bool} {lo hi : Nat} {w : World} {xs : List Per} {ao : Option Addr} {n cap : Nat} (h : Rd z lo hi w [.slice ao n cap] xs) {i : Nat} (hi' : i < n) :
  ∃ (b off : Nat) (nm : ByteArray) (sx : Int) (fa : Int) (mo : Int) (bo : Int) (di : Int), ao = some ⟨b, off, none⟩ ∧ Hid (xs[i]? = some (nm, sx, fa, mo, bo, di)) ∧ w.cell? ⟨b, off + i * 6, none⟩ = some (.string nm) ∧ w.cell? ⟨b, off + i * 6 + 1, none⟩ = some (.int .i64 sx) ∧ w.cell? ⟨b, off + i * 6 + 2, none⟩ = some (.int .i64 fa) ∧ w.cell? ⟨b, off + i * 6 + 3, none⟩ = some (.int .i64 mo) ∧ w.cell? ⟨b, off + i * 6 + 4, none⟩ = some (.int .i64 bo) ∧ w.cell? ⟨b, off + i * 6 + 5, none⟩ = some (.int .i64 di) ∧ nm.size ≤ maxLen ∧ I64 sx ∧ I64 fa ∧ I64 mo ∧ I64 bo ∧ I64 di ∧ lo ≤ b ∧ b < hi ∧ b < w.heap.size ∧ (z = true → ∀ o, w.frozen? ⟨b, o, none⟩ = false) := by
 obtain ⟨b, off, ⟨nm, sx, fa, mo, bo, di⟩, cs, e, hx, ⟨fp, hr, _⟩, _, g1, g2, g3, hc, hf⟩ := h.at hi'
 obtain ⟨rfl, h0, h1, h2, h3, h4, h5, -⟩ := repPer_inv hr
 refine ⟨b, off, nm, sx, fa, mo, bo, di, e, hx, ?_, ?_, ?_, ?_, ?_, ?_, h0, h1, h2, h3, h4, h5, g1, g2, g3, hf⟩
 ·have := hc 0 (.string nm) rfl; simpa [Rep.sz, Nat.add_assoc] using this
 ·have := hc 1 (.int .i64 sx) rfl; simpa [Rep.sz, Nat.add_assoc] using this
 ·have := hc 2 (.int .i64 fa) rfl; simpa [Rep.sz, Nat.add_assoc] using this
 ·have := hc 3 (.int .i64 mo) rfl; simpa [Rep.sz, Nat.add_assoc] using this
 ·have := hc 4 (.int .i64 bo) rfl; simpa [Rep.sz, Nat.add_assoc] using this
 ·have := hc 5 (.int .i64 di) rfl; simpa [Rep.sz, Nat.add_assoc] using this
end
section
set_option maxRecDepth 20000 in
theorem parS_b {z : Bool} {lo hi : Nat} (w : World) (v v2 : Value) (ps : List Per) (h : Rd z lo hi w [v] ps) (k : Nat) (hP : PplTo ps k) {nm : ByteArray} {sx fa mo born di : Int} (hk : ps[k]? = some (nm, sx, fa, mo, born, di)) (q : Int) (sex late : Int) (hl0 : 0 ≤ late) (hl1 : late ≤ 1)
  (r : Bool) (hr : r = upOk ps k born q sex late) :
  Calls Tryz.prog 170 #[.agg #[v, v2], .int .i64 k, .int .i64 q, .int .i64 sex, .int .i64 late] w (PostB w r) := by
 obtain ⟨ao, n, cap, rfl, rfl, hnc, hcm, hnone⟩ := h.shape
 unfold maxLen at *
 have hkl : k < ps.length := (List.getElem?_eq_some_iff.1 hk).1
 have HR := Hd hr
 clear hr
 by_cases h1 : q = -1
 ·obtain rfl : r = true := by rw [HR.out, upOk]; simp [h1]
  subst h1
  clear h hP
  go_enter Tryz.func170, Tryz.ntmps170
  go_wp2
  go_ret
  exact ⟨rfl, bwT⟩
 have h1' : (q == -1) = false := by simpa using h1
 by_cases h2 : 0 ≤ q ∧ q < k
 ·obtain ⟨m, rfl⟩ := Int.eq_ofNat_of_zero_le h2.1
  have hm : m < k := by omega
  obtain ⟨b, off, nm0, sx0, fa0, mo0, bo0, di0, rfl, hx, p0, p1, p2, p3, p4, p5, g0, g1, g2, g3, g4, g5, -, -, hbl, -⟩ := h.per_at (show m < ps.length by omega)
  obtain ⟨_, _, nm1, sx1, fa1, mo1, bo1, di1, ee, hy, -, -, -, -, c4, -, -, -, -, -, -, -, -, -, -, -⟩ := h.per_at hkl
  simp only [Option.some.injEq, Addr.mk.injEq, and_true] at ee
  obtain ⟨rfl, rfl⟩ := ee
  obtain ⟨rfl, rfl, rfl, rfl, rfl, rfl⟩ : nm = nm1 ∧ sx = sx1 ∧ fa = fa1 ∧ mo = mo1 ∧ born = bo1 ∧ di = di1 := by
   have := hk.symm.trans hy.out
   simpa using this
  obtain ⟨-, f2, f3, -⟩ := hP.at hm hx.out
  have HB := Hd (show r = (decide (sx0 = sex) && (decide (bo0 < born) && (decide (di0 = -1) || decide (born ≤ di0 + late)))) by
   rw [HR.out, upOk, upC, Int.toNat_natCast, hx.out]
   have e1 : ¬ ((m : Nat) : Int) = -1 := by omega
   have e2 : (0 : Int) ≤ ((m : Nat) : Int) ∧ ((m : Nat) : Int) < (k : Int) := by omega
   simp only [e1, e2, decide_false, decide_true, and_self, Bool.false_or, Bool.true_and]
   rw [Bool.decide_or])
  have hI1 : ¬ ((m : Nat) : Int) < 0 := by omega
  have hI2 : ¬ ((k : Nat) : Int) ≤ ((m : Nat) : Int) := by omega
  have hI3 : ((m : Nat) : Int) < (ps.length : Int) := by omega
  have hI4 : ((k : Nat) : Int) < (ps.length : Int) := by omega
  have hwr : IntKind.i64.wrap (di0 + late) = di0 + late := IntWalk.i64_in _ omT
  have nb1 : ¬ b = w.heap.size := by omega
  have nb2 : ¬ w.heap.size = b := by omega
  clear h hP hx hy hk HR h2 f2 f3
  by_cases q1 : sx0 = sex
  ·have q1' : (sx0 != sex) = false := by simpa using q1
   by_cases q2 : bo0 < born
   ·by_cases q3 : di0 = -1
    ·have q3' : (di0 == -1) = true := by simpa using q3
     obtain rfl : r = true := by rw [HB.out]; simp [*]
     clear HB
     go_enter Tryz.func170, Tryz.ntmps170
     go_wp2
     go_ret
     exact ⟨rfl, bwT⟩
    ·have q3' : (di0 == -1) = false := by simpa using q3
     by_cases q4 : born ≤ di0 + late
     ·obtain rfl : r = true := by rw [HB.out]; simp [*]
      clear HB
      go_enter Tryz.func170, Tryz.ntmps170
      go_wp2
      go_ret
      exact ⟨rfl, bwT⟩
     ·have q4' : decide (born ≤ di0 + late) = false := by simpa using q4
      obtain rfl : r = false := by rw [HB.out]; simp [q1, q2, q3, q4]
      clear HB
      go_enter Tryz.func170, Tryz.ntmps170
      go_wp2
      go_ret
      exact ⟨rfl, bwT⟩
   ·have q2' : decide (bo0 < born) = false := by simpa using q2
    obtain rfl : r = false := by rw [HB.out]; simp [q1, q2]
    clear HB
    go_enter Tryz.func170, Tryz.ntmps170
    go_wp2
    go_ret
    exact ⟨rfl, bwT⟩
  ·have q1' : (sx0 != sex) = true := by simpa using q1
   obtain rfl : r = false := by rw [HB.out]; simp [q1]
   clear HB
   go_enter Tryz.func170, Tryz.ntmps170
   go_wp2
   go_ret
   exact ⟨rfl, bwT⟩
 ·obtain rfl : r = false := by rw [HR.out, upOk]; simp [h1]; omega
  clear h hP HR
  go_enter Tryz.func170, Tryz.ntmps170
  go_wp2
  all_goals first
   | (exfalso; omega)
   | (go_ret; exact ⟨rfl, bwT⟩)
end
section
set_option maxRecDepth 20000 in
theorem perS_b {z : Bool} {lo hi : Nat} (w : World) (v v2 : Value) (ps : List Per) (h : Rd z lo hi w [v] ps) (i : Nat) (hil : i < ps.length) (hP : PplTo ps i) (r : Bool) (hr : r = perOk ps i) :
  Calls Tryz.prog 136 #[.agg #[v, v2], .int .i64 i] w (PostB w r) := by
 obtain ⟨ao, n, cap, rfl, rfl, hnc, hcm, hnone⟩ := h.shape
 unfold maxLen at *
 obtain ⟨b, off, nm, sx, fa, mo, bo, di, rfl, hx, p0, p1, p2, p3, p4, p5, g0, g1, g2, g3, g4, g5, -, -, hbl, -⟩ := h.per_at hil
 rw [perOk_at hx.out] at hr
 have hR : Rd z lo hi w [.slice (some ⟨b, off, none⟩) ps.length cap] ps := h
 obtain ⟨r1, hlet_r1⟩ : ∃ r, r = nameOk nm := ⟨_, rfl⟩
 have H1 := Hd hlet_r1
 clear hlet_r1
 obtain ⟨r2, hr2⟩ : ∃ r, r = decide ((1 : Int) ≤ sx ∧ sx ≤ 2) := ⟨_, rfl⟩
 have H2 := Hd hr2
 have H2b := Hd (show decide (sx = 1 ∨ sx = 2) = r2 by rw [hr2]; congr 1; apply propext; omega)
 clear hr2
 obtain ⟨r3, hlet_r3⟩ : ∃ r, r = decide ((0 : Int) ≤ bo ∧ bo ≤ 9999) := ⟨_, rfl⟩
 have H3 := Hd hlet_r3
 clear hlet_r3
 obtain ⟨r4, hlet_r4⟩ : ∃ r, r = decide (di = -1 ∨ (bo ≤ di ∧ di ≤ 9999)) := ⟨_, rfl⟩
 have H4 := Hd hlet_r4
 clear hlet_r4
 obtain ⟨dup, hlet_dup⟩ : ∃ r, r = decide (nm ∈ (ps.take i).map (·.1)) := ⟨_, rfl⟩
 have H5 := Hd hlet_dup
 clear hlet_dup
 obtain ⟨r6, hlet_r6⟩ : ∃ r, r = upOk ps i bo fa 1 1 := ⟨_, rfl⟩
 have H6 := Hd hlet_r6
 clear hlet_r6
 obtain ⟨r7, hlet_r7⟩ : ∃ r, r = upOk ps i bo mo 2 0 := ⟨_, rfl⟩
 have H7 := Hd hlet_r7
 clear hlet_r7
 have HR := Hd (show r = (r1 && (r2 && (r3 && (r4 && (!dup && (r6 && r7)))))) by rw [hr, perC, H1.out, H2b.out, H3.out, H4.out, H5.out, H6.out, H7.out])
 clear hr H2b
 have hI : (i : Int) < (ps.length : Int) := by omega
 go_enter Tryz.func136, Tryz.ntmps136
 go_wp2_with fail
 refine (isNameS_b _ nm g0 r1 H1.out).mono ?_
 rintro e1 w1 ⟨rfl, hbw1⟩
 have hpw1 : Below w.heap.size w w1 := Below.after bwT hbw1 szT
 have sw1 := hpw1.size
 have hBw1 : Below w.heap.size w w1 := hpw1
 have l_f : w.heap.size < w1.heap.size := by have := hbw1.size; simp at this; omega
 have q_f0 : w1.cell? ⟨w.heap.size, 0, none⟩ = some (.slice (some ⟨b, off, none⟩) ps.length cap) := oldc hbw1 ltT sgT
 have q_f1 : w1.cell? ⟨w.heap.size, 1, none⟩ = some (v2) := oldc hbw1 ltT sgT
 have l_p : w.heap.size + 1 < w1.heap.size := by have := hbw1.size; simp at this; omega
 have q_p0 : w1.cell? ⟨w.heap.size + 1, 0, none⟩ = some (.string nm) := oldc hbw1 ltT sgT
 have q_p1 : w1.cell? ⟨w.heap.size + 1, 1, none⟩ = some (.int .i64 sx) := oldc hbw1 ltT sgT
 have q_p2 : w1.cell? ⟨w.heap.size + 1, 2, none⟩ = some (.int .i64 fa) := oldc hbw1 ltT sgT
 have q_p3 : w1.cell? ⟨w.heap.size + 1, 3, none⟩ = some (.int .i64 mo) := oldc hbw1 ltT sgT
 have q_p4 : w1.cell? ⟨w.heap.size + 1, 4, none⟩ = some (.int .i64 bo) := oldc hbw1 ltT sgT
 have q_p5 : w1.cell? ⟨w.heap.size + 1, 5, none⟩ = some (.int .i64 di) := oldc hbw1 ltT sgT
 clear hbw1 hpw1
 cases r1
 ·go_wp2
  go_ret
  exact ⟨ret_bool (by rw [HR.out]; rfl), bwT⟩
 go_wp2_with fail
 refine (l1In_b _ _ _ _ r2 H2.out).mono ?_
 rintro e2 w2 ⟨rfl, hbw2⟩
 have hpw2 : Below w1.heap.size w1 w2 := Below.after bwT hbw2 szT
 have sw2 := hpw2.size
 have hBw2 : Below w.heap.size w w2 := Below.trans hBw1 (Below.mono hpw2 hBw1.size)
 have q_f0 := oldc hpw2 l_f q_f0
 have q_f1 := oldc hpw2 l_f q_f1
 have q_p0 := oldc hpw2 l_p q_p0
 have q_p1 := oldc hpw2 l_p q_p1
 have q_p2 := oldc hpw2 l_p q_p2
 have q_p3 := oldc hpw2 l_p q_p3
 have q_p4 := oldc hpw2 l_p q_p4
 have q_p5 := oldc hpw2 l_p q_p5
 have l_f := ltL l_f sw2
 have l_p := ltL l_p sw2
 clear hbw2 hpw2
 cases r2
 ·go_wp2
  go_ret
  exact ⟨ret_bool (by rw [HR.out]; rfl), bwT⟩
 go_wp2_with fail
 refine (l1In_b _ _ _ _ r3 H3.out).mono ?_
 rintro e3 w3 ⟨rfl, hbw3⟩
 have hpw3 : Below w2.heap.size w2 w3 := Below.after bwT hbw3 szT
 have sw3 := hpw3.size
 have hBw3 : Below w.heap.size w w3 := Below.trans hBw2 (Below.mono hpw3 hBw2.size)
 have q_f0 := oldc hpw3 l_f q_f0
 have q_f1 := oldc hpw3 l_f q_f1
 have q_p0 := oldc hpw3 l_p q_p0
 have q_p1 := oldc hpw3 l_p q_p1
 have q_p2 := oldc hpw3 l_p q_p2
 have q_p3 := oldc hpw3 l_p q_p3
 have q_p4 := oldc hpw3 l_p q_p4
 have q_p5 := oldc hpw3 l_p q_p5
 have l_f := ltL l_f sw3
 have l_p := ltL l_p sw3
 clear hbw3 hpw3
 cases r3
 ·go_wp2
  go_ret
  exact ⟨ret_bool (by rw [HR.out]; rfl), bwT⟩
 have hBX := hBw3
 clear p0 p1 p2 p3 p4 p5
 by_cases s4 : di = -1
 case' pos =>
  have s4' : (di != -1) = false := by simpa using s4
  obtain ⟨WY, hWY⟩ : ∃ W : World, W = w3 := ⟨_, rfl⟩
  subst hWY
  have hBY : Below w.heap.size w WY := hBw3
  obtain rfl : r4 = true := by rw [H4.out]; simp [s4]
 case' neg =>
  have s4' : (di != -1) = true := by simpa using s4
  have H4c := Hd (show r4 = decide (bo ≤ di ∧ di ≤ 9999) by rw [H4.out]; simp [s4])
  go_wp2_with fail
  refine (l1In_b _ _ _ _ r4 H4c.out).mono ?_
  rintro e WY ⟨rfl, hXY⟩
  have hBY : Below w.heap.size w WY := Below.after hBX hXY hBX.size
  have sXY := hXY.size
  have q_f0 := oldc hXY l_f q_f0
  have q_f1 := oldc hXY l_f q_f1
  have q_p0 := oldc hXY l_p q_p0
  have q_p1 := oldc hXY l_p q_p1
  have q_p2 := oldc hXY l_p q_p2
  have q_p3 := oldc hXY l_p q_p3
  have q_p4 := oldc hXY l_p q_p4
  have q_p5 := oldc hXY l_p q_p5
  have l_f := ltL l_f sXY
  have l_p := ltL l_p sXY
  cases r4
  ·go_wp2
   go_ret
   exact ⟨ret_bool (by rw [HR.out]; rfl), bwT⟩
 all_goals
  clear hBX
  go_wp2
  go_loopw [6] (fun s6 wr => ∃ j : Nat, j ≤ i ∧ s6 = .int .i64 j ∧ Hid (dup = decide (nm ∈ ((ps.take i).drop j).map (·.1))) ∧ Below WY.heap.size WY wr) (fun s6 _ => i - (intOf s6).toNat)
  case atStart => exact ⟨0, Nat.zero_le _, rfl, Hd (by simpa using H5.out), Below.refl _ _⟩
  case round =>
   rename_i wr
   obtain ⟨j, hj, rfl, hd, hb⟩ := hrel
   have sW := hb.size
   have hbw : Below w.heap.size w wr := Below.trans hBY (hb.mono hBY.size)
   have q_f0 := oldc hb l_f q_f0
   have q_f1 := oldc hb l_f q_f1
   have q_p0 := oldc hb l_p q_p0
   have q_p2 := oldc hb l_p q_p2
   have q_p3 := oldc hb l_p q_p3
   have l_f := ltL l_f sW
   have l_p := ltL l_p sW
   clear H5
   by_cases hlt : j < i
   ·obtain ⟨_, _, nm2, sx2, fa2, mo2, bo2, di2, ee, hy, c0, c1, c2, c3, c4, c5, -, -, -, -, -, -, -, -, hbl2, -⟩ := (h.below hbw).per_at (show j < ps.length by omega)
    simp only [Option.some.injEq, Addr.mk.injEq, and_true] at ee
    obtain ⟨rfl, rfl⟩ := ee
    have hjI : (j : Int) < (i : Int) := by omega
    have hjn : (j : Int) < (ps.length : Int) := by omega
    have hy2 : (ps.take i)[j]? = some (nm2, sx2, fa2, mo2, bo2, di2) := by rw [List.getElem?_take, if_pos hlt]; exact hy.out
    have HS := Hd (drop_cons hy2)
    clear hy hy2 h hP hR
    by_cases m1 : nm2 = nm
    ·have m1' : (nm2.toList == nm.toList) = true := by rw [text_eq]; simpa using m1
     have HX := Hd (show false = r by rw [HR.out, hd.out, HS.out]; simp [m1])
     clear hd HS HR
     go_wp2_with fail
     go_quiet (fail)
     go_wp2
     go_ret
     exact ⟨ret_bool HX.out, bwT⟩
    ·have m1' : (nm2.toList == nm.toList) = false := by rw [text_eq]; simpa using m1
     have HN := Hd (show dup = decide (nm ∈ ((ps.take i).drop (j + 1)).map (·.1)) by
      rw [hd.out, HS.out]
      have : ¬ nm = nm2 := fun e => m1 e.symm
      simp [this])
     clear hd HS
     go_wp2_with fail
     go_quiet (fail)
     go_wp2
     go_roundw
     case rel => exact ⟨j + 1, by omega, by go_num, HN, bwT⟩
     case measure => simp [intOf]; omega
   ·have HD := Hd (show dup = false by rw [hd.out, List.drop_eq_nil_of_le soT]; rfl)
    clear hd
    have hjI : ¬ (j : Int) < (i : Int) := by omega
    go_wp2_with fail
    refine (parS_b _ _ v2 ps (hR.below bwT) i hP hx.out fa 1 1 omT omT r6 H6.out).mono ?_
    rintro e w8 ⟨rfl, hb8⟩
    have hB8 : Below w.heap.size w w8 := Below.after hbw hb8 hbw.size
    have q_f0 := oldc hb8 l_f q_f0
    have q_f1 := oldc hb8 l_f q_f1
    have q_p3 := oldc hb8 l_p q_p3
    cases r6
    ·go_wp2
     go_ret
     exact ⟨ret_bool (by rw [HR.out, HD.out]; rfl), hB8⟩
    go_wp2_with fail
    refine (parS_b _ _ v2 ps (hR.below bwT) i hP hx.out mo 2 0 omT omT r7 H7.out).mono ?_
    rintro e w9 ⟨rfl, hb9⟩
    have hB9 : Below w.heap.size w w9 := Below.after hB8 hb9 hB8.size
    go_wp2
    go_ret
    exact ⟨ret_bool (by rw [HR.out, HD.out]; rfl), hB9⟩
end
section
set_option maxRecDepth 20000 in
theorem depS_any {z : Bool} {lo hi : Nat} (w : World) (v v2 : Value) (ps : List Per) (h : Rd z lo hi w [v] ps) (hP : PplTo ps ps.length) (hl : ps.length ≤ 40) :
  Calls Tryz.prog 137 #[.agg #[v, v2]] w (PostOw w (deps ps)) := by
 obtain ⟨ao, n, cap, rfl, rfl, hnc, hcm, hnone⟩ := h.shape
 unfold maxLen at *
 go_enter Tryz.func137, Tryz.ntmps137
 go_wp2
 go_loopw [3, 5, 6, 11] (fun s3 _ _ s11 wr => ∃ k : Nat, k ≤ ps.length ∧ s11 = .int .i64 k ∧ GL true (w.heap.size + 1) (w.heap.size + 1) wr.heap.size wr 3 s3 (deps (ps.take k)) ∧ Below (w.heap.size + 1) (w.alloc (.cells #[.slice ao ps.length cap, v2] 37)) wr) (fun _ _ _ s11 _ => ps.length - (intOf s11).toNat)
 case atStart => exact ⟨0, Nat.zero_le _, rfl, (by have h := (GL.lit0 (α := Int) true (w.heap.size + 1) (w.heap.size + 1) (w.alloc (.cells #[.slice ao ps.length cap, v2] 37)) 3 spT).top; simpa [deps] using h), bwT⟩
 case round =>
  rename_i wr
  obtain ⟨k, hk, rfl, hG, hb⟩ := hrel
  have sW := hb.size
  simp only [World.size_alloc] at sW
  have hbw : Below w.heap.size w wr := Below.trans ((Below.refl _ _).alloc (Nat.le_refl _) _) (hb.mono omT)
  by_cases hlt : k < ps.length
  ·have hI : (k : Int) < (ps.length : Int) := by omega
   obtain ⟨b, off, nm, sx, fa, mo, bo, di, rfl, hx, p0, p1, p2, p3, p4, p5, g0, g1, g2, g3, g4, g5, -, -, hbl, -⟩ := (h.below hbw).per_at hlt
   obtain ⟨-, -, -, ffa, fmo, -⟩ := hP.at hlt hx.out
   have hbd := deps_bd ps k hk
   have hdl : (deps (ps.take k)).length = k := by rw [deps_len]; simp; omega
   have HD := Hd (show deps (ps.take (k + 1)) = deps (ps.take k) ++ [depOf (deps (ps.take k)) fa mo] by rw [take_snoc hx.out, deps_snoc])
   obtain ⟨D, hD⟩ : ∃ D, D = deps (ps.take k) := ⟨_, rfl⟩
   rw [← hD] at hG hbd hdl HD
   clear hD hx hP
   rcases ffa with rfl | ffa
   ·have ef : dep1 D (-1) = 0 := rfl
    rcases fmo with rfl | fmo
    ·have em : dep1 D (-1) = 0 := rfl
     have HE := Hd (show depOf D (-1) (-1) = (0 : Int) by unfold depOf; rw [ef]; (try rw [em]); omega)
     have hE0 : 0 ≤ (0 : Int) ∧ (0 : Int) ≤ 100 := by omega
     go_wp2_with (at_builtin; refine wpList_push rfl rfl slInt (by show (0 : Nat) < 1; omega) (hG.below bwT) rfl (ad := ⟨wr.heap.size + 1, 0, none⟩) rfl (cs := [.int .i64 ((0 : Int))]) (y := (0 : Int)) (lx := wr.heap.size) (hx' := wr.heap.size) (by intro j c hj; match j, hj with | 0, hj => simp at hj; subst hj; simp [Addr.add, go_sem]) (It.flat (z := true) (w0 := wr) (fp := []) ⟨rfl, ⟨by omega, by omega⟩, rfl⟩) omT (.inl (Nat.le_refl _)) mxT omT soT ?_)
     intro v' w1 hG1 _ hb1
     rw [← HE.out, ← HD.out] at hG1
     have HG := Hd hG1
     have hB1 : Below (w.heap.size + 1) (w.alloc (.cells #[.slice (some ⟨b, off, none⟩) ps.length cap, v2] 37)) w1 := Below.trans bwT hb1
     clear hG hG1 hb1 h HD HE
     go_wp2
     go_roundw
     case rel => exact ⟨k + 1, by omega, by go_num, HG.out, hB1⟩
     case measure => simp [intOf]; omega
    obtain ⟨my, rfl⟩ := Int.eq_ofNat_of_zero_le fmo.1
    obtain ⟨g, cpg, y, rfl, hy, hcy, hiy, -, -, gzy, -⟩ := hG.int_at (i := my) omT
    have hby := hbd y (List.mem_of_getElem? hy.out)
    have em : dep1 D ((my : Nat) : Int) = y + 1 := by
     rw [dep1, if_pos omT, Int.toNat_natCast, List.getD_eq_getElem?_getD, hy.out]; rfl
    have ly : ((my : Nat) : Int) < (D.length : Int) := by omega
    have ky : (0 : Int) ≤ ((my : Nat) : Int) := by omega
    have gny : ¬ g = wr.heap.size := by omega
    have gmy : ¬ wr.heap.size = g := by omega
    have wy : wrap64 (y + 1) = y + 1 := IntWalk.wrap64_in _ omT
    clear hy
    have c0 : (0 : Int) < y + 1 := by omega
    have HE := Hd (show depOf D (-1) ((my : Nat) : Int) = (y + 1) by unfold depOf; rw [ef]; (try rw [em]); omega)
    have hE0 : 0 ≤ (y + 1) ∧ (y + 1) ≤ 100 := by omega
    go_wp2_with (at_builtin; refine wpList_push rfl rfl slInt (by show (0 : Nat) < 1; omega) (hG.below bwT) rfl (ad := ⟨wr.heap.size + 1, 0, none⟩) rfl (cs := [.int .i64 ((y + 1))]) (y := (y + 1)) (lx := wr.heap.size) (hx' := wr.heap.size) (by intro j c hj; match j, hj with | 0, hj => simp at hj; subst hj; simp [Addr.add, go_sem]) (It.flat (z := true) (w0 := wr) (fp := []) ⟨rfl, ⟨by omega, by omega⟩, rfl⟩) omT (.inl (Nat.le_refl _)) mxT omT soT ?_)
    intro v' w1 hG1 _ hb1
    rw [← HE.out, ← HD.out] at hG1
    have HG := Hd hG1
    have hB1 : Below (w.heap.size + 1) (w.alloc (.cells #[.slice (some ⟨b, off, none⟩) ps.length cap, v2] 37)) w1 := Below.trans bwT hb1
    clear hG hG1 hb1 h HD HE
    go_wp2
    go_roundw
    case rel => exact ⟨k + 1, by omega, by go_num, HG.out, hB1⟩
    case measure => simp [intOf]; omega
   obtain ⟨mx, rfl⟩ := Int.eq_ofNat_of_zero_le ffa.1
   obtain ⟨g, cpg, x, rfl, hx, hcx, hix, -, -, gzx, -⟩ := hG.int_at (i := mx) omT
   have hbx := hbd x (List.mem_of_getElem? hx.out)
   have ef : dep1 D ((mx : Nat) : Int) = x + 1 := by
    rw [dep1, if_pos omT, Int.toNat_natCast, List.getD_eq_getElem?_getD, hx.out]; rfl
   have lx : ((mx : Nat) : Int) < (D.length : Int) := by omega
   have kx : (0 : Int) ≤ ((mx : Nat) : Int) := by omega
   have gnx : ¬ g = wr.heap.size := by omega
   have gmx : ¬ wr.heap.size = g := by omega
   have wx : wrap64 (x + 1) = x + 1 := IntWalk.wrap64_in _ omT
   clear hx
   rcases fmo with rfl | fmo
   ·have em : dep1 D (-1) = 0 := rfl
    have HE := Hd (show depOf D ((mx : Nat) : Int) (-1) = (x + 1) by unfold depOf; rw [ef]; (try rw [em]); omega)
    have hE0 : 0 ≤ (x + 1) ∧ (x + 1) ≤ 100 := by omega
    go_wp2_with (at_builtin; refine wpList_push rfl rfl slInt (by show (0 : Nat) < 1; omega) (hG.below bwT) rfl (ad := ⟨wr.heap.size + 1, 0, none⟩) rfl (cs := [.int .i64 ((x + 1))]) (y := (x + 1)) (lx := wr.heap.size) (hx' := wr.heap.size) (by intro j c hj; match j, hj with | 0, hj => simp at hj; subst hj; simp [Addr.add, go_sem]) (It.flat (z := true) (w0 := wr) (fp := []) ⟨rfl, ⟨by omega, by omega⟩, rfl⟩) omT (.inl (Nat.le_refl _)) mxT omT soT ?_)
    intro v' w1 hG1 _ hb1
    rw [← HE.out, ← HD.out] at hG1
    have HG := Hd hG1
    have hB1 : Below (w.heap.size + 1) (w.alloc (.cells #[.slice (some ⟨b, off, none⟩) ps.length cap, v2] 37)) w1 := Below.trans bwT hb1
    clear hG hG1 hb1 h HD HE
    go_wp2
    go_roundw
    case rel => exact ⟨k + 1, by omega, by go_num, HG.out, hB1⟩
    case measure => simp [intOf]; omega
   obtain ⟨my, rfl⟩ := Int.eq_ofNat_of_zero_le fmo.1
   obtain ⟨_, _, y, ee, hy, hcy, hiy, -, -, gzy, -⟩ := hG.int_at (i := my) omT
   simp only [Value.slice.injEq, Option.some.injEq, Addr.mk.injEq, and_true, true_and] at ee
   obtain ⟨rfl, rfl⟩ := ee
   have hby := hbd y (List.mem_of_getElem? hy.out)
   have em : dep1 D ((my : Nat) : Int) = y + 1 := by
    rw [dep1, if_pos omT, Int.toNat_natCast, List.getD_eq_getElem?_getD, hy.out]; rfl
   have ly : ((my : Nat) : Int) < (D.length : Int) := by omega
   have ky : (0 : Int) ≤ ((my : Nat) : Int) := by omega
   have gny : ¬ g = wr.heap.size := by omega
   have gmy : ¬ wr.heap.size = g := by omega
   have wy : wrap64 (y + 1) = y + 1 := IntWalk.wrap64_in _ omT
   clear hy
   by_cases c0 : x + 1 < y + 1
   ·have HE := Hd (show depOf D ((mx : Nat) : Int) ((my : Nat) : Int) = (y + 1) by unfold depOf; rw [ef]; (try rw [em]); omega)
    have hE0 : 0 ≤ (y + 1) ∧ (y + 1) ≤ 100 := by omega
    go_wp2_with (at_builtin; refine wpList_push rfl rfl slInt (by show (0 : Nat) < 1; omega) (hG.below bwT) rfl (ad := ⟨wr.heap.size + 1, 0, none⟩) rfl (cs := [.int .i64 ((y + 1))]) (y := (y + 1)) (lx := wr.heap.size) (hx' := wr.heap.size) (by intro j c hj; match j, hj with | 0, hj => simp at hj; subst hj; simp [Addr.add, go_sem]) (It.flat (z := true) (w0 := wr) (fp := []) ⟨rfl, ⟨by omega, by omega⟩, rfl⟩) omT (.inl (Nat.le_refl _)) mxT omT soT ?_)
    intro v' w1 hG1 _ hb1
    rw [← HE.out, ← HD.out] at hG1
    have HG := Hd hG1
    have hB1 : Below (w.heap.size + 1) (w.alloc (.cells #[.slice (some ⟨b, off, none⟩) ps.length cap, v2] 37)) w1 := Below.trans bwT hb1
    clear hG hG1 hb1 h HD HE
    go_wp2
    go_roundw
    case rel => exact ⟨k + 1, by omega, by go_num, HG.out, hB1⟩
    case measure => simp [intOf]; omega
   have HE := Hd (show depOf D ((mx : Nat) : Int) ((my : Nat) : Int) = (x + 1) by unfold depOf; rw [ef]; (try rw [em]); omega)
   have hE0 : 0 ≤ (x + 1) ∧ (x + 1) ≤ 100 := by omega
   go_wp2_with (at_builtin; refine wpList_push rfl rfl slInt (by show (0 : Nat) < 1; omega) (hG.below bwT) rfl (ad := ⟨wr.heap.size + 1, 0, none⟩) rfl (cs := [.int .i64 ((x + 1))]) (y := (x + 1)) (lx := wr.heap.size) (hx' := wr.heap.size) (by intro j c hj; match j, hj with | 0, hj => simp at hj; subst hj; simp [Addr.add, go_sem]) (It.flat (z := true) (w0 := wr) (fp := []) ⟨rfl, ⟨by omega, by omega⟩, rfl⟩) omT (.inl (Nat.le_refl _)) mxT omT soT ?_)
   intro v' w1 hG1 _ hb1
   rw [← HE.out, ← HD.out] at hG1
   have HG := Hd hG1
   have hB1 : Below (w.heap.size + 1) (w.alloc (.cells #[.slice (some ⟨b, off, none⟩) ps.length cap, v2] 37)) w1 := Below.trans bwT hb1
   clear hG hG1 hb1 h HD HE
   go_wp2
   go_roundw
   case rel => exact ⟨k + 1, by omega, by go_num, HG.out, hB1⟩
   case measure => simp [intOf]; omega
  ·have HO := Hd (hG.ow (l0 := w.heap.size) omT omT)
   clear hG h hP
   go_wp2
   go_ret
   refine ⟨_, rfl, ?_, hbw⟩
   have := HO.out
   rwa [List.take_of_length_le omT] at this
end
section
theorem slUnion : SlTy Tryz.prog 35 131 (.agg #[.int .i64 0, .int .i64 0, .int .i64 0, .int .i64 0]) 4 32 := SlTy.of Tryz.underlying35 krT rfl
theorem repUni_inv {z : Bool} {w : World} {cs : List Value} {ma : Int} {wo : Int} {fr : Int} {tl : Int} {fp : List Nat} (h : Rep.rep z w cs ((ma, wo, fr, tl) : Uni) fp) : cs = [.int .i64 ma, .int .i64 wo, .int .i64 fr, .int .i64 tl] ∧ I64 ma ∧ I64 wo ∧ I64 fr ∧ I64 tl ∧ fp = [] := by
 obtain ⟨_, _, _, _, rfl, rfl, ⟨rfl, h0, rfl⟩, _, _, _, _, rfl, rfl, ⟨rfl, h1, rfl⟩, _, _, _, _, rfl, rfl, ⟨rfl, h2, rfl⟩, ⟨rfl, h3, rfl⟩⟩ := h
 exact ⟨rfl, h0, h1, h2, h3, rfl⟩
theorem repUni_mk {z : Bool} {w : World} {ma : Int} {wo : Int} {fr : Int} {tl : Int} (h0 : I64 ma) (h1 : I64 wo) (h2 : I64 fr) (h3 : I64 tl) : Rep.rep z w [.int .i64 ma, .int .i64 wo, .int .i64 fr, .int .i64 tl] ((ma, wo, fr, tl) : Uni) [] :=
 ⟨[_], _, [], [], rfl, rfl, ⟨rfl, h0, rfl⟩, ⟨[_], _, [], [], rfl, rfl, ⟨rfl, h1, rfl⟩, ⟨[_], _, [], [], rfl, rfl, ⟨rfl, h2, rfl⟩, ⟨rfl, h3, rfl⟩⟩⟩⟩
theorem Rd.uni_at {z : Bool} {lo hi : Nat} {w : World} {xs : List Uni} {ao : Option Addr} {n cap : Nat} (h : Rd z lo hi w [.slice ao n cap] xs) {i : Nat} (hi' : i < n) :
  ∃ (b off : Nat) (ma : Int) (wo : Int) (fr : Int) (tl : Int), ao = some ⟨b, off, none⟩ ∧ Hid (xs[i]? = some (ma, wo, fr, tl)) ∧ w.cell? ⟨b, off + i * 4, none⟩ = some (.int .i64 ma) ∧ w.cell? ⟨b, off + i * 4 + 1, none⟩ = some (.int .i64 wo) ∧ w.cell? ⟨b, off + i * 4 + 2, none⟩ = some (.int .i64 fr) ∧ w.cell? ⟨b, off + i * 4 + 3, none⟩ = some (.int .i64 tl) ∧ I64 ma ∧ I64 wo ∧ I64 fr ∧ I64 tl ∧ lo ≤ b ∧ b < hi ∧ b < w.heap.size ∧ (z = true → ∀ o, w.frozen? ⟨b, o, none⟩ = false) := by
 obtain ⟨b, off, ⟨ma, wo, fr, tl⟩, cs, e, hx, ⟨fp, hr, _⟩, _, g1, g2, g3, hc, hf⟩ := h.at hi'
 obtain ⟨rfl, h0, h1, h2, h3, -⟩ := repUni_inv hr
 refine ⟨b, off, ma, wo, fr, tl, e, hx, ?_, ?_, ?_, ?_, h0, h1, h2, h3, g1, g2, g3, hf⟩
 ·have := hc 0 (.int .i64 ma) rfl; simpa [Rep.sz, Nat.add_assoc] using this
 ·have := hc 1 (.int .i64 wo) rfl; simpa [Rep.sz, Nat.add_assoc] using this
 ·have := hc 2 (.int .i64 fr) rfl; simpa [Rep.sz, Nat.add_assoc] using this
 ·have := hc 3 (.int .i64 tl) rfl; simpa [Rep.sz, Nat.add_assoc] using this
end
section
theorem uniOk_at {f : Fam} {k : Nat} {u : Uni} (h : f.2[k]? = some u) : uniOk f k = uniC f k u := by unfold uniOk; rw [h]
set_option maxRecDepth 20000 in
theorem uniS_b {z z' : Bool} {lo hi lo' hi' : Nat} (w : World) (v v2 : Value) (f : Fam) (h : Rd z lo hi w [v] f.1) (h' : Rd z' lo' hi' w [v2] f.2) (hl : f.1.length ≤ 40) (hP : PplTo f.1 f.1.length) (k : Nat) (hk : k < f.2.length) (hl2 : f.2.length ≤ 60) (r : Bool) (hr : r = uniOk f k) :
  Calls Tryz.prog 138 #[.agg #[v, v2], .int .i64 k] w (PostB w r) := by
 obtain ⟨ps, us⟩ := f
 dsimp only at h h' hl hP hk hl2
 obtain ⟨ao, n, cap, rfl, rfl, hnc, hcm, hnone⟩ := h.shape
 obtain ⟨bo, n2, dap, rfl, rfl, hnc', hcm', hnone'⟩ := h'.shape
 unfold maxLen at *
 obtain ⟨b, off, m, wo, fr, tl, rfl, hu, p0, p1, p2, p3, g0, g1, g2, g3, -, -, hbl, -⟩ := h'.uni_at hk
 rw [uniOk_at hu.out, uniC] at hr
 have HR := Hd hr
 clear hr hu
 have hkI : (k : Int) < (us.length : Int) := by omega
 have wn : wrap64 ((ps.length : Int) - 1) = (ps.length : Int) - 1 := IntWalk.wrap64_in _ omT
 obtain ⟨r1, hlet_r1⟩ : ∃ r, r = decide ((0 : Int) ≤ m ∧ m ≤ (ps.length : Int) - 1) := ⟨_, rfl⟩
 have H1 := Hd hlet_r1
 clear hlet_r1
 obtain ⟨r2, hlet_r2⟩ : ∃ r, r = decide ((0 : Int) ≤ wo ∧ wo ≤ (ps.length : Int) - 1) := ⟨_, rfl⟩
 have H2 := Hd hlet_r2
 clear hlet_r2
 have HF12 := Hd (show (r1 && r2) = false → false = r by
  intro e
  rw [HR.out, H1.out, H2.out] at *
  have : decide ((0 ≤ m ∧ m < (ps.length : Int)) ∧ (0 ≤ wo ∧ wo < (ps.length : Int))) = false := by
   rw [decide_eq_false_iff_not]
   intro hh
   rw [show decide ((0 : Int) ≤ m ∧ m ≤ (ps.length : Int) - 1) = true by simp; omega, show decide ((0 : Int) ≤ wo ∧ wo ≤ (ps.length : Int) - 1) = true by simp; omega] at e
   cases e
  rw [this]; rfl)
 go_enter Tryz.func138, Tryz.ntmps138
 go_wp2_with fail
 refine (l1In_b _ _ _ _ r1 H1.out).mono ?_
 rintro e4 w4 ⟨rfl, hbw4⟩
 have hpw4 : Below w.heap.size w w4 := Below.after bwT hbw4 szT
 have sw4 := hpw4.size
 have hBw4 : Below w.heap.size w w4 := hpw4
 have l_f : w.heap.size < w4.heap.size := by have := hbw4.size; simp at this; omega
 have q_f0 : w4.cell? ⟨w.heap.size, 0, none⟩ = some (.slice ao ps.length cap) := oldc hbw4 ltT sgT
 have q_f1 : w4.cell? ⟨w.heap.size, 1, none⟩ = some (.slice (some ⟨b, off, none⟩) us.length dap) := oldc hbw4 ltT sgT
 have l_u : w.heap.size + 1 < w4.heap.size := by have := hbw4.size; simp at this; omega
 have q_u0 : w4.cell? ⟨w.heap.size + 1, 0, none⟩ = some (.int .i64 m) := oldc hbw4 ltT sgT
 have q_u1 : w4.cell? ⟨w.heap.size + 1, 1, none⟩ = some (.int .i64 wo) := oldc hbw4 ltT sgT
 have q_u2 : w4.cell? ⟨w.heap.size + 1, 2, none⟩ = some (.int .i64 fr) := oldc hbw4 ltT sgT
 have q_u3 : w4.cell? ⟨w.heap.size + 1, 3, none⟩ = some (.int .i64 tl) := oldc hbw4 ltT sgT
 clear hbw4 hpw4
 cases r1
 ·go_wp2
  go_ret
  exact ⟨ret_bool (HF12.out rfl), bwT⟩
 go_wp2_with fail
 refine (l1In_b _ _ _ _ r2 H2.out).mono ?_
 rintro e5 w5 ⟨rfl, hbw5⟩
 have hpw5 : Below w4.heap.size w4 w5 := Below.after bwT hbw5 szT
 have sw5 := hpw5.size
 have hBw5 : Below w.heap.size w w5 := Below.trans hBw4 (Below.mono hpw5 hBw4.size)
 have q_f0 := oldc hpw5 l_f q_f0
 have q_f1 := oldc hpw5 l_f q_f1
 have q_u0 := oldc hpw5 l_u q_u0
 have q_u1 := oldc hpw5 l_u q_u1
 have q_u2 := oldc hpw5 l_u q_u2
 have q_u3 := oldc hpw5 l_u q_u3
 have l_f := ltL l_f sw5
 have l_u := ltL l_u sw5
 clear hbw5 hpw5
 cases r2
 ·go_wp2
  go_ret
  exact ⟨ret_bool (HF12.out rfl), bwT⟩
 have hm := of_decide_eq_true H1.out.symm
 have hwo := of_decide_eq_true H2.out.symm
 clear HF12 H1 H2
 obtain ⟨mi, rfl⟩ := Int.eq_ofNat_of_zero_le hm.1
 obtain ⟨wi, rfl⟩ := Int.eq_ofNat_of_zero_le hwo.1
 have hmi : mi < ps.length := by omega
 have hwi : wi < ps.length := by omega
 obtain ⟨pb, poff, na, sa, fa, ma, ba, da, rfl, hxa, a0, a1, a2, a3, a4, a5, ga0, ga1, ga2, ga3, ga4, ga5, -, -, hpb, -⟩ := (h.below hBw5).per_at hmi
 obtain ⟨_, _, nb, sb, fb, mb, bb, db, ee, hxb, b0, b1, b2, b3, b4, b5, gb0, gb1, gb2, gb3, gb4, gb5, -, -, -, -⟩ := (h.below hBw5).per_at hwi
 simp only [Option.some.injEq, Addr.mk.injEq, and_true] at ee
 obtain ⟨rfl, rfl⟩ := ee
 obtain ⟨-, fba, fda, -⟩ := hP.at hmi hxa.out
 obtain ⟨-, fbb, fdb, -⟩ := hP.at hwi hxb.out
 obtain ⟨dup, hlet_dup⟩ : ∃ r, r = decide (((mi : Int), (wi : Int)) ∈ (us.take k).map fun v => (v.1, v.2.1)) := ⟨_, rfl⟩
 have HD := Hd hlet_dup
 clear hlet_dup
 have HB := Hd (show r = (decide (sa = 1 ∧ sb = 2) && (decide (fr ≤ 9999 ∧ ba ≤ fr ∧ bb ≤ fr) && (decide (tl = -1 ∨ (fr ≤ tl ∧ tl ≤ 9999)) && (liveOk da fr tl && liveOk db fr tl))) && !dup) by
  rw [HR.out, Int.toNat_natCast, Int.toNat_natCast, hxa.out, hxb.out, HD.out]
  rw [show decide ((0 ≤ (mi : Int) ∧ (mi : Int) < (ps.length : Int)) ∧ (0 ≤ (wi : Int) ∧ (wi : Int) < (ps.length : Int))) = true by simp; omega]
  rfl)
 have HFail := Hd (show ¬ ((sa = 1 ∧ sb = 2) ∧ (fr ≤ 9999 ∧ ba ≤ fr ∧ bb ≤ fr) ∧ (tl = -1 ∨ (fr ≤ tl ∧ tl ≤ 9999)) ∧ (da = -1 ∨ (fr ≤ da ∧ (tl = -1 ∨ tl ≤ da))) ∧ (db = -1 ∨ (fr ≤ db ∧ (tl = -1 ∨ tl ≤ db)))) → false = r by
  intro e
  rw [HB.out]
  cases hh : (decide (sa = 1 ∧ sb = 2) && (decide (fr ≤ 9999 ∧ ba ≤ fr ∧ bb ≤ fr) && (decide (tl = -1 ∨ (fr ≤ tl ∧ tl ≤ 9999)) && (liveOk da fr tl && liveOk db fr tl))))
  ·rfl
  ·simp only [liveOk, Bool.and_eq_true, decide_eq_true_eq] at hh
   exact absurd ⟨hh.1, hh.2.1, hh.2.2.1, hh.2.2.2.1, hh.2.2.2.2⟩ e)
 have HOk := Hd (show ((sa = 1 ∧ sb = 2) ∧ (fr ≤ 9999 ∧ ba ≤ fr ∧ bb ≤ fr) ∧ (tl = -1 ∨ (fr ≤ tl ∧ tl ≤ 9999)) ∧ (da = -1 ∨ (fr ≤ da ∧ (tl = -1 ∨ tl ≤ da))) ∧ (db = -1 ∨ (fr ≤ db ∧ (tl = -1 ∨ tl ≤ db)))) → r = !dup by
  intro e
  rw [HB.out]
  simp [liveOk, e])
 have hmI : ((mi : Nat) : Int) < (ps.length : Int) := by omega
 have hwI : ((wi : Nat) : Int) < (ps.length : Int) := by omega
 clear HB HR hxa hxb hm hwo ga0 gb0 hP
 by_cases s1 : sa = 1
 rotate_left
 ·have s1' : (sa != 1) = true := by simpa using s1
  have HX := Hd (HFail.out (fun e => s1 e.1.1))
  clear HFail HOk h h'
  go_wp2
  go_ret
  exact ⟨ret_bool HX.out, bwT⟩
 have s1' : (sa != 1) = false := by simpa using s1
 by_cases s2 : sb = 2
 rotate_left
 ·have s2' : (sb != 2) = true := by simpa using s2
  have HX := Hd (HFail.out (fun e => s2 e.1.2))
  clear HFail HOk h h'
  go_wp2
  go_ret
  exact ⟨ret_bool HX.out, bwT⟩
 have s2' : (sb != 2) = false := by simpa using s2
 by_cases s3 : fr ≤ 9999
 rotate_left
 ·have s3' : 9999 < fr := by omega
  have HX := Hd (HFail.out (fun e => s3 e.2.1.1))
  clear HFail HOk h h'
  go_wp2
  go_ret
  exact ⟨ret_bool HX.out, bwT⟩
 have s3' : ¬ 9999 < fr := by omega
 have PA := Hd (aI a0 (aI a1 (aI a2 (aI a3 (aI a4 a5)))))
 have PB := Hd (aI b0 (aI b1 (aI b2 (aI b3 (aI b4 b5)))))
 obtain ⟨WX, hWX⟩ : ∃ W : World, W = w5 := ⟨_, rfl⟩
 subst hWX
 have hBX : Below w.heap.size w WX := hBw5
 clear a0 a2 a3 a4 a5 b0 b2 b3 b4 b5
 by_cases s4 : tl = -1
 case' pos =>
  have s4' : (tl != -1) = false := by simpa using s4
  have s5 : tl = -1 ∨ (fr ≤ tl ∧ tl ≤ 9999) := .inl s4
  obtain ⟨WY, hWY⟩ : ∃ W : World, W = WX := ⟨_, rfl⟩
  subst hWY
  have hXY : Below WY.heap.size WY WY := Below.refl _ _
  clear hBX
  have hBX : Below w.heap.size w WY := hBw5
  have hpbY : pb < WY.heap.size := hpb
 case' neg =>
  have s4' : (tl != -1) = true := by simpa using s4
  obtain ⟨r4, hlet_r4⟩ : ∃ r, r = decide (fr ≤ tl ∧ tl ≤ 9999) := ⟨_, rfl⟩
  have H4 := Hd hlet_r4
  clear hlet_r4
  go_wp2_with fail
  refine (l1In_b _ _ _ _ r4 H4.out).mono ?_
  rintro e WY ⟨rfl, hXY⟩
  have hBX : Below w.heap.size w WY := Below.after hBX hXY hBX.size
  have sXY := hXY.size
  have q_f0 := oldc hXY l_f q_f0
  have q_f1 := oldc hXY l_f q_f1
  have q_u0 := oldc hXY l_u q_u0
  have q_u1 := oldc hXY l_u q_u1
  have q_u2 := oldc hXY l_u q_u2
  have q_u3 := oldc hXY l_u q_u3
  have PA := Hd (aI (oldc hXY hpb PA.out.1) (aI (oldc hXY hpb PA.out.2.1) (aI (oldc hXY hpb PA.out.2.2.1) (aI (oldc hXY hpb PA.out.2.2.2.1) (aI (oldc hXY hpb PA.out.2.2.2.2.1) (oldc hXY hpb PA.out.2.2.2.2.2))))))
  have PB := Hd (aI (oldc hXY hpb PB.out.1) (aI (oldc hXY hpb PB.out.2.1) (aI (oldc hXY hpb PB.out.2.2.1) (aI (oldc hXY hpb PB.out.2.2.2.1) (aI (oldc hXY hpb PB.out.2.2.2.2.1) (oldc hXY hpb PB.out.2.2.2.2.2))))))
  have l_f := ltL l_f sXY
  have l_u := ltL l_u sXY
  have hpbY : pb < WY.heap.size := ltL hpb sXY
  cases r4
  ·have HX := Hd (HFail.out (fun e => by
    have h1 := of_decide_eq_false H4.out.symm
    have h2 := e.2.2.1
    omega))
   clear HFail HOk h h' PA PB
   go_wp2
   go_ret
   exact ⟨ret_bool HX.out, bwT⟩
  have s5 : tl = -1 ∨ (fr ≤ tl ∧ tl ≤ 9999) := .inr (of_decide_eq_true H4.out.symm)
  clear H4
 all_goals
  go_wp2
  go_loopw [8, 75] (fun _ s75 wr => ∃ j : Nat, j ≤ 2 ∧ s75 = .int .i64 j ∧ Hid ((1 ≤ j → ba ≤ fr ∧ (da = -1 ∨ (fr ≤ da ∧ tl ≤ da))) ∧ (2 ≤ j → bb ≤ fr ∧ (db = -1 ∨ (fr ≤ db ∧ tl ≤ db)))) ∧ wr.cell? ⟨WY.heap.size, 0, none⟩ = some (.int .i64 (mi : Nat)) ∧ wr.cell? ⟨WY.heap.size, 1, none⟩ = some (.int .i64 (wi : Nat)) ∧ Below WY.heap.size WY wr) (fun _ s75 _ => 2 - (intOf s75).toNat)
  case atStart => exact ⟨0, by omega, rfl, Hd ⟨fun h => absurd h omT, fun h => absurd h omT⟩, by simp [go_sem], by simp [go_sem], bwT⟩
  case round =>
   rename_i wr
   obtain ⟨j, hj2, rfl, hj, hc0, hc1, hb⟩ := hrel
   have sW := hb.size
   have hbw : Below w.heap.size w wr := Below.trans hBX (hb.mono hBX.size)
   have q_f0 := oldc hb l_f q_f0
   have q_f1 := oldc hb l_f q_f1
   have q_u0 := oldc hb l_u q_u0
   have q_u1 := oldc hb l_u q_u1
   have q_u2 := oldc hb l_u q_u2
   have q_u3 := oldc hb l_u q_u3
   have l_f := ltL l_f sW
   have l_u := ltL l_u sW
   have hw0 : WY.heap.size < wr.heap.size := by
    have := World.block_lt_of_cell? wr _ hc0
    simpa using this
   by_cases hlt : j < 2
   ·have hI : (j : Int) < 2 := by omega
    obtain ⟨x0, x1, x2, x3, x4, x5⟩ := PA.out
    obtain ⟨y0, y1, y2, y3, y4, y5⟩ := PB.out
    have x0 := oldc hb hpbY x0
    have x1 := oldc hb hpbY x1
    have x2 := oldc hb hpbY x2
    have x3 := oldc hb hpbY x3
    have x4 := oldc hb hpbY x4
    have x5 := oldc hb hpbY x5
    have y0 := oldc hb hpbY y0
    have y1 := oldc hb hpbY y1
    have y2 := oldc hb hpbY y2
    have y3 := oldc hb hpbY y3
    have y4 := oldc hb hpbY y4
    have y5 := oldc hb hpbY y5
    clear PA PB h h'
    by_cases j0 : j = 0
    ·obtain rfl : j = 0 := by omega
     have HN := Hd (show (ba ≤ fr ∧ (da = -1 ∨ (fr ≤ da ∧ tl ≤ da))) → ((1 ≤ (0 + 1) → ba ≤ fr ∧ (da = -1 ∨ (fr ≤ da ∧ tl ≤ da))) ∧ (2 ≤ (0 + 1) → bb ≤ fr ∧ (db = -1 ∨ (fr ≤ db ∧ tl ≤ db)))) by intro e; exact ⟨fun _ => e, fun h => absurd h omT⟩)
     have HZ := Hd (show ¬ (ba ≤ fr ∧ (da = -1 ∨ (fr ≤ da ∧ tl ≤ da))) → false = r by intro e; exact HFail.out (fun e2 => e ⟨e2.2.1.2.1, by have := e2.2.2.2.1; have := e2.2.1.2.1; omega⟩))
     clear HFail HOk hj
     by_cases d1 : da = -1
     all_goals have d1' : (da != -1) = !decide (da = -1) := rfl
     all_goals simp only [d1, decide_true, decide_false, Bool.not_true, Bool.not_false] at d1'
     all_goals go_wp2
     all_goals first
      | (go_roundw
         case rel => exact ⟨0 + 1, by omega, by go_num, Hd (HN.out omT), by simp [go_sem, *], by simp [go_sem, *], bwT⟩
         case measure => simp [intOf])
      | (go_ret; exact ⟨ret_bool (HZ.out omT), bwT⟩)
    ·obtain rfl : j = 1 := by omega
     have HN := Hd (show (bb ≤ fr ∧ (db = -1 ∨ (fr ≤ db ∧ tl ≤ db))) → ((1 ≤ (1 + 1) → ba ≤ fr ∧ (da = -1 ∨ (fr ≤ da ∧ tl ≤ da))) ∧ (2 ≤ (1 + 1) → bb ≤ fr ∧ (db = -1 ∨ (fr ≤ db ∧ tl ≤ db)))) by intro e; exact ⟨fun _ => hj.out.1 omT, fun _ => e⟩)
     have HZ := Hd (show ¬ (bb ≤ fr ∧ (db = -1 ∨ (fr ≤ db ∧ tl ≤ db))) → false = r by intro e; exact HFail.out (fun e2 => e ⟨e2.2.1.2.2, by have := e2.2.2.2.2; have := e2.2.1.2.2; omega⟩))
     clear HFail HOk hj
     by_cases d1 : db = -1
     all_goals have d1' : (db != -1) = !decide (db = -1) := rfl
     all_goals simp only [d1, decide_true, decide_false, Bool.not_true, Bool.not_false] at d1'
     all_goals go_wp2
     all_goals first
      | (go_roundw
         case rel => exact ⟨1 + 1, by omega, by go_num, Hd (HN.out omT), by simp [go_sem, *], by simp [go_sem, *], bwT⟩
         case measure => simp [intOf])
      | (go_ret; exact ⟨ret_bool (HZ.out omT), bwT⟩)
   ·obtain rfl : j = 2 := by omega
    have HR2 := Hd (HOk.out ⟨⟨s1, s2⟩, ⟨s3, (hj.out.1 omT).1, (hj.out.2 omT).1⟩, s5, by have := (hj.out.1 omT).2; omega, by have := (hj.out.2 omT).2; omega⟩)
    clear HOk HFail PA PB hc0 hc1 h
    obtain ⟨WZ, hWZ⟩ : ∃ W : World, W = wr := ⟨_, rfl⟩
    subst hWZ
    go_wp2
    go_loopw [10] (fun s10 wr => ∃ i : Nat, i ≤ k ∧ s10 = .int .i64 i ∧ Hid (dup = decide (((mi : Int), (wi : Int)) ∈ ((us.take k).drop i).map fun v => (v.1, v.2.1))) ∧ Below WZ.heap.size WZ wr) (fun s10 _ => k - (intOf s10).toNat)
    case atStart => exact ⟨0, Nat.zero_le _, rfl, Hd (by simpa using HD.out), Below.refl _ _⟩
    case round =>
     clear HD
     obtain ⟨i, hi, rfl, hd, hb3⟩ := hrel
     have hbz : Below w.heap.size w wr := Below.trans hbw (hb3.mono hbw.size)
     have q_f1 := oldc hb3 l_f q_f1
     have q_u0 := oldc hb3 l_u q_u0
     have q_u1 := oldc hb3 l_u q_u1
     by_cases hik : i < k
     ·obtain ⟨_, _, um, uw, uf, ut, ee, hux, c0, c1, -, -, -, -, -, -, -, -, hub, -⟩ := (h'.below hbz).uni_at (show i < us.length by omega)
      simp only [Option.some.injEq, Addr.mk.injEq, and_true] at ee
      obtain ⟨rfl, rfl⟩ := ee
      have hkI : (i : Int) < (k : Int) := by omega
      have huI : (i : Int) < (us.length : Int) := by omega
      have hux2 : (us.take k)[i]? = some (um, uw, uf, ut) := by rw [List.getElem?_take, if_pos hik]; exact hux.out
      have HS := Hd (drop_cons hux2)
      clear hux hux2 h'
      by_cases m1 : um = (mi : Int)
      ·have m1' : (um == (mi : Int)) = true := by simpa using m1
       by_cases m2 : uw = (wi : Int)
       ·have m2' : (uw == (wi : Int)) = true := by simpa using m2
        have HX := Hd (show false = r by rw [HR2.out, hd.out, HS.out]; simp [m1, m2])
        clear hd HS HR2
        go_wp2_with fail
        go_quiet (fail)
        go_wp2
        go_ret
        exact ⟨ret_bool HX.out, bwT⟩
       ·have m2' : (uw == (wi : Int)) = false := by simpa using m2
        have HN := Hd (show dup = decide (((mi : Int), (wi : Int)) ∈ ((us.take k).drop (i + 1)).map fun v => (v.1, v.2.1)) by
         rw [hd.out, HS.out]
         have : ¬ (wi : Int) = uw := fun e => m2 e.symm
         simp [this])
        clear hd HS
        go_wp2_with fail
        go_quiet (fail)
        go_wp2
        go_roundw
        case rel => exact ⟨i + 1, by omega, by go_num, HN, bwT⟩
        case measure => simp [intOf]; omega
      ·have m1' : (um == (mi : Int)) = false := by simpa using m1
       have HN := Hd (show dup = decide (((mi : Int), (wi : Int)) ∈ ((us.take k).drop (i + 1)).map fun v => (v.1, v.2.1)) by
        rw [hd.out, HS.out]
        have : ¬ (mi : Int) = um := fun e => m1 e.symm
        simp [this])
       clear hd HS
       go_wp2_with fail
       go_quiet (fail)
       go_wp2
       go_roundw
       case rel => exact ⟨i + 1, by omega, by go_num, HN, bwT⟩
       case measure => simp [intOf]; omega
     ·have HX := Hd (show true = r by rw [HR2.out, hd.out, List.drop_eq_nil_of_le soT]; rfl)
      clear hd HR2 h'
      go_wp2
      go_ret
      exact ⟨ret_bool HX.out, bwT⟩
end
section
def nmSum : List Per → Nat
 | [] => 0
 | p :: ps => p.1.size + nmSum ps
instance decEqPers : DecidableEq (List Per) := fun a b => instDecidableEqList a b
instance decEqUnis : DecidableEq (List Uni) := fun a b => instDecidableEqList a b
instance decEqFam : DecidableEq (List Per × List Uni) := instDecidableEqProd
def famSz (f : Fam) : Nat := f.1.length + nmSum f.1 + f.2.length
theorem Rd.fam {z : Bool} {lo hi : Nat} {w : World} {a b : Value} {f : Fam} (h : Rd z lo hi w [a, b] f) : Rd z lo hi w [a] f.1 ∧ Rd z lo hi w [b] f.2 := h.two rfl
theorem shapeFam {z : Bool} {lo hi : Nat} {w : World} {a b : Value} {f : Fam} (h : Rd z lo hi w [a, b] f) : ∃ ao n cap bo m dap, a = .slice ao n cap ∧ b = .slice bo m dap := by
 obtain ⟨h1, h2⟩ := h.fam
 obtain ⟨ao, n, cap, rfl, -⟩ := h1.shape
 obtain ⟨bo, m, dap, rfl, -⟩ := h2.shape
 exact ⟨ao, n, cap, bo, m, dap, rfl, rfl⟩
end
section
theorem PplTo.snoc {ps : List Per} {k : Nat} (h : PplTo ps k) (hk : perOk ps k = true) : PplTo ps (k + 1) := by
 intro i hi
 by_cases e : i = k
 ·subst e; exact hk
 ·exact h i omT
theorem famB_ppl {f : Fam} {k : Nat} (hk : k < f.1.length) (h : perOk f.1 k = false) : famB f = false := by
 unfold famB; rw [all_range_false hk h]; simp
theorem famB_dep {f : Fam} (h : depOk f.1 = false) : famB f = false := by unfold famB; rw [h]; simp
theorem famB_uni {f : Fam} {k : Nat} (hk : k < f.2.length) (h : uniOk f k = false) : famB f = false := by
 unfold famB; rw [all_range_false hk h]; simp
theorem famB_true {f : Fam} (h1 : f.1.length ≤ 40) (h2 : f.2.length ≤ 60) (hp : PplTo f.1 f.1.length) (hd : depOk f.1 = true) (hu : ∀ k, k < f.2.length → uniOk f k = true) : famB f = true := by
 unfold famB; rw [all_range.2 hp, all_range.2 hu, hd]; simp [h1, h2]
theorem deps_step {L : List Int} {k : Nat} {d : Int} (h : L[k]? = some d) : (L.drop k).all (fun d => decide (d ≤ 10)) = (decide (d ≤ 10) && (L.drop (k + 1)).all fun d => decide (d ≤ 10)) := by
 rw [drop_cons h, List.all_cons]
set_option maxRecDepth 20000 in
theorem isFamS_b {z : Bool} {lo hi : Nat} (w : World) (v v2 : Value) (f : Fam) (h : Rd z lo hi w [v, v2] f) (r : Bool) (hr : r = famB f) :
  Calls Tryz.prog 102 #[.agg #[v, v2]] w (PostB w r) := by
 obtain ⟨ha, hb⟩ := h.fam
 obtain ⟨ao, n, cap, rfl, hn, hnc, hcm, hnone⟩ := ha.shape
 obtain ⟨bo, n2, dap, rfl, hn2, hnc', hcm', hnone'⟩ := hb.shape
 subst hn hn2
 unfold maxLen at *
 have HR := Hd hr
 clear hr h
 by_cases h1 : f.1.length ≤ 40
 rotate_left
 ·have HX := Hd (show false = r by rw [HR.out]; unfold famB; simp [h1])
  have h1' : (40 : Int) < (f.1.length : Int) := by omega
  clear ha hb
  go_enter Tryz.func102, Tryz.ntmps102
  go_wp2
  go_ret
  exact ⟨ret_bool HX.out, bwT⟩
 have h1' : ¬ (40 : Int) < (f.1.length : Int) := by omega
 by_cases h2 : f.2.length ≤ 60
 rotate_left
 ·have HX := Hd (show false = r by rw [HR.out]; unfold famB; simp [h2])
  have h2' : (60 : Int) < (f.2.length : Int) := by omega
  clear ha hb
  go_enter Tryz.func102, Tryz.ntmps102
  go_wp2
  go_ret
  exact ⟨ret_bool HX.out, bwT⟩
 have h2' : ¬ (60 : Int) < (f.2.length : Int) := by omega
 go_enter Tryz.func102, Tryz.ntmps102
 go_wp2
 go_loopw [3, 20] (fun _ s20 wr => ∃ k : Nat, k ≤ f.1.length ∧ s20 = .int .i64 k ∧ Hid (PplTo f.1 k) ∧ Below (w.heap.size + 1) (w.alloc (.cells #[.slice ao f.1.length cap, .slice bo f.2.length dap] 37)) wr) (fun _ s20 _ => f.1.length - (intOf s20).toNat)
 case atStart => exact ⟨0, Nat.zero_le _, rfl, Hd (fun i hi => absurd hi omT), Below.refl _ _⟩
 case round =>
  rename_i wr
  obtain ⟨k, hk, rfl, hP, hbb⟩ := hrel
  have sW := hbb.size
  simp only [World.size_alloc] at sW
  have hbw : Below w.heap.size w wr := Below.trans ((Below.refl _ _).alloc (Nat.le_refl _) _) (hbb.mono omT)
  have q_f0 : wr.cell? ⟨w.heap.size, 0, none⟩ = some (.slice ao f.1.length cap) := oldc hbb omT sgT
  have q_f1 : wr.cell? ⟨w.heap.size, 1, none⟩ = some (.slice bo f.2.length dap) := oldc hbb omT sgT
  by_cases hlt : k < f.1.length
  ·have hI : (k : Int) < (f.1.length : Int) := by omega
   obtain ⟨r1, hlet_r1⟩ : ∃ r, r = perOk f.1 k := ⟨_, rfl⟩
   have H1 := Hd hlet_r1
   clear hlet_r1
   go_wp2_with fail
   refine (perS_b _ _ _ f.1 (ha.below bwT) k hlt hP.out r1 H1.out).mono ?_
   rintro e w1 ⟨rfl, hb1⟩
   have hB1 : Below (w.heap.size + 1) (w.alloc (.cells #[.slice ao f.1.length cap, .slice bo f.2.length dap] 37)) w1 := Below.trans hbb (hb1.mono omT)
   have hB1w : Below w.heap.size w w1 := Below.after hbw hb1 hbw.size
   cases r1
   ·have HX := Hd (show false = r by rw [HR.out, famB_ppl hlt H1.out.symm])
    go_wp2
    go_ret
    exact ⟨ret_bool HX.out, hB1w⟩
   ·have HN := Hd (hP.out.snoc H1.out.symm)
    clear hP
    go_wp2
    go_roundw
    case rel => exact ⟨k + 1, by omega, by go_num, HN, hB1⟩
    case measure => simp [intOf]; omega
  ·obtain rfl : k = f.1.length := by omega
   obtain ⟨W0, hW0⟩ : ∃ W : World, W = wr := ⟨_, rfl⟩
   subst hW0
   have l_f : w.heap.size < W0.heap.size := by omega
   go_wp2_with fail
   refine (depS_any _ _ _ f.1 (ha.below bwT) hP.out h1).mono ?_
   rintro e w2 ⟨u, rfl, hod, hb2⟩
   have s2 := hb2.size
   have q_f0 := oldc hb2 l_f q_f0
   have q_f1 := oldc hb2 l_f q_f1
   have l_f := ltL l_f s2
   have hB2 : Below w.heap.size w w2 := Below.after hbw hb2 hbw.size
   have hdl := deps_len f.1
   obtain ⟨D, hD⟩ : ∃ D, D = deps f.1 := ⟨_, rfl⟩
   rw [← hD] at hod hdl
   have HDp := Hd (show depOk f.1 = (D.drop 0).all fun d => decide (d ≤ 10) by rw [hD]; rfl)
   clear hD hbb hb2
   obtain ⟨dao, dn, dcap, rfl, rfl, -, hdcm, -⟩ := hod.rd.shape
   unfold maxLen at hdcm
   have hdI : (D.length : Int) = (f.1.length : Int) := by omega
   go_wp2
   go_loopw [5, 31] (fun _ s31 wr => ∃ k : Nat, k ≤ D.length ∧ s31 = .int .i64 k ∧ Hid (depOk f.1 = (D.drop k).all fun d => decide (d ≤ 10)) ∧ Below w2.heap.size w2 wr) (fun _ s31 _ => D.length - (intOf s31).toNat)
   case atStart => exact ⟨0, Nat.zero_le _, rfl, HDp, Below.refl _ _⟩
   case round =>
    clear HDp
    obtain ⟨k, hkd, rfl, hd, hb3⟩ := hrel
    have hB3 : Below w.heap.size w wr := Below.trans hB2 (hb3.mono hB2.size)
    by_cases hltd : k < D.length
    ·obtain ⟨db, doff, d, rfl, hx, hc, hd1, hd2, _⟩ := (hod.rd.below hb3).int_at hltd
     have hI2 : (k : Int) < (D.length : Int) := by omega
     have HS := Hd (deps_step hx.out)
     clear hx
     by_cases h10 : d ≤ 10
     ·have h10' : ¬ 10 < d := by omega
      have HN := Hd (show depOk f.1 = (D.drop (k + 1)).all fun d => decide (d ≤ 10) by rw [hd.out, HS.out]; simp [h10])
      clear hd HS
      go_wp2
      go_roundw
      case rel => exact ⟨k + 1, by omega, by go_num, HN, hb3⟩
      case measure => simp [intOf]; omega
     ·have h10' : 10 < d := by omega
      have HX := Hd (show false = r by rw [HR.out, famB_dep (by rw [hd.out, HS.out]; simp [h10])])
      clear hd HS
      go_wp2
      go_ret
      exact ⟨ret_bool HX.out, hB3⟩
    ·have HD := Hd (show depOk f.1 = true by rw [hd.out, List.drop_eq_nil_of_le omT]; rfl)
     have hI2 : ¬ (k : Int) < (D.length : Int) := by omega
     have q_f0 := oldc hb3 l_f q_f0
     have q_f1 := oldc hb3 l_f q_f1
     have l_f := ltL l_f hb3.size
     obtain ⟨W3, hW3⟩ : ∃ W : World, W = wr := ⟨_, rfl⟩
     subst hW3
     clear hd hod
     go_wp2
     go_loopw [6, 41] (fun _ s41 wr => ∃ k : Nat, k ≤ f.2.length ∧ s41 = .int .i64 k ∧ Hid (∀ i, i < k → uniOk f i = true) ∧ Below W3.heap.size W3 wr) (fun _ s41 _ => f.2.length - (intOf s41).toNat)
     case atStart => exact ⟨0, Nat.zero_le _, rfl, Hd (fun i hi => absurd hi omT), Below.refl _ _⟩
     case round =>
      obtain ⟨k, hku, rfl, hU, hb4⟩ := hrel
      have hB4 : Below w.heap.size w wr := Below.trans hB3 (hb4.mono hB3.size)
      have q_f0 := oldc hb4 l_f q_f0
      have q_f1 := oldc hb4 l_f q_f1
      by_cases hltu : k < f.2.length
      ·have hI3 : (k : Int) < (f.2.length : Int) := by omega
       obtain ⟨r5, hlet_r5⟩ : ∃ r, r = uniOk f k := ⟨_, rfl⟩
       have H5 := Hd hlet_r5
       clear hlet_r5
       go_wp2_with fail
       refine (uniS_b _ _ _ f (ha.below bwT) (hb.below bwT) h1 hP.out k hltu h2 r5 H5.out).mono ?_
       rintro e w5 ⟨rfl, hb5⟩
       have hb45 : Below W3.heap.size W3 w5 := Below.after hb4 hb5 hb4.size
       have hB5 : Below w.heap.size w w5 := Below.after hB4 hb5 hB4.size
       cases r5
       ·have HX := Hd (show false = r by rw [HR.out, famB_uni hltu H5.out.symm])
        go_wp2
        go_ret
        exact ⟨ret_bool HX.out, hB5⟩
       ·have HN := Hd (show ∀ i, i < k + 1 → uniOk f i = true by
         intro i hi
         by_cases e : i = k
         ·subst e; exact H5.out.symm
         ·exact hU.out i omT)
        clear hU
        go_wp2
        go_roundw
        case rel => exact ⟨k + 1, by omega, by go_num, HN, hb45⟩
        case measure => simp [intOf]; omega
      ·have HX := Hd (show true = r by rw [HR.out, famB_true h1 h2 hP.out HD.out (fun i hi => hU.out i omT)])
       have hI3 : ¬ (k : Int) < (f.2.length : Int) := by omega
       clear hU
       go_wp2
       go_ret
       exact ⟨ret_bool HX.out, hB4⟩
end
section
def exoU (g : List Int) (u : Uni) : Bool := !decide (g.getD u.1.toNat 0 = g.getD u.2.1.toNat 0)
def exoB (f : Fam) (g : List Int) : Bool := famB f && (decide (g.length = f.1.length) && f.2.all (exoU g))
theorem famB_facts {f : Fam} (h : famB f = true) : f.1.length ≤ 40 ∧ f.2.length ≤ 60 ∧ PplTo f.1 f.1.length ∧ ∀ k, k < f.2.length → uniOk f k = true := by
 simp only [famB, Bool.and_eq_true, decide_eq_true_eq] at h
 exact ⟨h.1.1, h.1.2, all_range.1 h.2.1, all_range.1 h.2.2.2⟩
theorem uniOk_facts {f : Fam} {k : Nat} {m wo fr tl : Int} (h : uniOk f k = true) (hu : f.2[k]? = some (m, wo, fr, tl)) : (0 ≤ m ∧ m < f.1.length) ∧ (0 ≤ wo ∧ wo < f.1.length) := by
 unfold uniOk at h
 rw [hu] at h
 simp only [uniC, Bool.and_eq_true, decide_eq_true_eq] at h
 exact h.1
end
end Go.Proofs.YtcbhdmmohdnjbaaGreat
