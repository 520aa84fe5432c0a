/- Texts laid one behind the other (merge.py): Lex, All, Idn, Can, Shuf, Drw. -/
import Derived.Test.YtefbbbhidnnchaaZ14A
import Derived.Test.YtefbbbhidnnchaaZ14D
import Derived.Test.YtefbbbhidnnchaaZ14C
import Derived.Test.YtefbbbhidnnchaaZ14G
namespace Go.Proofs.Ytefbbbhidnnchaa
set_option linter.unusedVariables false
set_option linter.unusedSimpArgs false
open Go.RowKit

/-! ### Lex -/
section

def lexB : List Int → List Int → Bool
  | [], ys => decide (0 < ys.length)
  | _ :: _, [] => false
  | x :: xs, y :: ys => if x = y then lexB xs ys else decide (x < y)

section
variable {z z' : Bool} {lo hi lo' hi' : Nat} (w : World) (u v : Value) (xs ys : List Int)



set_option maxHeartbeats 1000000 in
theorem hasInt_b (h : Rd z lo hi w [u] xs) (x : Int) (r : Bool) (hr : r = xs.contains x) :
    Calls Try.prog 105 #[u, .int .i64 x] w (PostB w r) := by
  obtain ⟨ao, n, cap, rfl, rfl, hnc, hcm, hnone⟩ := h.shape
  unfold maxLen at *
  have HR := Lib.hid hr
  clear hr
  go_enter Try.func105, Try.ntmps105
  go_wp2
  go_loopw [6, 9] (fun _ i wr => ∃ k : Nat, k ≤ xs.length ∧ i = .int .i64 k ∧ Hid (r = (xs.drop k).contains x) ∧ Below w.heap.size w wr) (fun _ i _ => xs.length - (intOf i).toNat)
  case atStart => exact ⟨0, Nat.zero_le _, rfl, Lib.hid (by simpa using HR.out), Below.refl _ _⟩
  case round =>
    clear HR
    obtain ⟨k, hk, rfl, ht, hb⟩ := hrel
    by_cases hlt : k < xs.length
    · obtain ⟨b, off, y, rfl, hx, hc, hx1, hx2, _⟩ := (h.below hb).int_at hlt
      have hI : (k : Int) < (xs.length : Int) := by omega
      clear h
      by_cases hxy : y = x
      · subst hxy
        have HT : Hid (r = true) := by rw [ht.out, drop_cons hx.out]; simp [Hid]
        clear ht hx
        go_wp2
        go_ret
        exact ⟨ret_bool HT.out.symm, hb⟩
      · have hne : (y == x) = false := by simpa using hxy
        have HT : Hid (r = (xs.drop (k + 1)).contains x) := by
          rw [ht.out, drop_cons hx.out]
          simp only [List.contains_cons, Hid]
          rw [show (x == y) = false by simpa using Ne.symm hxy]; simp
        clear ht hx hxy
        go_wp2
        go_roundw
        case rel => exact ⟨k + 1, by omega, by go_num, HT, hb⟩
        case measure => simp [intOf]; omega
    · have HF : Hid (r = false) := by rw [ht.out, List.drop_eq_nil_of_le (by omega)]; rfl
      clear h ht
      go_wp2
      go_ret
      exact ⟨ret_bool HF.out.symm, hb⟩
end

end

/-! ### All -/
section

def ext (x : Nat) (p : List Int) : List (List Int) := ((List.range x).filter fun (y : Nat) => !p.contains (y : Int)).map fun (y : Nat) => p ++ [(y : Int)]
def perms (n : Nat) : Nat → List (List Int)
  | 0 => [[]]
  | k + 1 => (perms n k).flatMap (ext n)

theorem Rd.ints_at {z : Bool} {lo hi : Nat} {w : World} {xs : List (List Int)} {ao : Option Addr} {n cap : Nat} (h : Rd z lo hi w [.slice ao n cap] xs) {i : Nat} (hi' : i < n) :
    ∃ b off p v, ao = some ⟨b, off, none⟩ ∧ Hid (xs[i]? = some p) ∧ w.cell? ⟨b, off + i, none⟩ = some v ∧ Rd z lo hi w [v] p ∧ lo ≤ b ∧ b < hi ∧ b < w.heap.size := by
  obtain ⟨b, off, p, cs, e, hx, hr, hl, h1, h2, h3, hc, hf⟩ := h.at hi'
  obtain ⟨v, rfl⟩ : ∃ v, cs = [v] := by
    match cs, hl with
    | [v], _ => exact ⟨v, rfl⟩
  exact ⟨b, off, p, v, e, hx, by have := hc 0 v rfl; simpa [Rep.sz] using this, hr, h1, h2, h3⟩

theorem Ow.lit1 (w : World) (v : Value) (E : TypeId) (hv : ∀ w', Rep.rep true w' [v] ([] : List Int) []) :
    Ow w.heap.size (w.heap.size + 1) (w.alloc (.cells #[v] E)) [.slice (some ⟨w.heap.size, 0, none⟩) 1 1] ([[]] : List (List Int)) := by
  refine ⟨[w.heap.size], ⟨_, rfl, some ⟨w.heap.size, 0, none⟩, 1, 1, rfl, rfl, Nat.le_refl _, by simp [maxLen], (fun h => by cases h), .inr ⟨w.heap.size, 0, [[v]], [[]], rfl, by simp, rfl, ⟨hv _, trivial⟩, ?_, ?_⟩⟩, ?_, by simp⟩
  · intro j c hj
    match j, hj with
    | 0, hj => simp at hj; subst hj; simp [go_sem]
  · intro _ o; simp [go_sem]
  · intro b hb; simp at hb; omega
end

/-! ### Idn -/
section

def idL (n : Nat) : List Int := (List.range n).map fun (i : Nat) => (i : Int)
theorem idL_succ (k : Nat) : idL (k + 1) = idL k ++ [(k : Int)] := by simp [idL, List.range_succ]
theorem idL_len (k : Nat) : (idL k).length = k := by simp [idL]

set_option maxHeartbeats 1000000 in
theorem identity_any (w : World) (n : Nat) (hn : n ≤ 1048576) :
    Calls Try.prog 53 #[.int .i64 n] w (PostOw w (idL n)) := by
  go_enter Try.func53, Try.ntmps53
  go_wp2
  go_loopw [3, 4, 6] (fun o _ i wr => ∃ k : Nat, k ≤ n ∧ i = .int .i64 k ∧ GL true w.heap.size w.heap.size wr.heap.size wr 3 o (idL k) ∧ Below w.heap.size w wr) (fun _ _ i _ => n - (intOf i).toNat)
  case atStart => exact ⟨0, Nat.zero_le _, rfl, GL.start _ _ _ _ _ _, Below.refl _ _⟩
  case round =>
    rename_i wr
    obtain ⟨k, hk, rfl, hG, hb⟩ := hrel
    have sW := hb.size
    by_cases hlt : k < n
    · have hI : (k : Int) < (n : Int) := by omega
      have hlc : (idL k).length ≤ 1048576 := by rw [idL_len]; omega
      go_wp2_with (at_builtin; refine wpList_push rfl rfl slInt (by show (0 : Nat) < 1; omega) (hG.alloc _) rfl (ad := ⟨wr.heap.size, 0, none⟩) rfl (cs := [.int .i64 k]) (y := (k : Int)) (lx := wr.heap.size) (hx' := wr.heap.size) ?c1 (It.flat (z := true) (w0 := wr) (fp := []) ⟨rfl, ⟨by omega, by omega⟩, rfl⟩) sW (.inl (Nat.le_refl _)) (by unfold maxLen; omega) (by omega) ?c2 ?_)
      case c1 =>
        intro j c hj
        match j, hj with
        | 0, hj => simp at hj; subst hj; simp [Addr.add]
      case c2 => simp; omega
      intro v' w1 hG1 _ hb1
      rw [← idL_succ] at hG1
      have HG := Lib.hid hG1
      have hB1 : Below w.heap.size w w1 := Below.trans (hb.alloc sW _) hb1
      clear hG hG1 hb1
      go_wp2
      go_roundw
      case rel => exact ⟨k + 1, by omega, by go_num, HG.out, hB1⟩
      case measure => simp [intOf]; omega
    · have hkn : k = n := by omega
      have HO := Lib.hid (hG.ow (l0 := w.heap.size) (Nat.le_refl _) (Nat.le_refl _))
      clear hG
      subst hkn
      go_wp2
      go_ret
      exact ⟨_, rfl, HO.out, hb⟩

end

/-! ### Can -/
section

def lexC (a b : Cls) : Bool := lexB a.1 b.1 || (decide (a.1 = b.1) && lexB a.2 b.2)
def relC (c : Cls) (p : List Int) : Cls := (relab p c.1, relab p c.2)
def canonGo (c : Cls) : List (List Int) → Cls → Cls
  | [], b => b
  | p :: ps, b => canonGo c ps (if lexC (relC c p) b = true then relC c p else b)
def canonC (c : Cls) : Cls := canonGo c (perms c.1.length c.1.length) (relC c (idL c.1.length))
def canonV (c : Cls) : Bool := isCls c && decide (c.1.length ≤ 5)
def canonR (c : Cls) : Cls := if canonV c = true then canonC c else ([], [])

section
variable {z z' : Bool} {lo hi lo' hi' : Nat} (w : World) (u1 u2 v1 v2 : Value) (a b : Cls)

end


end

/-! ### Shuf -/
section

section
variable {z z' : Bool} {lo hi lo' hi' : Nat} (w : World) (u v : Value) (xs ys : List Int)
end

def PostShuf (n : Nat) (w : World) (e : Ending) (w' : World) : Prop := ∃ u xs, e = .returned u ∧ Ow w.heap.size w'.heap.size w' [u] (xs : List Int) ∧ Hid (xs.Perm (idL n)) ∧ Below w.heap.size w w'
def PostShufC (p n : Nat) (w : World) (e : Ending) (w' : World) : Prop := ∃ u xs, e = .returned u ∧ Ow w.heap.size w'.heap.size w' [u] (xs : List Int) ∧ Hid (xs.Perm (idL n)) ∧ CurOk p w' ∧ OffF [p] w w'

theorem OffF.belowA {fp : List Nat} {a w w' : World} (h : OffF fp a w) (k : Below a.heap.size w w') : OffF fp a w' :=
  ⟨k.os.trans h.os, k.tape.trans h.tape, k.output.trans h.output, Nat.le_trans h.size k.size, fun i hi hn => (k.block i hi).trans (h.block i hi hn)⟩
theorem swap_perm {xs : List Int} {k m : Nat} {a : Int} (hk : xs.length = k) (ha : (xs ++ [(k : Int)])[m]? = some a) : (((xs ++ [(k : Int)]).set k a).set m (k : Int)).Perm (xs ++ [(k : Int)]) := by
  obtain ⟨hm, rfl⟩ := List.getElem?_eq_some_iff.1 ha
  have hk2 : k < (xs ++ [(k : Int)]).length := by simp; omega
  have e : (xs ++ [(k : Int)])[k] = (k : Int) := by subst hk; simp
  have := List.set_set_perm (i := k) (j := m) hk2 hm
  rw [e] at this
  exact this

set_option maxRecDepth 20000 in
set_option maxHeartbeats 2000000 in
theorem l6Shuffle_any (w : World) (p : Nat) (h : CurOk p w) (n : Nat) (hn : n ≤ 40) :
    Calls Try.prog 72 #[.pointer (some ⟨p, 0, none⟩), .int .i64 n] w (PostShufC p n w) := by
  have hp := h.lt
  go_enter Try.func72, Try.ntmps72
  go_wp2
  go_loopw [5, 6] (fun s5 s6 wr => ∃ (k : Nat) (xs : List Int), k ≤ n ∧ s6 = .int .i64 k ∧ GL true w.heap.size w.heap.size wr.heap.size wr 3 s5 xs ∧ Hid (xs.Perm (idL k)) ∧ CurOk p wr ∧ OffF [p] w wr) (fun _ s6 _ => n - (intOf s6).toNat)
  case atStart => exact ⟨0, [], Nat.zero_le _, rfl, (GL.lit0 _ _ _ _ _ (Nat.le_refl _)).top, Lib.hid (List.Perm.refl _), h.grow bwT, (by repeat' (first | (with_reducible exact OffF.refl _ _) | (with_reducible assumption) | (with_reducible refine offF_drewN ?_ _) | (with_reducible refine OffF.drew ?_) | (with_reducible refine OffF.setCell ?_ (by simp) _) | (with_reducible refine OffF.alloc ?_ _)))⟩
  case round =>
    rename_i wr
    clear h
    obtain ⟨k, xs, hk, rfl, hG, hX, hC, hO⟩ := hrel
    have sW := hO.size
    have hxl : xs.length = k := by rw [hX.out.length_eq, idL_len]
    by_cases hlt : k < n
    · have hI : (k : Int) < (n : Int) := by omega
      have q1 : wrap64 ((k : Int) + 1) = (k : Int) + 1 := IntWalk.wrap64_in _ (by omega)
      go_wp2_with fail
      refine (l01Below_any _ p hC _ (by omega) (by omega)).mono ?_
      rintro e w1 ⟨r, rfl, ⟨hr0, hr1⟩, hC1, hO1⟩
      obtain ⟨m, rfl⟩ := Int.eq_ofNat_of_zero_le hr0
      have hz1 : Zone w.heap.size wr.heap.size wr w1 := hO1.zone (lo := p) (hi := p + 1) (Nat.le_refl _) (fun b hb => by simp at hb; omega) (by omega)
      have hG1 := (hG.keep hz1 hz1).top
      have hO2 := hO.trans hO1
      have s1 := hO1.size
      clear hC hG hO hO1 hz1
      go_wp2_with (at_builtin; refine wpList_push rfl rfl slInt (by show (0 : Nat) < 1; omega) (hG1.alloc _) rfl (ad := ⟨w1.heap.size, 0, none⟩) rfl (cs := [.int .i64 k]) (y := (k : Int)) (lx := w1.heap.size) (hx' := w1.heap.size) ?c1 (It.flat (z := true) (w0 := wr) (fp := []) ⟨rfl, ⟨by omega, by omega⟩, rfl⟩) (by omega) (.inl (Nat.le_refl _)) (by unfold maxLen; omega) (by omega) ?c2 ?_)
      case c1 =>
        intro j c hj
        match j, hj with
        | 0, hj => simp at hj; subst hj; simp [Addr.add]
      case c2 => simp; omega
      intro v' w2 hG2 _ hb2
      have hb2' : Below w.heap.size w1 w2 := Below.trans bwT hb2
      have hC2 := hC1.below (hb2'.mono (by omega))
      have hO3 : OffF [p] w w2 := hO2.belowA hb2'
      have hmk : m ≤ k := by omega
      obtain ⟨g, cp, a, rfl, ha, hca, hIa, hg1, hg2, hg3, hgf⟩ := hG2.int_at (i := m) (by simp; omega)
      obtain ⟨g', cp', a', ee, ha', hca', -⟩ := hG2.int_at (i := k) (by simp; omega)
      simp only [Value.slice.injEq, Option.some.injEq, Addr.mk.injEq, and_true, true_and] at ee
      obtain ⟨rfl, rfl⟩ := ee
      have hln : (xs ++ [(k : Int)]).length = k + 1 := by simp; omega
      have HP := Lib.hid (show (((xs ++ [(k : Int)]).set k a).set m (k : Int)).Perm (idL (k + 1)) by
        refine (swap_perm hxl ha.out).trans ?_
        rw [idL_succ]
        exact List.Perm.append_right _ hX.out)
      have HG := Lib.hid ((hG2.put (i := k) (by omega) hIa).put (i := m) (y := (k : Int)) (by omega) ⟨by omega, by omega⟩)
      have hmI : (m : Int) < (k : Int) + 1 := by omega
      have hkI : (k : Int) < (k : Int) + 1 := by omega
      have s2 := hO3.size
      have pg : ¬ p = g := by omega
      have pg' : ¬ g = p := by omega
      have hEnd : ∀ (W : World), Below w.heap.size w2 W → CurOk p W ∧ OffF [p] w W := fun W hb => ⟨hC2.below (hb.mono (by omega)), hO3.belowA hb⟩
      have HEnd := Lib.hid hEnd
      clear hEnd hX ha ha' hG2 hb2 hb2' hO2 hO3 hC1 hC2 hG1
      have z1 : w.heap.size ≤ g := hg1
      by_cases hm : m = k
      · subst hm
        obtain rfl : a = a' := by
          have := hca.symm.trans hca'
          simpa using this
        clear hca'
        go_wp2
        go_roundw
        case rel => exact ⟨m + 1, _, by omega, by go_num, HG.out.top, HP, HEnd.out _ bwT⟩
        case measure => simp [intOf]; omega
      · have hm' : ¬ k = m := fun e => hm e.symm
        go_wp2
        go_roundw
        case rel => exact ⟨k + 1, _, by omega, by go_num, HG.out.top, HP, HEnd.out _ bwT⟩
        case measure => simp [intOf]; omega
    · have hkn : k = n := by omega
      have HO := Lib.hid (hG.ow (l0 := w.heap.size) (Nat.le_refl _) (Nat.le_refl _))
      clear hG
      subst hkn
      go_wp2
      go_ret
      exact ⟨_, xs, rfl, HO.out, hX, hC, hO⟩


end

/-! ### Drw -/
section

theorem offq {p : Nat} {w w' : World} (h : OffF [p] w w') {b o : Nat} (hb : b ≠ p) (hl : b < w.heap.size) {v : Value} (hv : w.cell? ⟨b, o, none⟩ = some v) : w'.cell? ⟨b, o, none⟩ = some v :=
  (World.cell?_of_block (a := ⟨b, o, none⟩) (h.block b hl (by simpa using hb))).trans hv
theorem offfr {p : Nat} {w w' : World} (h : OffF [p] w w') {b : Nat} (hb : b ≠ p) (hl : b < w.heap.size) (hv : ∀ o, w.frozen? ⟨b, o, none⟩ = false) : ∀ o, w'.frozen? ⟨b, o, none⟩ = false := fun o =>
  (World.frozen?_of_block (a := ⟨b, o, none⟩) (h.block b hl (by simpa using hb))).trans (hv o)
theorem offzn {p lo hi : Nat} {w w' : World} (h : OffF [p] w w') (hp : p < lo ∨ hi ≤ p) (hh : hi ≤ w.heap.size) : Zone lo hi w w' := fun b h1 h2 => h.block b (by omega) (by simp; omega)
/-- A bool is drawn. -/
def PostCB (p : Nat) (w : World) (e : Ending) (w' : World) : Prop := ∃ r : Bool, e = .returned (.bool r) ∧ CurOk p w' ∧ OffF [p] w w'
def PostCS (p : Nat) (xs : List ByteArray) (w : World) (e : Ending) (w' : World) : Prop := ∃ s, e = .returned (.string s) ∧ s ∈ xs ∧ CurOk p w' ∧ OffF [p] w w'
section
variable (w : World)
theorem l01Once_any (p : Nat) (h : CurOk p w) (n : Int) (h0 : 0 < n) (h1 : n ≤ 256) :
    Calls Try.prog 68 #[.pointer (some ⟨p, 0, none⟩), .int .i64 n] w (PostCB p w) := by
  go_enter Try.func68, Try.ntmps68
  go_wp2_with fail
  refine (l01Below_any _ p h n h0 h1).mono ?_
  rintro e w1 ⟨r, rfl, ⟨hr0, hr1⟩, hc, ho⟩
  clear h
  go_wp2
  go_ret
  exact ⟨_, rfl, hc, ho⟩
theorem l01Pick_any {z : Bool} {lo hi : Nat} (p : Nat) (h : CurOk p w) (v : Value) (xs : List ByteArray) (hx : Rd z lo hi w [v] xs) (hl : 0 < xs.length) (hl2 : xs.length ≤ 256) (hp : p < lo ∨ hi ≤ p) (hh : hi ≤ w.heap.size) :
    Calls Try.prog 70 #[.pointer (some ⟨p, 0, none⟩), v] w (PostCS p xs w) := by
  obtain ⟨ao, n, cap, rfl, hn, -⟩ := hx.shape
  subst hn
  go_enter Try.func70, Try.ntmps70
  go_wp2_with fail
  refine (l01Below_any _ p h xs.length (by omega) (by omega)).mono ?_
  rintro e w1 ⟨r, rfl, ⟨hr0, hr1⟩, hc, ho⟩
  obtain ⟨m, rfl⟩ := Int.eq_ofNat_of_zero_le hr0
  obtain ⟨b, off, s, rfl, hs, c0, -⟩ := (hx.keep (offzn ho hp hh)).str_at (i := m) (by omega)
  have hm : (m : Int) < (xs.length : Int) := by omega
  have HS := Lib.hid (List.mem_of_getElem? hs.out)
  clear h hx hs
  go_wp2
  go_ret
  exact ⟨s, rfl, HS.out, hc, ho⟩
end

end

end Go.Proofs.Ytefbbbhidnnchaa
