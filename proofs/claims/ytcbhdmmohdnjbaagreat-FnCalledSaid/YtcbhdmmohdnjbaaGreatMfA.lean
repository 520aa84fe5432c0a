/- Texts laid one behind the other (merge.py): MkfA, MkfB, Gx, MkfC, MkfW, MkfV, MkfS. -/
import Derived.Test.YtcbhdmmohdnjbaaGreatMkf
import Derived.Test.YtcbhdmmohdnjbaaGreatDrM
import Derived.Test.YtcbhdmmohdnjbaaGreatGrpM
import Derived.Test.YtcbhdmmohdnjbaaGreatBase
import Derived.Test.YtcbhdmmohdnjbaaGreatFmiM
import Derived.Lib.MinMax
namespace Go.Proofs.YtcbhdmmohdnjbaaGreat
set_option linter.unusedVariables false
set_option linter.unusedSimpArgs false
open Go.RowKit
set_option maxHeartbeats 100000000
section
theorem flat_ints : ∀ (xs : List Int), (xs.map fun x => [Value.int .i64 x]).flatten = xs.map (Value.int .i64)
 | [] => rfl
 | x :: xs => by simp [flat_ints xs]
theorem nil_ints : ∀ (xs : List Int), (xs.map fun _ => ([] : List Nat)).flatten = []
 | [] => rfl
 | x :: xs => by simp [nil_ints xs]
theorem Ow.ints_lit (w : World) (E : TypeId) (xs : List Int) (h : ∀ x ∈ xs, I64 x) (hl : xs.length ≤ maxLen) :
  Ow w.heap.size (w.heap.size + 1) (w.alloc (.cells (xs.map (Value.int .i64)).toArray E)) [.slice (some ⟨w.heap.size, 0, none⟩) xs.length xs.length] xs := by
 refine ⟨[w.heap.size], ⟨_, rfl, _, _, _, rfl, rfl, Nat.le_refl _, hl, (fun h => by cases h), .inr ⟨w.heap.size, 0, _, _, rfl, by simp, by rw [nil_ints], zip_ints_of h, ?_, ?_⟩⟩, fun b hb => by simp at hb; omega, by simp⟩
 ·intro j c hj
  rw [flat_ints] at hj
  simp only [Nat.zero_add]
  rw [World.cell?_alloc_new]
  simpa using hj
 ·intro _ o
  simp [go_sem]
def PostCI (p : Nat) (xs : List Int) (w : World) (e : Ending) (w' : World) : Prop := ∃ r : Int, e = .returned (.int .i64 r) ∧ r ∈ xs ∧ CurOk p w' ∧ OffF [p] w w'
section
variable (w : World)
theorem l01Int_any {z : Bool} {lo hi : Nat} (p : Nat) (h : CurOk p w) (v : Value) (xs : List Int) (hx : Rd z lo hi w [v] xs) (hl : 0 < xs.length) (hl2 : xs.length ≤ 256) (hp : p < lo ∨ hi ≤ p) (hh : hi ≤ w.heap.size) :
  Calls Tryz.prog 147 #[.pointer (some ⟨p, 0, none⟩), v] w (PostCI p xs w) := by
 obtain ⟨ao, n, cap, rfl, hn, -⟩ := hx.shape
 subst hn
 go_enter Tryz.func147, Tryz.ntmps147
 go_wp2_with fail
 refine (l01Below_any _ p h xs.length omT omT).mono ?_
 rintro e w1 ⟨r, rfl, ⟨hr0, hr1⟩, hc, ho⟩
 obtain ⟨m, rfl⟩ := Int.eq_ofNat_of_zero_le hr0
 obtain ⟨b, off, s, rfl, hs, c0, -⟩ := (hx.keep (offzn ho hp hh)).int_at (i := m) omT
 have hm : (m : Int) < (xs.length : Int) := by omega
 have HS := Hd (List.mem_of_getElem? hs.out)
 clear h hx hs
 go_wp2
 go_ret
 exact ⟨s, rfl, HS.out, hc, ho⟩
end
theorem conv2 (W : World) (d e : UInt8) (ty : TypeId) : (convert 59 9 (.slice (some ⟨W.heap.size, 0, none⟩) 2 2)).run Tryz.prog (W.alloc (.cells #[.int .u8 d.toNat, .int .u8 e.toNat] ty)).drew = .ok (.string ⟨#[d, e]⟩) (W.alloc (.cells #[.int .u8 d.toNat, .int .u8 e.toNat] ty)).drew := by
 have := run_convert_bytes_back (P := Tryz.prog) (W.alloc (.cells #[.int .u8 d.toNat, .int .u8 e.toNat] ty)).drew 59 9 5 ⟨W.heap.size, 0, none⟩ 2 [d, e] Tryz.underlying59 Tryz.underlying5 Tryz.underlying9 (fun j hj => by
  match j, hj with
  | 0, _ => simp [go_sem]
  | 1, _ => simp [go_sem, Addr.add]
  | j + 2, hj => exact absurd hj spT)
 simpa using this
set_option maxRecDepth 20000 in
theorem l1Called_any (w : World) (i : Nat) (hi : i < 40) : Calls Tryz.prog 148 #[.int .i64 i] w (PostV w (.string (nmOf i))) := by
 obtain ⟨a, ha⟩ : ∃ a : Nat, a = i % 26 := ⟨_, rfl⟩
 obtain ⟨b, hb⟩ : ∃ b : Nat, b = i / 26 % 5 := ⟨_, rfl⟩
 have e1 : (i : Int).tmod 26 = (a : Int) := by rw [Int.tmod_eq_emod_of_nonneg omT]; omega
 have e2 : (i : Int).tdiv 26 = (i : Int) / 26 := Int.tdiv_eq_ediv_of_nonneg omT
 have e4 : IntKind.i64.wrap ((i : Int) / 26) = (i : Int) / 26 := IntWalk.i64_in _ omT
 have e3 : ((i : Int) / 26).tmod 5 = (b : Int) := by rw [Int.tmod_eq_emod_of_nonneg omT]; omega
 have ha2 : (a : Int) < 26 := by omega
 have hb2 : (b : Int) < 5 := by omega
 have HN := Hd (show nmOf i = ⟨#[abc[a]!, vow[b]!]⟩ by rw [ha, hb]; rfl)
 clear ha hb
 go_enter Tryz.func148, Tryz.ntmps148
 have kc := conv2 w ((⟨#[97, 98, 99, 100, 101, 102, 103, 104, 105, 106, 107, 108, 109, 110, 111, 112, 113, 114, 115, 116, 117, 118, 119, 120, 121, 122]⟩ : ByteArray)[a]'(show a < 26 by omega)) ((⟨#[97, 101, 105, 111, 117]⟩ : ByteArray)[b]'(show b < 5 by omega)) 5
 have EA := Hd (show (abc[a]!) = (⟨#[97, 98, 99, 100, 101, 102, 103, 104, 105, 106, 107, 108, 109, 110, 111, 112, 113, 114, 115, 116, 117, 118, 119, 120, 121, 122]⟩ : ByteArray)[a]'(show a < 26 by omega) from getElem!_pos abc a (show a < 26 by omega))
 have EB := Hd (show (vow[b]!) = (⟨#[97, 101, 105, 111, 117]⟩ : ByteArray)[b]'(show b < 5 by omega) from getElem!_pos vow b (show b < 5 by omega))
 go_upto_region 1 with fail
 refine wp_region_held_drew (S := (fun w' => True)) krT ?_ (fun hHeld => ?_)
 ·exact kpT
 refine tkA 0 ?_
 try simp only [cD]
 refine tkA 3 ?_
 try simp only [cD]
 refine tkA 1 ?_
 try simp only [cD]
 refine tkA 4 ?_
 try simp only [cD]
 refine tkA 2 ?_
 try simp only [cD]
 refine tkA 5 ?_
 try simp only [cD]
 refine tkA 6 ?_
 try simp only [cD]
 refine rd1 7 fun K hK => ?_
 go_simp
 refine hK.out _ _ kpT fun hHeld => ?_
 clear hK K
 try simp only [cD]
 refine rd1 8 fun K hK => ?_
 go_simp
 refine hK.out _ _ kpT fun hHeld => ?_
 clear hK K
 try simp only [cD]
 refine tkA 9 ?_
 try simp only [cD]
 refine wdT ?_
 go_wp2
 go_ret
 rw [HN.out, EA.out, EB.out]
 exact ⟨rfl, bwT⟩
def PostAB (w : World) (e : Ending) (w' : World) : Prop := ∃ r : Bool, e = .returned (.bool r) ∧ Below w.heap.size w w'
theorem l1Elder_any {z : Bool} {lo hi : Nat} (w : World) (v v2 : Value) (ps : List Per) (h : Rd z lo hi w [v] ps) (i j : Nat) (hi' : i < ps.length) (hj : j < ps.length) :
  Calls Tryz.prog 159 #[.agg #[v, v2], .int .i64 i, .int .i64 j] w (PostAB w) := by
 obtain ⟨ao, n, cap, rfl, hn, -⟩ := h.shape
 subst hn
 obtain ⟨b, off, nm, sx, fa, mo, bo, di, rfl, -, x0, x1, x2, x3, x4, x5, -, -, -, -, -, -, -, -, hb, -⟩ := h.per_at hi'
 obtain ⟨_, _, nm', sx', fa', mo', bo', di', e, -, y0, y1, y2, y3, y4, y5, -⟩ := h.per_at hj
 simp only [Option.some.injEq, Addr.mk.injEq, and_true] at e
 obtain ⟨rfl, rfl⟩ := e
 have hi2 : (i : Int) < (ps.length : Int) := by omega
 have hj2 : (j : Int) < (ps.length : Int) := by omega
 clear h x0 x1 x2 x3 x5 y0 y1 y2 y3 y5
 go_enter Tryz.func159, Tryz.ntmps159
 by_cases h1 : bo < bo'
 ·go_wp2
  go_ret
  exact ⟨true, rfl, bwT⟩
 ·by_cases h2 : bo = bo'
  ·subst h2
   go_wp2
   go_ret
   exact ⟨_, rfl, bwT⟩
  ·have h3 : (bo == bo') = false := by simpa using h2
   clear h2
   go_wp2
   go_ret
   exact ⟨false, rfl, bwT⟩
def PostSm (p : Nat) (ps : List Per) (D : List Int) (sex : Int) (w : World) (e : Ending) (w' : World) : Prop :=
 ∃ r : Int, e = .returned (.int .i64 r) ∧ Hid (r = -1 ∨ ∃ (k : Nat) (nm : ByteArray) (fa mo bo di : Int), r = k ∧ ps[k]? = some (nm, sex, fa, mo, bo, di) ∧ D.getD k 0 < 10) ∧ CurOk p w' ∧ OffF [p] w w'
set_option maxRecDepth 20000 in
theorem l1Some_any {z z' : Bool} {lo hi lo' hi' : Nat} (w : World) (p : Nat) (h : CurOk p w) (v v2 vd : Value) (ps : List Per) (hx : Rd z lo hi w [v] ps) (D : List Int) (hd : Rd z' lo' hi' w [vd] D) (hD : D.length = ps.length) (hl : ps.length ≤ 40)
  (hp : p < lo) (hh : hi ≤ w.heap.size) (hp' : p < lo') (hh' : hi' ≤ w.heap.size) (sex : Int) :
  Calls Tryz.prog 149 #[.pointer (some ⟨p, 0, none⟩), .agg #[v, v2], vd, .int .i64 sex] w (PostSm p ps D sex w) := by
 obtain ⟨ao, n, cap, rfl, hn, -⟩ := hx.shape
 subst hn
 obtain ⟨dao, dn, dcap, rfl, hdn, -⟩ := hd.shape
 rw [hD] at hdn
 subst hdn
 have HX := Hd hx
 have HD := Hd hd
 have hpl := h.lt
 have hC0 : CurOk p (w.alloc (.cells #[.slice ao ps.length cap, v2] 37)) := h.grow bwT
 have hO0 : OffF [p] w (w.alloc (.cells #[.slice ao ps.length cap, v2] 37)) := (OffF.refl [p] w).alloc _
 have hwF : (w.alloc (.cells #[.slice ao ps.length cap, v2] 37)).cell? ⟨w.heap.size, 0, none⟩ = some (.slice ao ps.length cap) := by simp [go_sem]
 have hne : w.heap.size ≠ p := by omega
 clear h hx hd
 go_enter Tryz.func149, Tryz.ntmps149
 go_wp2
 go_loopw [8, 10, 11] (fun _ s10 _ wi => ∃ k : Nat, k ≤ 6 ∧ s10 = .int .i64 k ∧ wi.cell? ⟨w.heap.size, 0, none⟩ = some (.slice ao ps.length cap) ∧ w.heap.size < wi.heap.size ∧ CurOk p wi ∧ OffF [p] w wi) (fun _ s10 _ _ => 6 - (intOf s10).toNat)
 case atStart => exact ⟨0, by omega, rfl, hwF, by simp, hC0, hO0⟩
 case round =>
  clear hwF hC0 hO0
  obtain ⟨wi, hwi⟩ : ∃ x : World, x = wr := ⟨_, rfl⟩
  subst hwi
  obtain ⟨k, hk, rfl, q0, lF, hC, hO⟩ := hrel
  by_cases hk6 : k < 6
  ·have hkI : (k : Int) < 6 := by omega
   by_cases hn0 : 0 < ps.length
   ·have hnI : (0 : Int) < (ps.length : Int) := by omega
    go_wp2_with fail
    refine (l01Below_any _ p hC ps.length omT omT).mono ?_
    rintro e w1 ⟨r, rfl, ⟨hr0, hr1⟩, hC1, hO1⟩
    obtain ⟨r, rfl⟩ := Int.eq_ofNat_of_zero_le hr0
    have q1 := offq hO1 hne lF q0
    have l1 := ltL lF hO1.size
    clear hC q0
    go_wp2_with fail
    refine (l01Once_any _ p hC1 2 omT omT).mono ?_
    rintro e w2 ⟨q, rfl, hC2, hO2⟩
    have q2 := offq hO2 hne l1 q1
    have l2 := ltL l1 hO2.size
    have hO02 := (hO.trans hO1).trans hO2
    clear hC1 q1 hO hO1 hO2
    cases q
    ·skip
     obtain ⟨bx, ofx, nm, sx, fa, mo, bo, di, hao, hxp, x0, x1, x2, x3, x4, x5, -, -, -, -, -, -, -, -, hbx, -⟩ := (HX.out.keep (offzn hO02 (.inl hp) hh)).per_at (show r < ps.length by omega)
     obtain ⟨bd, ofd, dd, hdo, hdd, d0, -⟩ := (HD.out.keep (offzn hO02 (.inl hp') hh')).int_at (show r < ps.length by omega)
     have HXP := Hd hxp.out
     have HDD := Hd (show D.getD r 0 = dd by rw [List.getD_eq_getElem?_getD, hdd.out]; rfl)
     subst hao
     subst hdo
     have hjI : (r : Int) < (ps.length : Int) := by omega
     clear hxp hdd x0 x2 x3 x4 x5
     by_cases hsx : sx = sex
     ·subst hsx
      by_cases hdl : dd < 10
      ·go_wp2
       go_ret
       exact ⟨_, rfl, Hd (.inr ⟨r, _, _, _, _, _, rfl, HXP.out, by rw [HDD.out]; exact hdl⟩), hC2, hO02⟩
      ·go_wp2
       go_roundw
       case rel => exact ⟨k + 1, by omega, by go_num, q2, l2, hC2, hO02⟩
       case measure => simp [intOf]; omega
     ·have hsb : (sx == sex) = false := by simpa using hsx
      clear hsx
      go_wp2
      go_roundw
      case rel => exact ⟨k + 1, by omega, by go_num, q2, l2, hC2, hO02⟩
      case measure => simp [intOf]; omega
    ·obtain ⟨n1, hn1⟩ : ∃ n : Nat, ps.length = n + 1 := ⟨ps.length - 1, by omega⟩
     have hw1 : IntKind.i64.wrap ((ps.length : Int) - 1) = (n1 : Int) := by rw [IntWalk.i64_in _ omT]; omega
     have HN1 := Hd hn1
     clear hn1
     go_wp2_with fail
     all_goals
      refine (l01Below_any _ p hC2 _ omT omT).mono ?_
      rintro e w3 ⟨r3, rfl, ⟨hr30, hr31⟩, hC3, hO3⟩
      obtain ⟨r3, rfl⟩ := Int.eq_ofNat_of_zero_le hr30
      have q3 := offq hO3 hne l2 q2
      have l3 := ltL l2 hO3.size
      have hO03 := hO02.trans hO3
      have hn1 := HN1.out
      obtain ⟨j, hj⟩ : ∃ j : Nat, j = n1 - r3 := ⟨_, rfl⟩
      have hw2 : IntKind.i64.wrap ((n1 : Int) - (r3 : Int)) = (j : Int) := by rw [IntWalk.i64_in _ omT]; omega
      have hjl : j < ps.length := by omega
      clear hj q2 hC2 hO02 hO3 hn1
      obtain ⟨bx, ofx, nm, sx, fa, mo, bo, di, hao, hxp, x0, x1, x2, x3, x4, x5, -, -, -, -, -, -, -, -, hbx, -⟩ := (HX.out.keep (offzn hO03 (.inl hp) hh)).per_at (show j < ps.length by omega)
      obtain ⟨bd, ofd, dd, hdo, hdd, d0, -⟩ := (HD.out.keep (offzn hO03 (.inl hp') hh')).int_at (show j < ps.length by omega)
      have HXP := Hd hxp.out
      have HDD := Hd (show D.getD j 0 = dd by rw [List.getD_eq_getElem?_getD, hdd.out]; rfl)
      subst hao
      subst hdo
      have hjI : (j : Int) < (ps.length : Int) := by omega
      clear hxp hdd x0 x2 x3 x4 x5
      by_cases hsx : sx = sex
      ·subst hsx
       by_cases hdl : dd < 10
       ·go_wp2
        go_ret
        exact ⟨_, rfl, Hd (.inr ⟨j, _, _, _, _, _, rfl, HXP.out, by rw [HDD.out]; exact hdl⟩), hC3, hO03⟩
       ·go_wp2
        go_roundw
        case rel => exact ⟨k + 1, by omega, by go_num, q3, l3, hC3, hO03⟩
        case measure => simp [intOf]; omega
      ·have hsb : (sx == sex) = false := by simpa using hsx
       clear hsx
       go_wp2
       go_roundw
       case rel => exact ⟨k + 1, by omega, by go_num, q3, l3, hC3, hO03⟩
       case measure => simp [intOf]; omega
   ·have hnI : ¬ (0 : Int) < (ps.length : Int) := by omega
    go_wp2
    go_ret
    exact ⟨-1, rfl, Hd (.inl rfl), hC, hO⟩
  ·obtain rfl : k = 6 := by omega
   go_wp2
   go_ret
   exact ⟨-1, rfl, Hd (.inl rfl), hC, hO⟩
end
section
def parX (fa mo : Int) : List Int := (if 0 ≤ fa then [fa] else []) ++ (if 0 ≤ mo then [mo] else [])
theorem It.int1 {w0 w : World} (lo : Nat) {x : Int} (h : I64 x) : It true lo lo w [.int .i64 x] x := It.flat (z := true) (w0 := w0) (fp := []) ⟨rfl, h, rfl⟩
theorem cells_one (w : World) (x : Int) (t : TypeId) : ∀ (j : Nat) (c : Value), [Value.int .i64 x][j]? = some c → (w.alloc (.cells #[.int .i64 x] t)).cell? ((⟨w.heap.size, 0, none⟩ : Addr).add j) = some c := by
 intro j c hj
 match j, hj with
 | 0, hj => simp at hj; subst hj; simp [Addr.add]
set_option maxRecDepth 20000 in
theorem l1Parents_any {z : Bool} {lo hi : Nat} (w : World) (v v2 : Value) (ps : List Per) (h : Rd z lo hi w [v] ps) (k : Nat) {nm : ByteArray} {sx fa mo bo di : Int} (hx : ps[k]? = some (nm, sx, fa, mo, bo, di)) :
  Calls Tryz.prog 150 #[.agg #[v, v2], .int .i64 k] w (PostOw w (parX fa mo)) := by
 obtain ⟨ao, n, cap, rfl, hn, -⟩ := h.shape
 subst hn
 have hk := (List.getElem?_eq_some_iff.1 hx).1
 obtain ⟨b, off, nm', sx', fa', mo', bo', di', rfl, hx', x0, x1, x2, x3, x4, x5, -, -, gf, gm, -, -, -, -, hb, -⟩ := h.per_at hk
 have he := hx'.out
 rw [hx] at he
 simp only [Option.some.injEq, Prod.mk.injEq] at he
 obtain ⟨rfl, rfl, rfl, rfl, rfl, rfl⟩ := he
 have hki : (k : Int) < (ps.length : Int) := by omega
 have q0 : ((w.alloc (.cells #[.slice (some ⟨b, off, none⟩) ps.length cap, v2] 37)).alloc (.cells #[] 3)).cell? ⟨w.heap.size, 0, none⟩ = some (.slice (some ⟨b, off, none⟩) ps.length cap) := by
  have : (w.alloc (.cells #[.slice (some ⟨b, off, none⟩) ps.length cap, v2] 37)).cell? ⟨w.heap.size, 0, none⟩ = some (.slice (some ⟨b, off, none⟩) ps.length cap) := by simp [go_sem]
  exact oldc (show Below (w.heap.size + 1) (w.alloc (.cells #[.slice (some ⟨b, off, none⟩) ps.length cap, v2] 37)) _ from bwT) (Nat.lt_succ_self _) this
 have hG0 : GL (α := Int) true (w.heap.size + 1) (w.heap.size + 1) (w.heap.size + 2) ((w.alloc (.cells #[.slice (some ⟨b, off, none⟩) ps.length cap, v2] 37)).alloc (.cells #[] 3)) 3 (.slice (some ⟨w.heap.size + 1, 0, none⟩) 0 0) [] := by
  have := GL.lit0 (α := Int) true (w.heap.size + 1) (w.heap.size + 1) (w.alloc (.cells #[.slice (some ⟨b, off, none⟩) ps.length cap, v2] 37)) 3 spT
  simpa using this.top
 obtain ⟨W0, hW0⟩ : ∃ W0, W0 = ((w.alloc (.cells #[.slice (some ⟨b, off, none⟩) ps.length cap, v2] 37)).alloc (.cells #[] 3)) := ⟨_, rfl⟩
 rw [← hW0] at q0 hG0
 have s0 : W0.heap.size = w.heap.size + 2 := by rw [hW0]; simp
 have hB0 : Below w.heap.size w W0 := by rw [hW0]; exact bwT
 have y2 := oldc hB0 hb x2
 have y3 := oldc hB0 hb x3
 have HG0 := Hd hG0
 clear h hx hx' x0 x1 x4 x5 hG0
 go_enter Tryz.func150, Tryz.ntmps150
 go_upto_region 1 with fail
 go_cut [5] (fun s5 wx => wx = W0 ∧ Hid (GL (α := Int) true (w.heap.size + 1) (w.heap.size + 1) (w.heap.size + 2) W0 3 s5 []))
 case first =>
  go_wp2_with fail
  go_meet
  exact ⟨hW0.symm, HG0⟩
 case rest =>
  obtain ⟨rfl, HG0⟩ := hcut
  have hG0 := HG0.out.top
  obtain ⟨a0, c0, rfl, -, -⟩ := hG0.len
  replace s0 : w.heap.size + 2 ≤ wc.heap.size := Nat.le_of_eq s0.symm
  clear hW0 x2 x3 HG0
  by_cases hfa : 0 ≤ fa
  ·skip
   go_wp2_with (at_builtin; refine wpList_push rfl rfl slInt (by show (0 : Nat) < 1; omega) (hG0.below bwT) rfl (ad := ⟨wc.heap.size, 0, none⟩) rfl (cs := [.int .i64 (fa)]) (y := fa) (lx := wc.heap.size) (hx' := wc.heap.size) (cells_one _ _ _) (It.int1 (w0 := wc) _ gf) ofT (.inl (Nat.le_refl _)) (by unfold maxLen; first | omega | (simp; done) | (simp; omega)) ofT ofT ?_)
   intro v8 w8 hG8 _ hb8
   obtain ⟨a8, c8, rfl, -, -⟩ := hG8.len
   have hp8 : Below (w.heap.size + 1) wc w8 := Below.trans bwT hb8
   have s8 := hp8.size
   clear hb8
   have hB8 : Below w.heap.size w w8 := hB0.trans (hp8.mono omT)
   have q0 := oldc hp8 (Nat.lt_succ_self _) q0
   have y3 := oldc hp8 omT y3
   have hG8 := hG8
   by_cases hmo : 0 ≤ mo
   ·have HX := Hd (show parX fa mo = [fa] ++ [mo] by unfold parX; simp [*])
    go_wp2_with (at_builtin; refine wpList_push rfl rfl slInt (by show (0 : Nat) < 1; omega) (hG8.below bwT) rfl (ad := ⟨w8.heap.size, 0, none⟩) rfl (cs := [.int .i64 (mo)]) (y := mo) (lx := w8.heap.size) (hx' := w8.heap.size) (cells_one _ _ _) (It.int1 (w0 := w8) _ gm) ofT (.inl (Nat.le_refl _)) (by unfold maxLen; first | omega | (simp; done) | (simp; omega)) ofT ofT ?_)
    intro v9 w9 hG9 _ hb9
    obtain ⟨a9, c9, rfl, -, -⟩ := hG9.len
    have hp9 : Below (w.heap.size + 1) w8 w9 := Below.trans bwT hb9
    have s9 := hp9.size
    clear hb9
    have hB9 : Below w.heap.size w w9 := hB8.trans (hp9.mono omT)
    go_wp2
    go_ret
    rw [HX.out]
    exact ⟨_, rfl, hG9.ow omT omT, hB9⟩
   ·have HX := Hd (show parX fa mo = [fa] by unfold parX; simp [*])
    go_wp2
    go_ret
    rw [HX.out]
    exact ⟨_, rfl, (hG8.ow omT omT).mono (Nat.le_refl _) ofT, hB8⟩
  ·skip
   by_cases hmo : 0 ≤ mo
   ·have HX := Hd (show parX fa mo = ([] : List Int) ++ [mo] by unfold parX; simp [*])
    go_wp2_with (at_builtin; refine wpList_push rfl rfl slInt (by show (0 : Nat) < 1; omega) (hG0.below bwT) rfl (ad := ⟨wc.heap.size, 0, none⟩) rfl (cs := [.int .i64 (mo)]) (y := mo) (lx := wc.heap.size) (hx' := wc.heap.size) (cells_one _ _ _) (It.int1 (w0 := wc) _ gm) ofT (.inl (Nat.le_refl _)) (by unfold maxLen; first | omega | (simp; done) | (simp; omega)) ofT ofT ?_)
    intro v9 w9 hG9 _ hb9
    obtain ⟨a9, c9, rfl, -, -⟩ := hG9.len
    have hp9 : Below (w.heap.size + 1) wc w9 := Below.trans bwT hb9
    have s9 := hp9.size
    clear hb9
    have hB9 : Below w.heap.size w w9 := hB0.trans (hp9.mono omT)
    go_wp2
    go_ret
    rw [HX.out]
    exact ⟨_, rfl, hG9.ow omT omT, hB9⟩
   ·have HX := Hd (show parX fa mo = ([] : List Int) by unfold parX; simp [*])
    go_wp2
    go_ret
    rw [HX.out]
    exact ⟨_, rfl, (hG0.ow omT omT).mono (Nat.le_refl _) ofT, hB0⟩
def PostBA (L : List Int) (x : Int) (w : World) (e : Ending) (w' : World) : Prop := ∃ (u : Value) (M : List Int), e = .returned u ∧ Rd true 0 w'.heap.size w' [u] M ∧ Hid ((∀ y ∈ L, y ∈ M) ∧ x ∈ M ∧ ∀ y ∈ M, y ∈ L ∨ y = x) ∧ M.length ≤ L.length + 1 ∧ Below w.heap.size w w'
def baI (L : List Int) (x : Int) (j : Nat) (d : Bool) (O : List Int) : Prop := (∀ y ∈ L.take j, y ∈ O) ∧ (d = true → x ∈ O) ∧ (∀ y ∈ O, y ∈ L ∨ y = x) ∧ O.length = j + (if d = true then 1 else 0)
theorem baI.next {L : List Int} {x y : Int} {j : Nat} {d : Bool} {O : List Int} (h : baI L x j d O) (hy : L[j]? = some y) : baI L x (j + 1) d (O ++ [y]) := by
 obtain ⟨h1, h2, h3, h4⟩ := h
 refine ⟨fun z hz => ?_, fun hd => List.mem_append.2 (.inl (h2 hd)), fun z hz => ?_, by rw [List.length_append, List.length_singleton, h4]; omega⟩
 ·rw [take_snoc hy, List.mem_append] at hz
  exact List.mem_append.2 (hz.imp (h1 z) id)
 ·rcases List.mem_append.1 hz with hz | hz
  ·exact h3 z hz
  ·rw [List.mem_singleton] at hz; subst hz; exact .inl (List.mem_of_getElem? hy)
theorem baI.put {L : List Int} {x : Int} {j : Nat} {O : List Int} (h : baI L x j false O) : baI L x j true (O ++ [x]) := by
 obtain ⟨h1, h2, h3, h4⟩ := h
 refine ⟨fun z hz => List.mem_append.2 (.inl (h1 z hz)), fun _ => by simp, fun z hz => ?_, by rw [List.length_append, List.length_singleton, h4]; simp⟩
 rcases List.mem_append.1 hz with hz | hz
 ·exact h3 z hz
 ·rw [List.mem_singleton] at hz; exact .inr hz
theorem baI.fin {L : List Int} {x : Int} {O : List Int} (h : baI L x L.length true O) : ((∀ y ∈ L, y ∈ O) ∧ x ∈ O ∧ ∀ y ∈ O, y ∈ L ∨ y = x) ∧ O.length ≤ L.length + 1 := by
 obtain ⟨h1, h2, h3, h4⟩ := h
 rw [List.take_length] at h1
 exact ⟨⟨h1, h2 rfl, h3⟩, by rw [h4]; simp⟩
set_option maxRecDepth 20000 in
theorem l1ByAge_any {z z' : Bool} {lo hi lo' hi' : Nat} (w : World) (v v2 vl : Value) (ps : List Per) (h : Rd z lo hi w [v] ps) (L : List Int) (hL : Rd z' lo' hi' w [vl] L) (hin : ∀ y ∈ L, ∃ k : Nat, y = k ∧ k < ps.length) (x : Nat) (hx : x < ps.length) (hl : L.length ≤ 40) (hxI : I64 (x : Int)) :
  Calls Tryz.prog 171 #[.agg #[v, v2], vl, .int .i64 x] w (PostBA L x w) := by
 obtain ⟨ao, n, cap, rfl, hn, -⟩ := h.shape
 subst hn
 obtain ⟨la, ln, lcap, rfl, hln, -⟩ := hL.shape
 subst hln
 have HH := Hd h
 have HL := Hd hL
 have HIN := Hd hin
 have q0 : ((w.alloc (.cells #[.slice ao ps.length cap, v2] 37)).alloc (.cells #[] 3)).cell? ⟨w.heap.size, 0, none⟩ = some (.slice ao ps.length cap) := by
  have : (w.alloc (.cells #[.slice ao ps.length cap, v2] 37)).cell? ⟨w.heap.size, 0, none⟩ = some (.slice ao ps.length cap) := by simp [go_sem]
  exact oldc (show Below (w.heap.size + 1) (w.alloc (.cells #[.slice ao ps.length cap, v2] 37)) _ from bwT) (Nat.lt_succ_self _) this
 have q1 : ((w.alloc (.cells #[.slice ao ps.length cap, v2] 37)).alloc (.cells #[] 3)).cell? ⟨w.heap.size, 1, none⟩ = some v2 := by
  have : (w.alloc (.cells #[.slice ao ps.length cap, v2] 37)).cell? ⟨w.heap.size, 1, none⟩ = some v2 := by simp [go_sem]
  exact oldc (show Below (w.heap.size + 1) (w.alloc (.cells #[.slice ao ps.length cap, v2] 37)) _ from bwT) (Nat.lt_succ_self _) this
 have hG0 : GL (α := Int) true (w.heap.size + 1) (w.heap.size + 1) (w.heap.size + 2) ((w.alloc (.cells #[.slice ao ps.length cap, v2] 37)).alloc (.cells #[] 3)) 3 (.slice (some ⟨w.heap.size + 1, 0, none⟩) 0 0) [] := by
  have := GL.lit0 (α := Int) true (w.heap.size + 1) (w.heap.size + 1) (w.alloc (.cells #[.slice ao ps.length cap, v2] 37)) 3 spT
  simpa using this.top
 obtain ⟨W0, hW0⟩ : ∃ W0, W0 = ((w.alloc (.cells #[.slice ao ps.length cap, v2] 37)).alloc (.cells #[] 3)) := ⟨_, rfl⟩
 rw [← hW0] at q0 q1 hG0
 have s0 : W0.heap.size = w.heap.size + 2 := by rw [hW0]; simp
 have hB0 : Below w.heap.size w W0 := by rw [hW0]; exact bwT
 have HG0 := Hd (show GL (α := Int) true (w.heap.size + 1) (w.heap.size + 1) W0.heap.size W0 3 (.slice (some ⟨w.heap.size + 1, 0, none⟩) 0 0) [] by rw [s0]; exact hG0)
 replace s0 : w.heap.size + 2 ≤ W0.heap.size := Nat.le_of_eq s0.symm
 clear h hL hin hG0
 go_enter Tryz.func171, Tryz.ntmps171
 go_upto_region 2 with fail
 rw [← hW0]
 clear hW0
 go_wp2
 go_loopw [7, 8, 10, 14] (fun s7 s8 _ s14 wl => ∃ (j : Nat) (d : Bool) (O : List Int), j ≤ L.length ∧ s14 = .int .i64 j ∧ s8 = .bool d ∧ Hid (GL true (w.heap.size + 1) (w.heap.size + 1) wl.heap.size wl 3 s7 O) ∧ Hid (baI L x j d O) ∧ Below (w.heap.size + 1) W0 wl) (fun _ _ _ s14 _ => L.length - (intOf s14).toNat)
 case atStart => exact ⟨0, false, [], Nat.zero_le _, rfl, rfl, HG0, Hd ⟨by simp, by simp, by simp, rfl⟩, Below.refl _ _⟩
 case round =>
  clear HG0
  obtain ⟨wl, hwl⟩ : ∃ x : World, x = wr := ⟨_, rfl⟩
  subst hwl
  obtain ⟨j, d, O, hj, rfl, rfl, HG, HI, hBl⟩ := hrel
  obtain ⟨ga, gc, rfl, -, -⟩ := HG.out.len
  have sl := hBl.size
  have hBw : Below w.heap.size w wl := hB0.trans (hBl.mono omT)
  have hOl : O.length ≤ j + 1 := by have := HI.out.2.2.2; rw [this]; split <;> omega
  have q0 := oldc hBl (Nat.lt_succ_self _) q0
  have q1 := oldc hBl (Nat.lt_succ_self _) q1
  by_cases hjl : j < L.length
  ·have hjI : (j : Int) < (L.length : Int) := by omega
   obtain ⟨bl, ofl, y, rfl, hy, y0, gy1, gy2, -, -, lbl, -⟩ := (HL.out.below hBw).int_at hjl
   obtain ⟨yk, rfl, hyk⟩ := HIN.out y (List.mem_of_getElem? hy.out)
   have HY := Hd hy.out
   have gy : I64 (yk : Int) := ⟨gy1, gy2⟩
   clear hy
   cases d
   ·go_wp2_with fail
    refine (l1Elder_any _ _ _ ps (HH.out.below hBw) x yk hx hyk).mono ?_
    rintro e w1 ⟨r, rfl, hb1⟩
    have hp1 : Below wl.heap.size wl w1 := hb1
    have s1 := hp1.size
    have HG1 := Hd ((HG.out.below hp1).top)
    have hB1 : Below (w.heap.size + 1) W0 w1 := hBl.trans (hp1.mono omT)
    clear hb1 HG
    cases r
    ·skip
     go_wp2_with (at_builtin; refine wpList_push rfl rfl slInt (by show (0 : Nat) < 1; omega) (HG1.out.below bwT) rfl (ad := ⟨w1.heap.size, 0, none⟩) rfl (cs := [.int .i64 ((yk : Nat) : Int)]) (y := ((yk : Nat) : Int)) (lx := w1.heap.size) (hx' := w1.heap.size) (cells_one _ _ _) (It.int1 (w0 := w1) _ gy) ofT (.inl (Nat.le_refl _)) (by unfold maxLen; first | omega | (simp; done) | (simp; omega)) ofT ofT ?_)
     intro v2 w2 hG2 _ hb2
     obtain ⟨a2, c2, rfl, -, -⟩ := hG2.len
     have hp2 : Below (w.heap.size + 1) w1 w2 := Below.trans bwT hb2
     have s2 := hp2.size
     have HG2 := Hd hG2
     clear hb2 hG2
     go_wp2
     go_roundw
     case rel => exact ⟨j + 1, false, _, by omega, by go_num, rfl, HG2, Hd (HI.out.next HY.out), hB1.trans hp2⟩
     case measure => simp [intOf]; omega
    ·skip
     go_wp2_with (at_builtin; refine wpList_push rfl rfl slInt (by show (0 : Nat) < 1; omega) (HG1.out.below bwT) rfl (ad := ⟨w1.heap.size, 0, none⟩) rfl (cs := [.int .i64 ((x : Nat) : Int)]) (y := ((x : Nat) : Int)) (lx := w1.heap.size) (hx' := w1.heap.size) (cells_one _ _ _) (It.int1 (w0 := w1) _ hxI) ofT (.inl (Nat.le_refl _)) (by unfold maxLen; first | omega | (simp; done) | (simp; omega)) ofT ofT ?_)
     intro v2 w2 hG2 _ hb2
     obtain ⟨a2, c2, rfl, -, -⟩ := hG2.len
     have hp2 : Below (w.heap.size + 1) w1 w2 := Below.trans bwT hb2
     have s2 := hp2.size
     have HG2 := Hd hG2
     clear hb2 hG2
     go_wp2_with (at_builtin; refine wpList_push rfl rfl slInt (by show (0 : Nat) < 1; omega) (HG2.out.below bwT) rfl (ad := ⟨w2.heap.size, 0, none⟩) rfl (cs := [.int .i64 ((yk : Nat) : Int)]) (y := ((yk : Nat) : Int)) (lx := w2.heap.size) (hx' := w2.heap.size) (cells_one _ _ _) (It.int1 (w0 := w2) _ gy) ofT (.inl (Nat.le_refl _)) (by unfold maxLen; first | omega | (simp; done) | (simp; omega)) ofT ofT ?_)
     intro v3 w3 hG3 _ hb3
     obtain ⟨a3, c3, rfl, -, -⟩ := hG3.len
     have hp3 : Below (w.heap.size + 1) w2 w3 := Below.trans bwT hb3
     have s3 := hp3.size
     have HG3 := Hd hG3
     clear hb3 hG3
     go_wp2
     go_roundw
     case rel => exact ⟨j + 1, true, _, by omega, by go_num, rfl, HG3, Hd (by have := (HI.out.put).next HY.out; simpa using this), (hB1.trans hp2).trans hp3⟩
     case measure => simp [intOf]; omega
   ·skip
    go_wp2_with (at_builtin; refine wpList_push rfl rfl slInt (by show (0 : Nat) < 1; omega) (HG.out.below bwT) rfl (ad := ⟨wl.heap.size, 0, none⟩) rfl (cs := [.int .i64 ((yk : Nat) : Int)]) (y := ((yk : Nat) : Int)) (lx := wl.heap.size) (hx' := wl.heap.size) (cells_one _ _ _) (It.int1 (w0 := wl) _ gy) ofT (.inl (Nat.le_refl _)) (by unfold maxLen; first | omega | (simp; done) | (simp; omega)) ofT ofT ?_)
    intro v2 w2 hG2 _ hb2
    obtain ⟨a2, c2, rfl, -, -⟩ := hG2.len
    have hp2 : Below (w.heap.size + 1) wl w2 := Below.trans bwT hb2
    have s2 := hp2.size
    have HG2 := Hd hG2
    clear hb2 hG2
    go_wp2
    go_roundw
    case rel => exact ⟨j + 1, true, _, by omega, by go_num, rfl, HG2, Hd (HI.out.next HY.out), hBl.trans hp2⟩
    case measure => simp [intOf]; omega
  ·obtain rfl : j = L.length := by omega
   cases d
   ·skip
    go_wp2_with (at_builtin; refine wpList_push rfl rfl slInt (by show (0 : Nat) < 1; omega) (HG.out.below bwT) rfl (ad := ⟨wl.heap.size, 0, none⟩) rfl (cs := [.int .i64 ((x : Nat) : Int)]) (y := ((x : Nat) : Int)) (lx := wl.heap.size) (hx' := wl.heap.size) (cells_one _ _ _) (It.int1 (w0 := wl) _ hxI) ofT (.inl (Nat.le_refl _)) (by unfold maxLen; first | omega | (simp; done) | (simp; omega)) ofT ofT ?_)
    intro v2 w2 hG2 _ hb2
    obtain ⟨a2, c2, rfl, -, -⟩ := hG2.len
    have hp2 : Below (w.heap.size + 1) wl w2 := Below.trans bwT hb2
    have s2 := hp2.size
    have HG2 := Hd hG2
    clear hb2 hG2
    have HF := Hd (HI.out.put).fin
    have hB2 : Below w.heap.size w w2 := hBw.trans (hp2.mono omT)
    go_wp2
    go_ret
    exact ⟨_, _, rfl, (HG2.out.ow (Nat.le_refl _) (Nat.le_refl _)).rd.mono (Nat.zero_le _) (Nat.le_refl _), Hd HF.out.1, HF.out.2, hB2⟩
   ·have HF := Hd HI.out.fin
    go_wp2
    go_ret
    exact ⟨_, _, rfl, (HG.out.ow (Nat.le_refl _) (Nat.le_refl _)).rd.mono (Nat.zero_le _) (Nat.le_refl _), Hd HF.out.1, HF.out.2, hBw⟩
def chI (ps : List Per) (q : Nat) (i : Nat) (O : List Int) : Prop := (∀ x ∈ O, ∃ k : Nat, x = k ∧ k < ps.length) ∧ (∀ (k : Nat) (p : Per), k < i → ps[k]? = some p → (p.2.2.1 = q ∨ p.2.2.2.1 = q) → (k : Int) ∈ O) ∧ O.length ≤ i
theorem chI.no {ps : List Per} {q i : Nat} {O : List Int} (h : chI ps q i O) {p : Per} (hp : ps[i]? = some p) (h1 : ¬ p.2.2.1 = q) (h2 : ¬ p.2.2.2.1 = q) : chI ps q (i + 1) O := by
 refine ⟨h.1, fun k r hk hr hq => ?_, by have := h.2.2; omega⟩
 by_cases e : k = i
 ·subst e; rw [hp] at hr; obtain rfl := Option.some.inj hr; exact (hq.elim h1 h2).elim
 ·exact h.2.1 k r omT hr hq
theorem chI.yes {ps : List Per} {q i : Nat} {O M : List Int} (h : chI ps q i O) (hi : i < ps.length) (h1 : ∀ y ∈ O, y ∈ M) (h2 : (i : Int) ∈ M) (h3 : ∀ y ∈ M, y ∈ O ∨ y = (i : Int)) (h4 : M.length ≤ O.length + 1) : chI ps q (i + 1) M := by
 refine ⟨fun x hx => ?_, fun k r hk hr hq => ?_, by have := h.2.2; omega⟩
 ·rcases h3 x hx with hx | rfl
  ·exact h.1 x hx
  ·exact ⟨i, rfl, hi⟩
 ·by_cases e : k = i
  ·subst e; exact h2
  ·exact h1 _ (h.2.1 k r omT hr hq)
def PostCh (ps : List Per) (q : Nat) (w : World) (e : Ending) (w' : World) : Prop := ∃ (u : Value) (M : List Int), e = .returned u ∧ Rd true 0 w'.heap.size w' [u] M ∧ Hid (chI ps q ps.length M) ∧ Below w.heap.size w w'
set_option maxRecDepth 20000 in
theorem l1Children_any {z : Bool} {lo hi : Nat} (w : World) (v v2 : Value) (ps : List Per) (h : Rd z lo hi w [v] ps) (hl : ps.length ≤ 40) (q : Nat) :
  Calls Tryz.prog 151 #[.agg #[v, v2], .int .i64 q] w (PostCh ps q w) := by
 obtain ⟨ao, n, cap, rfl, hn, -⟩ := h.shape
 subst hn
 have HH := Hd h
 have q0 : ((w.alloc (.cells #[.slice ao ps.length cap, v2] 37)).alloc (.cells #[] 3)).cell? ⟨w.heap.size, 0, none⟩ = some (.slice ao ps.length cap) := by
  have : (w.alloc (.cells #[.slice ao ps.length cap, v2] 37)).cell? ⟨w.heap.size, 0, none⟩ = some (.slice ao ps.length cap) := by simp [go_sem]
  exact oldc (show Below (w.heap.size + 1) (w.alloc (.cells #[.slice ao ps.length cap, v2] 37)) _ from bwT) (Nat.lt_succ_self _) this
 have q1 : ((w.alloc (.cells #[.slice ao ps.length cap, v2] 37)).alloc (.cells #[] 3)).cell? ⟨w.heap.size, 1, none⟩ = some v2 := by
  have : (w.alloc (.cells #[.slice ao ps.length cap, v2] 37)).cell? ⟨w.heap.size, 1, none⟩ = some v2 := by simp [go_sem]
  exact oldc (show Below (w.heap.size + 1) (w.alloc (.cells #[.slice ao ps.length cap, v2] 37)) _ from bwT) (Nat.lt_succ_self _) this
 have hG0 : GL (α := Int) true (w.heap.size + 1) (w.heap.size + 1) (w.heap.size + 2) ((w.alloc (.cells #[.slice ao ps.length cap, v2] 37)).alloc (.cells #[] 3)) 3 (.slice (some ⟨w.heap.size + 1, 0, none⟩) 0 0) [] := by
  have := GL.lit0 (α := Int) true (w.heap.size + 1) (w.heap.size + 1) (w.alloc (.cells #[.slice ao ps.length cap, v2] 37)) 3 spT
  simpa using this.top
 obtain ⟨W0, hW0⟩ : ∃ W0, W0 = ((w.alloc (.cells #[.slice ao ps.length cap, v2] 37)).alloc (.cells #[] 3)) := ⟨_, rfl⟩
 rw [← hW0] at q0 q1 hG0
 have s0 : W0.heap.size = w.heap.size + 2 := by rw [hW0]; simp
 have hB0 : Below w.heap.size w W0 := by rw [hW0]; exact bwT
 have HG0 := Hd (show Rd true 0 W0.heap.size W0 [.slice (some ⟨w.heap.size + 1, 0, none⟩) 0 0] ([] : List Int) by rw [s0]; exact (hG0.ow (Nat.le_refl _) (Nat.le_refl _)).rd.mono (Nat.zero_le _) (Nat.le_refl _))
 replace s0 : w.heap.size + 2 ≤ W0.heap.size := Nat.le_of_eq s0.symm
 clear h hG0
 go_enter Tryz.func151, Tryz.ntmps151
 go_upto_region 2 with fail
 rw [← hW0]
 clear hW0
 go_wp2
 go_loopw [5, 6, 7, 12] (fun s5 _ _ s12 wl => ∃ (i : Nat) (O : List Int), i ≤ ps.length ∧ s12 = .int .i64 i ∧ Hid (Rd true 0 wl.heap.size wl [s5] O) ∧ Hid (chI ps q i O) ∧ Below (w.heap.size + 1) W0 wl) (fun _ _ _ s12 _ => ps.length - (intOf s12).toNat)
 case atStart => exact ⟨0, [], Nat.zero_le _, rfl, HG0, Hd ⟨by simp, by simp, by simp⟩, Below.refl _ _⟩
 case round =>
  clear HG0
  obtain ⟨wl, hwl⟩ : ∃ x : World, x = wr := ⟨_, rfl⟩
  subst hwl
  obtain ⟨i, O, hi, rfl, HO, HI, hBl⟩ := hrel
  obtain ⟨oa, on, ocap, rfl, hon, -⟩ := HO.out.shape
  subst hon
  have sl := hBl.size
  have hBw : Below w.heap.size w wl := hB0.trans (hBl.mono omT)
  have q0 := oldc hBl (Nat.lt_succ_self _) q0
  have q1 := oldc hBl (Nat.lt_succ_self _) q1
  by_cases hil : i < ps.length
  ·have hiI : (i : Int) < (ps.length : Int) := by omega
   obtain ⟨b, off, nm, sx, fa, mo, bo, di, rfl, hx, x0, x1, x2, x3, x4, x5, -, -, -, -, -, -, -, -, hb, -⟩ := (HH.out.below hBw).per_at hil
   have HX := Hd hx.out
   clear hx
   obtain ⟨WA, hWA⟩ : ∃ W : World, W = wl.alloc (.cells #[.string nm, .int .i64 sx, .int .i64 fa, .int .i64 mo, .int .i64 bo, .int .i64 di] 100) := ⟨_, rfl⟩
   have hbA : Below wl.heap.size wl WA := by rw [hWA]; exact (Below.refl _ _).alloc (Nat.le_refl _) _
   have a2 : WA.cell? ⟨wl.heap.size, 2, none⟩ = some (.int .i64 fa) := by rw [hWA]; simp [go_sem]
   have a3 : WA.cell? ⟨wl.heap.size, 3, none⟩ = some (.int .i64 mo) := by rw [hWA]; simp [go_sem]
   have sA : wl.heap.size < WA.heap.size := by rw [hWA]; simp
   have hBA : Below (w.heap.size + 1) W0 WA := hBl.trans (hbA.mono omT)
   have hBwA : Below w.heap.size w WA := hBw.trans (hbA.mono omT)
   have HOA := Hd ((HO.out.below hbA).mono (Nat.le_refl _) hbA.size)
   go_upto_region 5 with fail
   rw [← hWA]
   have q0 := oldc (show Below (w.heap.size + 1) wl WA from hbA.mono omT) (Nat.lt_succ_self _) q0
   have q1 := oldc (show Below (w.heap.size + 1) wl WA from hbA.mono omT) (Nat.lt_succ_self _) q1
   clear hWA x0 x1 x2 x3 x4 x5 HO
   by_cases h1 : fa = (q : Int)
   ·have e1 : (fa == (q : Int)) = true := by simpa using h1
    clear h1
    go_wp2_with fail
    refine (l1ByAge_any _ _ _ _ ps (HH.out.below hBwA) O HOA.out HI.out.1 i hil (by have := HI.out.2.2; omega) (by unfold I64; omega)).mono ?_
    rintro e w1 ⟨u, M, rfl, hM, hm, hml, hb1⟩
    have hp1 : Below WA.heap.size WA w1 := hb1
    have HM := Hd hM
    have HI2 := Hd (HI.out.yes hil hm.out.1 hm.out.2.1 hm.out.2.2 hml)
    have hB1 := hBA.trans (hp1.mono omT)
    clear hM hm hml hb1
    go_wp2
    go_roundw
    case rel => exact ⟨i + 1, M, by omega, by go_num, HM, HI2, hB1⟩
    case measure => simp [intOf]; omega
   ·have e1 : (fa == (q : Int)) = false := by simpa using h1
    by_cases h2 : mo = (q : Int)
    ·have e2 : (mo == (q : Int)) = true := by simpa using h2
     clear h1 h2
     go_wp2_with fail
     refine (l1ByAge_any _ _ _ _ ps (HH.out.below hBwA) O HOA.out HI.out.1 i hil (by have := HI.out.2.2; omega) (by unfold I64; omega)).mono ?_
     rintro e w1 ⟨u, M, rfl, hM, hm, hml, hb1⟩
     have hp1 : Below WA.heap.size WA w1 := hb1
     have HM := Hd hM
     have HI2 := Hd (HI.out.yes hil hm.out.1 hm.out.2.1 hm.out.2.2 hml)
     have hB1 := hBA.trans (hp1.mono omT)
     clear hM hm hml hb1
     go_wp2
     go_roundw
     case rel => exact ⟨i + 1, M, by omega, by go_num, HM, HI2, hB1⟩
     case measure => simp [intOf]; omega
    ·have e2 : (mo == (q : Int)) = false := by simpa using h2
     have HI2 := Hd (HI.out.no HX.out h1 h2)
     clear h1 h2
     go_wp2
     go_roundw
     case rel => exact ⟨i + 1, O, by omega, by go_num, HOA, HI2, hBA⟩
     case measure => simp [intOf]; omega
  ·obtain rfl : i = ps.length := by omega
   go_wp2
   go_ret
   exact ⟨_, O, rfl, HO.out, HI, hBw⟩
end
section
def GX {α : Type} [Rep α] (S : Nat → Prop) (w : World) (E : TypeId) (v : Value) (xs : List α) : Prop :=
 ∃ css fps, w.ownsRow 0 E (Rep.sz α) v xs.length css.flatten ∧ Zip (Rep.rep true w) css xs fps ∧ (∀ b ∈ fps.flatten, S b ∧ some b ≠ v.ownBlock) ∧ (∀ g, v.ownBlock = some g → S g) ∧ fps.flatten.Nodup
section
variable {α : Type} [Rep α] {S : Nat → Prop} {w w' : World} {E : TypeId} {v : Value} {xs : List α}
theorem GX.lt (h : GX S w E v xs) {b : Nat} (e : v.ownBlock = some b) : b < w.heap.size ∧ S b := by
 obtain ⟨css, fps, ho, hz, hf, hg, hn⟩ := h
 exact ⟨(ho.lt b e).2, hg b e⟩
theorem GX.keep (h : GX S w E v xs) (k : ∀ b, b < w.heap.size → S b → w'.heap[b]? = w.heap[b]?) : GX S w' E v xs := by
 obtain ⟨css, fps, ho, hz, hf, hg, hn⟩ := h
 refine ⟨css, fps, ⟨ho.1, ?_⟩, hz.keep (fun b hb => k b (hz.lt b hb) (hf b hb).1), hf, hg, hn⟩
 rcases ho.2 with h | ⟨g, cap, cur, rfl, hb, hh, r⟩
 ·exact .inl h
 ·exact .inr ⟨g, cap, cur, rfl, hb, by rw [k g (ho.lt g rfl).2 (hg g rfl)]; exact hh, r⟩
theorem GX.below (h : GX S w E v xs) (hb : Below w.heap.size w w') : GX S w' E v xs := h.keep fun b hl _ => hb.block b hl
theorem GX.alloc (h : GX S w E v xs) (o : Obj) : GX S (w.alloc o) E v xs := h.below ((Below.refl _ _).alloc (Nat.le_refl _) o)
theorem GX.mono {S' : Nat → Prop} (h : GX S w E v xs) (k : ∀ b, b < w.heap.size → S b → S' b) : GX S' w E v xs := by
 obtain ⟨css, fps, ho, hz, hf, hg, hn⟩ := h
 exact ⟨css, fps, ho, hz, fun b hb => ⟨k b (hz.lt b hb) (hf b hb).1, (hf b hb).2⟩, fun g e => k g (ho.lt g e).2 (hg g e), hn⟩
theorem GX.len (h : GX S w E v xs) : ∃ ao cap, v = .slice ao xs.length cap ∧ xs.length ≤ cap ∧ cap ≤ maxLen := by
 obtain ⟨css, fps, ho, hz, hf, hg, hn⟩ := h
 rcases ho.2 with ⟨rfl, h⟩ | ⟨g, cap, cur, rfl, hbb, hh, h1, h2, r⟩
 ·rw [h]; exact ⟨none, 0, rfl, Nat.le_refl _, by simp [maxLen]⟩
 ·exact ⟨_, cap, rfl, h1, h2⟩
theorem GX.ow (h : GX S w E v xs) {lo hi : Nat} (k : ∀ b, b < w.heap.size → S b → lo ≤ b ∧ b < hi) : Ow lo hi w [v] xs := by
 obtain ⟨css, fps, ho, hz, hf, hg, hn⟩ := h
 rcases ho.2 with ⟨rfl, h⟩ | ⟨g, cap, cur, rfl, hbb, hh, h3, h4, h5, h6⟩
 ·exact ⟨[], ⟨_, rfl, none, 0, 0, rfl, h, Nat.le_refl _, by simp [maxLen], fun _ => rfl, .inl ⟨rfl, rfl⟩⟩, (fun _ h => by cases h), List.nodup_nil⟩
 ·refine ⟨g :: fps.flatten, ⟨_, rfl, some ⟨g, 0, none⟩, xs.length, cap, rfl, rfl, h3, h4, (fun h => by cases h), .inr ⟨g, 0, css, fps, rfl, (ho.lt g rfl).2, rfl, hz, ?_, ?_⟩⟩, ?_, List.nodup_cons.2 ⟨fun hm => (hf g hm).2 rfl, hn⟩⟩
  ·intro j c hj
   have := ho.cells (g := g) rfl j c hj
   by_cases hj0 : j = 0
   ·subst hj0; simpa [Addr.add] using this
   ·simpa [Addr.add, hj0] using this
  ·intro _ o
   simp [World.frozen?, hh]
  ·intro b hb
   rcases List.mem_cons.1 hb with rfl | hb
   ·exact k b (ho.lt b rfl).2 (hg b rfl)
   ·exact k b (hz.lt b hb) (hf b hb).1
theorem GX.rd (h : GX S w E v xs) : Rd true 0 w.heap.size w [v] xs := (h.ow (lo := 0) (hi := w.heap.size) fun b h1 _ => ⟨Nat.zero_le _, h1⟩).rd
theorem GX.lit1 (S : Nat → Prop) (w : World) (E : TypeId) {u : Value} {y : α} {lo hi : Nat} (hy : Ow lo hi w [u] y) (hS : ∀ b, lo ≤ b → b < hi → S b) (hw : S w.heap.size) : GX S (w.alloc (.cells #[u] E)) E (.slice (some ⟨w.heap.size, 0, none⟩) 1 1) [y] := by
 obtain ⟨fp, h1, h2, h3⟩ := hy
 have hs' : 1 = Rep.sz α := Rep.len h1
 refine ⟨[[u]], [fp], ?_, ⟨Rep.keep h1 fun b hb => Below.heap_alloc w _ b (Rep.lt h1 b hb), trivial⟩, ?_, ?_, by simpa using h3⟩
 ·exact ⟨by simp [← hs'], .inr ⟨w.heap.size, 1, #[u], rfl, Nat.zero_le _, heap_alloc_new w _, Nat.le_refl _, by simp [maxLen], by simp [← hs'], by simp [← hs']⟩⟩
 ·intro b hb
  have hb2 : b ∈ fp := by simpa using hb
  exact ⟨hS b (h2 b hb2).1 (h2 b hb2).2, by simp [Value.ownBlock]; have := Rep.lt h1 b hb2; omega⟩
 ·intro g e
  simp [Value.ownBlock] at e
  subst e; exact hw
end
section
variable {P : Program} {α : Type} [Rep α] {S : Nat → Prop} {w : World} {E : TypeId} {v : Value} {xs : List α}
theorem wpList_push_x {ops : Array Oper} {rest : List Oper} {o : Oper} {a : Act} {Q : Exit → Act → World → Prop} (hgd : o.guard = none) {s x : Operand} {t : TypeId}
  (ho : o.op = .call { callee := .builtin .append, args := #[s, x], argTypes := #[t, t] })
  {z0 : Value} {bytes : Nat} (hT : SlTy P t E z0 (Rep.sz α) bytes) (hsz : 0 < Rep.sz α) (hs : a.eval s = v)
  {ad : Addr} {c : Nat} (hx : a.eval x = .slice (some ad) 1 c) {cs : List Value} {y : α} {lx hx' : Nat} (hcells : ∀ j u, cs[j]? = some u → w.cell? (ad.add j) = some u)
  {w0 : World} (hG0 : GX S w0 E v xs) (hw0 : w0.heap.size ≤ lx) (hk0 : ∀ b, b < w0.heap.size → S b → w.heap[b]? = w0.heap[b]?)
  (hy : Ow lx hx' w cs y) (hSy : ∀ b, lx ≤ b → b < hx' → S b) (hSw : S w.heap.size) (h63 : xs.length + 1 ≤ maxLen) (hbytes : (xs.length + 1) * bytes ≤ 140737488355328)
  (h : ∀ v' w', GX S w' E v' (xs ++ [y]) → w.grownBy w' v.ownBlock → (v'.ownBlock = v.ownBlock ∨ v'.ownBlock = some w.heap.size) → wpList P ops Q rest (a.put o.dst v') w') : wpList P ops Q (o :: rest) a w := by
 obtain ⟨css, fps, ho1, hz1, hf, hg, hn⟩ := hG0
 obtain ⟨fp, hr, hz, hnd⟩ := hy
 have hown : w.ownsRow 0 E (Rep.sz α) v xs.length css.flatten := by
  refine ⟨ho1.1, ?_⟩
  rcases ho1.2 with h | ⟨g, cap, cur, rfl, hb, hh, r⟩
  ·exact .inl h
  ·exact .inr ⟨g, cap, cur, rfl, hb, by rw [hk0 g (ho1.lt g rfl).2 (hg g rfl)]; exact hh, r⟩
 have hzw : Zip (Rep.rep true w) css xs fps := hz1.keep fun b hb => hk0 b (hz1.lt b hb) (hf b hb).1
 have hlen : cs.length = 1 * Rep.sz α := by rw [Nat.one_mul]; exact Rep.len hr
 obtain ⟨v', w', hrun, ho', hgr, hv⟩ := run_app (P := P) w (t := t) (ty := o.type) hT hsz hown (ao := some ad) (m := 1) (c := c) hlen (fun h => by cases h) (fun a e => by simp only [Option.some.injEq] at e; subst e; exact hcells) (Rep.one hr) h63 hbytes (Nat.zero_le _)
 have hne1 : ∀ b ∈ fp, some b ≠ v.ownBlock := fun b hb e => by have := (ho1.lt b e.symm).2; have := (hz b hb).1; omega
 have hlt : ∀ b ∈ (fps ++ [fp]).flatten, b < w.heap.size ∧ some b ≠ v.ownBlock ∧ S b := by
  intro b hb
  simp only [List.flatten_append, List.mem_append, List.flatten_cons, List.flatten_nil, List.append_nil] at hb
  rcases hb with hb | hb
  ·exact ⟨hzw.lt b hb, (hf b hb).2, (hf b hb).1⟩
  ·exact ⟨Rep.lt hr b hb, hne1 b hb, hSy b (hz b hb).1 (hz b hb).2⟩
 refine wpList_plain hgd fun K hK => ?_
 unfold Oper.wp execOp
 simp only [ho, resolve, invoke, builtin, Sem.run_bind, Sem.run_pure, Result.andThen_ok, List.map_toArray, List.map_cons, List.map_nil, hs, hx]
 rw [hrun]
 refine hK _ _ (h v' w' ⟨css ++ [cs], fps ++ [fp], ?_, ?_, fun b hb => ⟨(hlt b hb).2.2, fun e => ?_⟩, fun g e => ?_, ?_⟩ hgr hv)
 ·rw [List.length_append, List.flatten_append]; simpa using ho'
 ·exact (hzw.snoc hr).keep fun b hb => hgr.block b (hlt b hb).1 (hlt b hb).2.1
 ·rcases hv with hv | hv
  ·exact (hlt b hb).2.1 (by rw [← hv]; exact e)
  ·rw [hv] at e; have := (hlt b hb).1; simp at e; omega
 ·rcases hv with hv | hv
  ·exact hg g (hv.symm.trans e)
  ·rw [hv] at e; simp at e; subst e; exact hSw
 ·rw [List.flatten_append]
  refine nodup_app hn (by simpa using hnd) fun x h1 h2 => ?_
  have h2 : x ∈ fp := by simpa using h2
  have := hz1.lt x h1
  have := (hz x h2).1
  omega
end
end
section
theorem keep_set {W : World} {Q j : Nat} {u : Value} : ∀ b, b ≠ Q → (W.setCell ⟨Q, j, none⟩ u).heap[b]? = W.heap[b]? := fun b h => Below.heap_setCell W ⟨Q, j, none⟩ u b (by first | exact h | exact Ne.symm h)
theorem cell_far {W W' : World} {b o : Nat} {v : Value} (h : W'.heap[b]? = W.heap[b]?) (hv : W.cell? ⟨b, o, none⟩ = some v) : W'.cell? ⟨b, o, none⟩ = some v := (World.cell?_of_block (a := ⟨b, o, none⟩) h).trans hv
theorem frz_far {W W' : World} {b : Nat} (h : W'.heap[b]? = W.heap[b]?) (hv : ∀ o, W.frozen? ⟨b, o, none⟩ = false) : ∀ o, W'.frozen? ⟨b, o, none⟩ = false := fun o => (World.frozen?_of_block (a := ⟨b, o, none⟩) h).trans (hv o)
structure FamBox (p R F Q : Nat) (w0 : World) (ps : List Per) (v : Value) (W : World) : Prop where
 q0 : W.cell? ⟨F, 0, none⟩ = some v
 q1 : W.cell? ⟨F, 1, none⟩ = some (.slice none 0 0)
 fF : ∀ o, W.frozen? ⟨F, o, none⟩ = false
 r0 : W.cell? ⟨R, 0, none⟩ = some (.slice none 0 0)
 r1 : W.cell? ⟨R, 1, none⟩ = some (.slice none 0 0)
 fR : ∀ o, W.frozen? ⟨R, o, none⟩ = false
 own : GX (fun b => F < b ∧ b ≠ Q) W 100 v ps
 cur : CurOk p W
 off : OffF [p] w0 W
 lF : F < W.heap.size
 pR : p < R
 RF : R < F
 h0 : w0.heap.size ≤ R
theorem FamBox.drew {p R F Q : Nat} {w0 W W' : World} {ps : List Per} {v : Value} (h : FamBox p R F Q w0 ps v W) (hO : OffF [p] W W') (hC : CurOk p W') : FamBox p R F Q w0 ps v W' := by
 have h1 := h.pR
 have h2 := h.RF
 have h3 := h.lF
 exact ⟨offq hO omT h3 h.q0, offq hO omT h3 h.q1, offfr hO omT h3 h.fF, offq hO omT omT h.r0, offq hO omT omT h.r1, offfr hO omT omT h.fR,
  h.own.keep (fun b hl hS => hO.block b hl soT), hC, h.off.trans hO, ltL h3 hO.size, h1, h2, h.h0⟩
theorem FamBox.grow {p R F Q : Nat} {w0 W W' : World} {ps : List Per} {v : Value} (h : FamBox p R F Q w0 ps v W) (hb : Below W.heap.size W W') : FamBox p R F Q w0 ps v W' := h.drew (OffF.below (OffF.refl [p] W) hb) (h.cur.grow hb)
theorem FamBox.opens {p R F : Nat} {w0 W : World} {ps : List Per} {v : Value} (h : FamBox p R F 0 w0 ps v W) (o : Obj) : FamBox p R F W.heap.size w0 ps v (W.alloc o) := by
 have g := h.grow ((Below.refl W.heap.size W).alloc (Nat.le_refl _) o)
 exact { g with own := (h.own.mono (S' := fun b => F < b ∧ b ≠ W.heap.size) (fun b hl hS => ⟨hS.1, by omega⟩)).alloc o }
theorem FamBox.shuts {p R F Q : Nat} {w0 W : World} {ps : List Per} {v : Value} (h : FamBox p R F Q w0 ps v W) : FamBox p R F 0 w0 ps v W :=
 { h with own := h.own.mono (fun b _ hS => ⟨hS.1, by omega⟩) }
theorem FamBox.far {p R F Q : Nat} {w0 W W' : World} {ps : List Per} {v : Value} (h : FamBox p R F Q w0 ps v W) (hQ : F < Q) (hB : Below Q W W') (hk : ∀ b, b ≠ Q → W'.heap[b]? = W.heap[b]? ∨ W.heap.size ≤ b) : FamBox p R F Q w0 ps v W' := by
 have h1 := h.pR
 have h2 := h.RF
 have h3 := h.lF
 have h4 := h.h0
 have k : ∀ b, b ≠ Q → b < W.heap.size → W'.heap[b]? = W.heap[b]? := fun b hb hl => (hk b hb).resolve_right omT
 exact ⟨cell_far (k F omT h3) h.q0, cell_far (k F omT h3) h.q1, frz_far (k F omT h3) h.fF, cell_far (k R omT omT) h.r0, cell_far (k R omT omT) h.r1, frz_far (k R omT omT) h.fR,
  h.own.keep (fun b hl hS => k b hS.2 hl), h.cur.below (hB.mono omT), h.off.belowA (hB.mono omT), ltL h3 hB.size, h1, h2, h4⟩
theorem FamBox.setQ {p R F Q : Nat} {w0 W : World} {ps : List Per} {v : Value} (h : FamBox p R F Q w0 ps v W) (hQ : F < Q) (j : Nat) (u : Value) : FamBox p R F Q w0 ps v (W.setCell ⟨Q, j, none⟩ u) :=
 h.far hQ bwT (fun b hb => .inl (keep_set b hb))
structure QB (Q : Nat) (nm : ByteArray) (sx fa mo bo : Int) (W : World) : Prop where
 c0 : W.cell? ⟨Q, 0, none⟩ = some (.string nm)
 c1 : W.cell? ⟨Q, 1, none⟩ = some (.int .i64 sx)
 c2 : W.cell? ⟨Q, 2, none⟩ = some (.int .i64 fa)
 c3 : W.cell? ⟨Q, 3, none⟩ = some (.int .i64 mo)
 c4 : W.cell? ⟨Q, 4, none⟩ = some (.int .i64 bo)
 c5 : W.cell? ⟨Q, 5, none⟩ = some (.int .i64 (-1))
 fQ : ∀ o, W.frozen? ⟨Q, o, none⟩ = false
 lQ : Q < W.heap.size
theorem QB.far {Q : Nat} {nm : ByteArray} {sx fa mo bo : Int} {W W' : World} (h : QB Q nm sx fa mo bo W) (hk : W'.heap[Q]? = W.heap[Q]?) (hs : W.heap.size ≤ W'.heap.size) : QB Q nm sx fa mo bo W' :=
 ⟨cell_far hk h.c0, cell_far hk h.c1, cell_far hk h.c2, cell_far hk h.c3, cell_far hk h.c4, cell_far hk h.c5, frz_far hk h.fQ, ltL h.lQ hs⟩
theorem QB.drew {p Q : Nat} {nm : ByteArray} {sx fa mo bo : Int} {W W' : World} (h : QB Q nm sx fa mo bo W) (hO : OffF [p] W W') (hp : Q ≠ p) : QB Q nm sx fa mo bo W' := h.far (hO.block Q h.lQ (by simpa using hp)) hO.size
theorem QB.grow {Q : Nat} {nm : ByteArray} {sx fa mo bo : Int} {W W' : World} (h : QB Q nm sx fa mo bo W) (hb : Below W.heap.size W W') : QB Q nm sx fa mo bo W' := h.far (hb.block Q h.lQ) hb.size
theorem QB.new (W : World) (nm : ByteArray) (sx fa mo bo : Int) (t : TypeId) : QB W.heap.size nm sx fa mo bo (W.alloc (.cells #[.string nm, .int .i64 sx, .int .i64 fa, .int .i64 mo, .int .i64 bo, .int .i64 (-1)] t)) := by
 constructor <;> simp [go_sem]
theorem QB.put2 {Q : Nat} {nm : ByteArray} {sx fa mo bo : Int} {W : World} (h : QB Q nm sx fa mo bo W) (x : Int) : QB Q nm sx x mo bo (W.setCell ⟨Q, 2, none⟩ (.int .i64 x)) :=
 ⟨cell_there h.c0 omT, cell_there h.c1 omT, cell_here h.c2, cell_there h.c3 omT, cell_there h.c4 omT, cell_there h.c5 omT, fun o => frozen_setCell _ _ _ _ _ (h.fQ o), by simp; exact h.lQ⟩
theorem QB.put3 {Q : Nat} {nm : ByteArray} {sx fa mo bo : Int} {W : World} (h : QB Q nm sx fa mo bo W) (x : Int) : QB Q nm sx fa x bo (W.setCell ⟨Q, 3, none⟩ (.int .i64 x)) :=
 ⟨cell_there h.c0 omT, cell_there h.c1 omT, cell_there h.c2 omT, cell_here h.c3, cell_there h.c4 omT, cell_there h.c5 omT, fun o => frozen_setCell _ _ _ _ _ (h.fQ o), by simp; exact h.lQ⟩
theorem QB.put4 {Q : Nat} {nm : ByteArray} {sx fa mo bo : Int} {W : World} (h : QB Q nm sx fa mo bo W) (x : Int) : QB Q nm sx fa mo x (W.setCell ⟨Q, 4, none⟩ (.int .i64 x)) :=
 ⟨cell_there h.c0 omT, cell_there h.c1 omT, cell_there h.c2 omT, cell_there h.c3 omT, cell_here h.c4, cell_there h.c5 omT, fun o => frozen_setCell _ _ _ _ _ (h.fQ o), by simp; exact h.lQ⟩
theorem Ow.per1 (w : World) (E : TypeId) {nm : ByteArray} {sx fa mo bo di : Int} (h0 : nm.size ≤ maxLen) (h1 : I64 sx) (h2 : I64 fa) (h3 : I64 mo) (h4 : I64 bo) (h5 : I64 di) :
  Ow w.heap.size (w.heap.size + 1) (w.alloc (.cells #[.string nm, .int .i64 sx, .int .i64 fa, .int .i64 mo, .int .i64 bo, .int .i64 di] E)) [.slice (some ⟨w.heap.size, 0, none⟩) 1 1] ([(nm, sx, fa, mo, bo, di)] : List Per) := by
 refine ⟨[w.heap.size], ⟨_, rfl, _, _, _, rfl, rfl, Nat.le_refl _, by simp [maxLen], (fun h => by cases h), .inr ⟨w.heap.size, 0, [[.string nm, .int .i64 sx, .int .i64 fa, .int .i64 mo, .int .i64 bo, .int .i64 di]], [[]], rfl, by simp, by simp, ⟨repPer_mk h0 h1 h2 h3 h4 h5, trivial⟩, ?_, ?_⟩⟩, fun b hb => by simp at hb; omega, by simp⟩
 ·intro j c hj
  simp only [Nat.zero_add]
  rw [World.cell?_alloc_new]
  simpa using hj
 ·intro _ o
  simp [go_sem]
theorem cells_per (w : World) (nm : ByteArray) (sx fa mo bo di : Int) (t : TypeId) : ∀ (j : Nat) (c : Value), [Value.string nm, .int .i64 sx, .int .i64 fa, .int .i64 mo, .int .i64 bo, .int .i64 di][j]? = some c → (w.alloc (.cells #[.string nm, .int .i64 sx, .int .i64 fa, .int .i64 mo, .int .i64 bo, .int .i64 di] t)).cell? ((⟨w.heap.size, 0, none⟩ : Addr).add j) = some c := by
 intro j c hj
 match j, hj with
 | 0, hj => simp at hj; subst hj; simp [Addr.add, go_sem]
 | 1, hj => simp at hj; subst hj; simp [Addr.add, go_sem]
 | 2, hj => simp at hj; subst hj; simp [Addr.add, go_sem]
 | 3, hj => simp at hj; subst hj; simp [Addr.add, go_sem]
 | 4, hj => simp at hj; subst hj; simp [Addr.add, go_sem]
 | 5, hj => simp at hj; subst hj; simp [Addr.add, go_sem]
theorem FamBox.push {p R F Q : Nat} {w0 W W' : World} {ps : List Per} {x : Per} {v v' : Value} (h : FamBox p R F Q w0 ps v W) (hQ : F < Q) (hx : GX (fun b => F < b ∧ b ≠ Q) W' 100 v' (ps ++ [x])) (hg : W.grownBy W' v.ownBlock) : FamBox p R F Q w0 (ps ++ [x]) v' (W'.setCell ⟨F, 0, none⟩ v') := by
 have h1 := h.pR
 have h2 := h.RF
 have h3 := h.lF
 have h4 := h.h0
 have hz := hg.size
 have kk : ∀ b, b ≤ F → W'.heap[b]? = W.heap[b]? := fun b hb => hg.block b omT (fun e => by have := (h.own.lt e.symm).2.1; omega)
 have hB : Below F W (W'.setCell ⟨F, 0, none⟩ v') := by
  refine ⟨?_, ?_, ?_, ?_, ?_⟩
  ·exact hg.os
  ·exact hg.tape
  ·exact hg.output
  ·simp; exact hz
  ·intro b hb; rw [keep_set b omT]; exact kk b omT
 have c0 : W'.cell? ⟨F, 0, none⟩ = some v := cell_far (kk F (Nat.le_refl _)) h.q0
 have c1 : W'.cell? ⟨F, 1, none⟩ = some (.slice none 0 0) := cell_far (kk F (Nat.le_refl _)) h.q1
 exact ⟨cell_here c0, cell_there c1 omT, fun o => frozen_setCell _ _ _ _ _ (frz_far (kk F (Nat.le_refl _)) h.fF o), oldc hB omT h.r0, oldc hB omT h.r1, fun o => (hB.frozen (p := ⟨R, o, none⟩) (by show R < F; omega)).trans (h.fR o),
  hx.keep (fun b _ hS => keep_set b omT), h.cur.below (hB.mono omT), h.off.belowA (hB.mono omT), by simp; omega, h1, h2, h4⟩
end
section
def PostFam (p most : Nat) (w : World) (e : Ending) (w' : World) : Prop := ∃ (a b : Value) (f : Fam), e = .returned (.agg #[a, b]) ∧ Rd false w.heap.size w'.heap.size w' [a, b] f ∧ Hid (famB f = true ∧ f.1.length ≤ most) ∧ CurOk p w' ∧ OffF [p] w w'
def PostFamL (lo p most : Nat) (w : World) (e : Ending) (w' : World) : Prop := ∃ (a b : Value) (f : Fam), e = .returned (.agg #[a, b]) ∧ Rd false lo w'.heap.size w' [a, b] f ∧ Hid (famB f = true ∧ f.1.length ≤ most) ∧ CurOk p w' ∧ OffF [p] w w'
end
section
def PostCp (f : Fam) (w : World) (e : Ending) (w' : World) : Prop := ∃ (a b : Value) (mid : Nat), e = .returned (.agg #[a, b]) ∧ GL true w.heap.size w.heap.size mid w' 100 a f.1 ∧ mid ≤ w'.heap.size ∧ w.heap.size ≤ mid ∧ GL true mid mid w'.heap.size w' 131 b f.2 ∧ Below w.heap.size w w'
theorem GL.loz {α : Type} [Rep α] {nd : Bool} {lo lo' lo2 hi : Nat} {w : World} {E : TypeId} {v : Value} {xs : List α} (h : GL nd lo lo' hi w E v xs) (k : lo2 ≤ lo) (k' : lo2 ≤ lo') : GL nd lo2 lo2 hi w E v xs := by
 obtain ⟨css, fps, ho, hz, hf, hg, hn⟩ := h
 refine ⟨css, fps, ⟨ho.1, ?_⟩, hz, fun b hb => ⟨by have := (hf b hb).1; omega, (hf b hb).2⟩, hg, hn⟩
 rcases ho.2 with h | ⟨g, cap, cur, rfl, hb, r⟩
 ·exact .inl h
 ·exact .inr ⟨g, cap, cur, rfl, by omega, r⟩
set_option maxRecDepth 20000 in
theorem l1Copy_any {z : Bool} {lo hi : Nat} (w : World) (v v2 : Value) (f : Fam) (h : Rd z lo hi w [v, v2] f) (h1 : f.1.length ≤ 40) (h2 : f.2.length ≤ 60) :
  Calls Tryz.prog 172 #[.agg #[v, v2]] w (PostCp f w) := by
 obtain ⟨ha, hb⟩ := h.fam
 obtain ⟨ao, n, cap, rfl, hn, -⟩ := ha.shape
 obtain ⟨bo, m, dap, rfl, hm, -⟩ := hb.shape
 subst hn
 subst hm
 have HA := Hd ha
 have HB := Hd hb
 obtain ⟨W0, hW0⟩ : ∃ W0, W0 = (((w.alloc (.cells #[.slice ao f.1.length cap, .slice bo f.2.length dap] 37)).alloc (.cells #[.slice none 0 0, .slice none 0 0] 37)).alloc (.cells #[.slice none 0 0, .slice none 0 0] 37)) := ⟨_, rfl⟩
 have hb0 : Below w.heap.size w W0 := by rw [hW0]; exact bwT
 have s0 : w.heap.size + 3 ≤ W0.heap.size := by rw [hW0]; simp
 have k1 : Below (w.heap.size + 1) (w.alloc (.cells #[.slice ao f.1.length cap, .slice bo f.2.length dap] 37)) W0 := by rw [hW0]; exact bwT
 have k2 : Below (w.heap.size + 2) ((w.alloc (.cells #[.slice ao f.1.length cap, .slice bo f.2.length dap] 37)).alloc (.cells #[.slice none 0 0, .slice none 0 0] 37)) W0 := by rw [hW0]; exact bwT
 have p0 : W0.cell? ⟨w.heap.size, 0, none⟩ = some (.slice ao f.1.length cap) := oldc k1 (Nat.lt_succ_self _) sgT
 have p1 : W0.cell? ⟨w.heap.size, 1, none⟩ = some (.slice bo f.2.length dap) := oldc k1 (Nat.lt_succ_self _) sgT
 have r0 : W0.cell? ⟨w.heap.size + 1, 0, none⟩ = some (.slice none 0 0) := oldc k2 (Nat.lt_succ_self _) sgT
 have r1 : W0.cell? ⟨w.heap.size + 1, 1, none⟩ = some (.slice none 0 0) := oldc k2 (Nat.lt_succ_self _) sgT
 have rf : ∀ o, W0.frozen? ⟨w.heap.size + 1, o, none⟩ = false := fun o => (k2.frozen (p := ⟨w.heap.size + 1, o, none⟩) (Nat.lt_succ_self _)).trans sgT
 have f0 : W0.cell? ⟨w.heap.size + 2, 0, none⟩ = some (.slice none 0 0) := by rw [hW0]; simp [go_sem]
 have f1 : W0.cell? ⟨w.heap.size + 2, 1, none⟩ = some (.slice none 0 0) := by rw [hW0]; simp [go_sem]
 have ff : ∀ o, W0.frozen? ⟨w.heap.size + 2, o, none⟩ = false := fun o => by rw [hW0]; simp [go_sem]
 clear h ha hb k1 k2
 go_enter Tryz.func172, Tryz.ntmps172
 go_upto_region 2 with fail
 rw [← hW0]
 clear hW0
 go_wp2_with (at_builtin; refine wpList_spread_flat rfl rfl slPerson (by show (0 : Nat) < 6; omega) (GL.start true (w.heap.size + 3) (w.heap.size + 3) W0.heap.size W0 _) rfl rfl (HA.out.below hb0) (by unfold maxLen; simp; omega) soT s0 ?_)
 intro va w1 hG1 _ hb1
 obtain ⟨aa, acap, rfl, -, -⟩ := hG1.len
 have s1 := hb1.size
 have HG1 := Hd hG1
 have hBw1 : Below w.heap.size w w1 := hb0.trans (hb1.mono omT)
 have p0 := oldc hb1 omT p0
 have p1 := oldc hb1 omT p1
 have r0 := oldc hb1 omT r0
 have r1 := oldc hb1 omT r1
 have rf : ∀ o, w1.frozen? ⟨w.heap.size + 1, o, none⟩ = false := fun o => (hb1.frozen (p := ⟨w.heap.size + 1, o, none⟩) (by show w.heap.size + 1 < _; omega)).trans (rf o)
 have f0 := oldc hb1 omT f0
 have f1 := oldc hb1 omT f1
 have ff : ∀ o, w1.frozen? ⟨w.heap.size + 2, o, none⟩ = false := fun o => (hb1.frozen (p := ⟨w.heap.size + 2, o, none⟩) (by show w.heap.size + 2 < _; omega)).trans (ff o)
 obtain ⟨W1, hW1⟩ : ∃ W, W = w1.setCell ⟨w.heap.size + 2, 0, none⟩ (.slice aa f.1.length acap) := ⟨_, rfl⟩
 have kk : ∀ b, b ≠ w.heap.size + 2 → W1.heap[b]? = w1.heap[b]? := by rw [hW1]; exact keep_set
 have s1' : w1.heap.size = W1.heap.size := by rw [hW1]; simp
 have hBW1 : Below w.heap.size w W1 := by rw [hW1]; exact bwT
 have HG1 := Hd (show GL true (w.heap.size + 3) (w.heap.size + 3) w1.heap.size W1 100 (.slice aa f.1.length acap) f.1 from HG1.out.keep (fun b h1 h2 => kk b omT) (fun b h1 h2 => kk b omT))
 have p0 := cell_far (kk _ omT) p0
 have p1 := cell_far (kk _ omT) p1
 have r0 := cell_far (kk _ omT) r0
 have r1 := cell_far (kk _ omT) r1
 have rf := frz_far (kk _ omT) rf
 have g0 : W1.cell? ⟨w.heap.size + 2, 0, none⟩ = some (.slice aa f.1.length acap) := by rw [hW1]; exact cell_here f0
 have g1 : W1.cell? ⟨w.heap.size + 2, 1, none⟩ = some (.slice none 0 0) := by rw [hW1]; exact cell_there f1 omT
 have gf : ∀ o, W1.frozen? ⟨w.heap.size + 2, o, none⟩ = false := fun o => by rw [hW1]; exact frozen_setCell _ _ _ _ _ (ff o)
 have hs1 : w.heap.size + 3 ≤ W1.heap.size := by omega
 have hs2 : w1.heap.size ≤ W1.heap.size := by omega
 go_upto_region 3 with fail
 rw [← hW1]
 clear hW1 s1' f0 f1 ff hG1 hb1
 go_wp2_with (at_builtin; refine wpList_spread_flat rfl rfl slUnion (by show (0 : Nat) < 4; omega) (GL.start true W1.heap.size W1.heap.size W1.heap.size W1 _) rfl rfl (HB.out.below hBW1) (by unfold maxLen; simp; omega) soT (Nat.le_refl _) ?_)
 intro vb w2 hG2 _ hb2
 obtain ⟨ba, bcap, rfl, -, -⟩ := hG2.len
 have s2 := hb2.size
 have HG2 := Hd hG2
 have HG1 := Hd (show GL true (w.heap.size + 3) (w.heap.size + 3) w1.heap.size w2 100 (.slice aa f.1.length acap) f.1 from HG1.out.keep (fun b h1 h2 => hb2.block b omT) (fun b h1 h2 => hb2.block b omT))
 have r0 := oldc hb2 omT r0
 have r1 := oldc hb2 omT r1
 have rf : ∀ o, w2.frozen? ⟨w.heap.size + 1, o, none⟩ = false := fun o => (hb2.frozen (p := ⟨w.heap.size + 1, o, none⟩) (by show w.heap.size + 1 < _; omega)).trans (rf o)
 have g0 := oldc hb2 omT g0
 have g1 := oldc hb2 omT g1
 have gf : ∀ o, w2.frozen? ⟨w.heap.size + 2, o, none⟩ = false := fun o => (hb2.frozen (p := ⟨w.heap.size + 2, o, none⟩) (by show w.heap.size + 2 < _; omega)).trans (gf o)
 have hBw2 : Below w.heap.size w w2 := hBW1.trans (hb2.mono omT)
 have ne1 : ¬ w.heap.size + 1 = w.heap.size + 2 := by omega
 clear hG2 hb2 p0 p1
 go_wp2
 refine bodyPost_ret (v := .agg #[.slice aa f.1.length acap, .slice ba f.2.length bcap]) (by simp [results, Tryz.results172, go_sem, *]) rfl ⟨_, _, W1.heap.size, rfl, ?_, by simp; omega, by omega, ?_, bwT⟩
 ·exact ((HG1.out.keep zgT zgT).mono omT).loz omT omT
 ·exact (HG2.out.keep zgT zgT).mono spT
end
section
end
end Go.Proofs.YtcbhdmmohdnjbaaGreat
