/- Contracts of the reference's draws for families: a number of a list, a name, the elder, one of a sex, parents, children. Written by mkf_gen.py. -/
import Derived.Test.YtefbbbhidnnchaaZ14F
import Derived.Test.YtefbbbhidnnchaaZ14H
namespace Go.Proofs.Ytefbbbhidnnchaa
set_option linter.unusedVariables false
set_option linter.unusedSimpArgs false
open Go.RowKit

/-- A slice of numbers that is written out. -/
theorem flat_ints : ∀ (xs : List Int), (xs.map fun x => [Value.int .i64 x]).flatten = xs.map (Value.int .i64)
  | [] => rfl
  | x :: xs => by simp [flat_ints xs]
theorem nil_ints : ∀ (xs : List Int), (xs.map fun _ => ([] : List Nat)).flatten = []
  | [] => rfl
  | x :: xs => by simp [nil_ints xs]
theorem Ow.ints_lit (w : World) (E : TypeId) (xs : List Int) (h : ∀ x ∈ xs, I64 x) (hl : xs.length ≤ maxLen) :
    Ow w.heap.size (w.heap.size + 1) (w.alloc (.cells (xs.map (Value.int .i64)).toArray E)) [.slice (some ⟨w.heap.size, 0, none⟩) xs.length xs.length] xs := by
  refine ⟨[w.heap.size], ⟨_, rfl, _, _, _, rfl, rfl, Nat.le_refl _, hl, (fun h => by cases h), .inr ⟨w.heap.size, 0, _, _, rfl, by simp, by rw [nil_ints], zip_ints_of h, ?_, ?_⟩⟩, fun b hb => by simp at hb; omega, by simp⟩
  · intro j c hj
    rw [flat_ints] at hj
    simp only [Nat.zero_add]
    rw [World.cell?_alloc_new]
    simpa using hj
  · intro _ o
    simp [go_sem]
def PostCI (p : Nat) (xs : List Int) (w : World) (e : Ending) (w' : World) : Prop := ∃ r : Int, e = .returned (.int .i64 r) ∧ r ∈ xs ∧ CurOk p w' ∧ OffF [p] w w'
section
variable (w : World)
theorem l01Int_any {z : Bool} {lo hi : Nat} (p : Nat) (h : CurOk p w) (v : Value) (xs : List Int) (hx : Rd z lo hi w [v] xs) (hl : 0 < xs.length) (hl2 : xs.length ≤ 256) (hp : p < lo ∨ hi ≤ p) (hh : hi ≤ w.heap.size) :
    Calls Try.prog 92 #[.pointer (some ⟨p, 0, none⟩), v] w (PostCI p xs w) := by
  obtain ⟨ao, n, cap, rfl, hn, -⟩ := hx.shape
  subst hn
  go_enter Try.func92, Try.ntmps92
  go_wp2_with fail
  refine (l01Below_any _ p h xs.length (by omega) (by omega)).mono ?_
  rintro e w1 ⟨r, rfl, ⟨hr0, hr1⟩, hc, ho⟩
  obtain ⟨m, rfl⟩ := Int.eq_ofNat_of_zero_le hr0
  obtain ⟨b, off, s, rfl, hs, c0, -⟩ := (hx.keep (offzn ho hp hh)).int_at (i := m) (by omega)
  have hm : (m : Int) < (xs.length : Int) := by omega
  have HS := Lib.hid (List.mem_of_getElem? hs.out)
  clear h hx hs
  go_wp2
  go_ret
  exact ⟨s, rfl, HS.out, hc, ho⟩
end
theorem conv2 (W : World) (d e : UInt8) (ty : TypeId) : (convert 22 9 (.slice (some ⟨W.heap.size, 0, none⟩) 2 2)).run Try.prog (W.alloc (.cells #[.int .u8 d.toNat, .int .u8 e.toNat] ty)).drew = .ok (.string ⟨#[d, e]⟩) (W.alloc (.cells #[.int .u8 d.toNat, .int .u8 e.toNat] ty)).drew := by
  have := run_convert_bytes_back (P := Try.prog) (W.alloc (.cells #[.int .u8 d.toNat, .int .u8 e.toNat] ty)).drew 22 9 5 ⟨W.heap.size, 0, none⟩ 2 [d, e] Try.underlying22 Try.underlying5 Try.underlying9 (fun j hj => by
    match j, hj with
    | 0, _ => simp [go_sem]
    | 1, _ => simp [go_sem, Addr.add]
    | j + 2, hj => exact absurd hj (by simp))
  simpa using this
set_option maxRecDepth 20000 in
theorem l1Called_any (w : World) (i : Nat) (hi : i < 40) : Calls Try.prog 93 #[.int .i64 i] w (PostV w (.string (nmOf i))) := by
  obtain ⟨a, ha⟩ : ∃ a : Nat, a = i % 26 := ⟨_, rfl⟩
  obtain ⟨b, hb⟩ : ∃ b : Nat, b = i / 26 % 5 := ⟨_, rfl⟩
  have e1 : (i : Int).tmod 26 = (a : Int) := by rw [Int.tmod_eq_emod_of_nonneg (by omega)]; omega
  have e2 : (i : Int).tdiv 26 = (i : Int) / 26 := Int.tdiv_eq_ediv_of_nonneg (by omega)
  have e4 : IntKind.i64.wrap ((i : Int) / 26) = (i : Int) / 26 := IntWalk.i64_in _ (by omega)
  have e3 : ((i : Int) / 26).tmod 5 = (b : Int) := by rw [Int.tmod_eq_emod_of_nonneg (by omega)]; omega
  have ha2 : (a : Int) < 26 := by omega
  have hb2 : (b : Int) < 5 := by omega
  have HN := Lib.hid (show nmOf i = ⟨#[abc[a]!, vow[b]!]⟩ by rw [ha, hb]; rfl)
  clear ha hb
  go_enter Try.func93, Try.ntmps93
  have kc := conv2 w ((⟨#[97, 98, 99, 100, 101, 102, 103, 104, 105, 106, 107, 108, 109, 110, 111, 112, 113, 114, 115, 116, 117, 118, 119, 120, 121, 122]⟩ : ByteArray)[a]'(show a < 26 by omega)) ((⟨#[97, 101, 105, 111, 117]⟩ : ByteArray)[b]'(show b < 5 by omega)) 5
  have EA := Lib.hid (show (abc[a]!) = (⟨#[97, 98, 99, 100, 101, 102, 103, 104, 105, 106, 107, 108, 109, 110, 111, 112, 113, 114, 115, 116, 117, 118, 119, 120, 121, 122]⟩ : ByteArray)[a]'(show a < 26 by omega) from getElem!_pos abc a (show a < 26 by omega))
  have EB := Lib.hid (show (vow[b]!) = (⟨#[97, 101, 105, 111, 117]⟩ : ByteArray)[b]'(show b < 5 by omega) from getElem!_pos vow b (show b < 5 by omega))
  go_upto_region 1 with fail
  refine wp_region_held_drew (S := (fun w' => True)) (by kernel_rfl) ?_ (fun hHeld => ?_)
  · first | exact trivial | ((try dsimp only); go_keep)
  refine tkR 0 (v := ?_) ?_ ?_
  rotate_left
  · intro w hSw; (try dsimp only at hSw); go_simp <;> with_reducible rfl
  try simp only [Act.put, List.setIfInBounds_toArray, List.set_cons_zero, List.set_cons_succ]
  refine tkR 3 (v := ?_) ?_ ?_
  rotate_left
  · intro w hSw; (try dsimp only at hSw); go_simp <;> with_reducible rfl
  try simp only [Act.put, List.setIfInBounds_toArray, List.set_cons_zero, List.set_cons_succ]
  refine tkR 1 (v := ?_) ?_ ?_
  rotate_left
  · intro w hSw; (try dsimp only at hSw); go_simp <;> with_reducible rfl
  try simp only [Act.put, List.setIfInBounds_toArray, List.set_cons_zero, List.set_cons_succ]
  refine tkR 4 (v := ?_) ?_ ?_
  rotate_left
  · intro w hSw; (try dsimp only at hSw); go_simp <;> with_reducible rfl
  try simp only [Act.put, List.setIfInBounds_toArray, List.set_cons_zero, List.set_cons_succ]
  refine tkR 2 (v := ?_) ?_ ?_
  rotate_left
  · intro w hSw; (try dsimp only at hSw); go_simp <;> with_reducible rfl
  try simp only [Act.put, List.setIfInBounds_toArray, List.set_cons_zero, List.set_cons_succ]
  refine tkR 5 (v := ?_) ?_ ?_
  rotate_left
  · intro w hSw; (try dsimp only at hSw); go_simp <;> with_reducible rfl
  try simp only [Act.put, List.setIfInBounds_toArray, List.set_cons_zero, List.set_cons_succ]
  refine tkR 6 (v := ?_) ?_ ?_
  rotate_left
  · intro w hSw; (try dsimp only at hSw); go_simp <;> with_reducible rfl
  try simp only [Act.put, List.setIfInBounds_toArray, List.set_cons_zero, List.set_cons_succ]
  refine wpAnyH_ready (rs := [7]) (by kernel_rfl) (by simp) ?_
  refine rdR (fun K hK => ?_) ?_
  · go_simp
    refine hK.out _ _ ?_ (fun hHeld => ?_)
    · exact kpT
    clear hK K
    try simp only [Act.put, List.setIfInBounds_toArray, List.set_cons_zero, List.set_cons_succ]
    refine wpAnyH_ready (rs := [8]) (by kernel_rfl) (by simp) ?_
    refine rdR (fun K hK => ?_) ?_
    · go_simp
      refine hK.out _ _ ?_ (fun hHeld => ?_)
      · exact kpT
      clear hK K
      try simp only [Act.put, List.setIfInBounds_toArray, List.set_cons_zero, List.set_cons_succ]
      refine tkR 9 (v := ?_) ?_ ?_
      rotate_left
      · intro w hSw; (try dsimp only at hSw); go_simp <;> with_reducible rfl
      try simp only [Act.put, List.setIfInBounds_toArray, List.set_cons_zero, List.set_cons_succ]
      refine wpAnyH_done (by kernel_rfl) ?_ _
      go_wp2
      go_ret
      rw [HN.out, EA.out, EB.out]
      exact ⟨rfl, bwT⟩
    exact AllReadyH.nil
  exact AllReadyH.nil
def PostAB (w : World) (e : Ending) (w' : World) : Prop := ∃ r : Bool, e = .returned (.bool r) ∧ Below w.heap.size w w'
theorem l1Elder_any {z : Bool} {lo hi : Nat} (w : World) (v v2 : Value) (ps : List Per) (h : Rd z lo hi w [v] ps) (i j : Nat) (hi' : i < ps.length) (hj : j < ps.length) :
    Calls Try.prog 113 #[.agg #[v, v2], .int .i64 i, .int .i64 j] w (PostAB w) := by
  obtain ⟨ao, n, cap, rfl, hn, -⟩ := h.shape
  subst hn
  obtain ⟨b, off, nm, sx, fa, mo, bo, di, rfl, -, x0, x1, x2, x3, x4, x5, -, -, -, -, -, -, -, -, hb, -⟩ := h.per_at hi'
  obtain ⟨_, _, nm', sx', fa', mo', bo', di', e, -, y0, y1, y2, y3, y4, y5, -⟩ := h.per_at hj
  simp only [Option.some.injEq, Addr.mk.injEq, and_true] at e
  obtain ⟨rfl, rfl⟩ := e
  have hi2 : (i : Int) < (ps.length : Int) := by omega
  have hj2 : (j : Int) < (ps.length : Int) := by omega
  clear h x0 x1 x2 x3 x5 y0 y1 y2 y3 y5
  go_enter Try.func113, Try.ntmps113
  by_cases h1 : bo < bo'
  · go_wp2
    go_ret
    exact ⟨true, rfl, bwT⟩
  · by_cases h2 : bo = bo'
    · subst h2
      go_wp2
      go_ret
      exact ⟨_, rfl, bwT⟩
    · have h3 : (bo == bo') = false := by simpa using h2
      clear h2
      go_wp2
      go_ret
      exact ⟨false, rfl, bwT⟩
/-- One of a sex, not too deep, or none. -/
def PostSm (p : Nat) (ps : List Per) (D : List Int) (sex : Int) (w : World) (e : Ending) (w' : World) : Prop :=
  ∃ r : Int, e = .returned (.int .i64 r) ∧ Hid (r = -1 ∨ ∃ (k : Nat) (nm : ByteArray) (fa mo bo di : Int), r = k ∧ ps[k]? = some (nm, sex, fa, mo, bo, di) ∧ D.getD k 0 < 10) ∧ CurOk p w' ∧ OffF [p] w w'
set_option maxRecDepth 20000 in
set_option maxHeartbeats 8000000 in
theorem l1Some_any {z z' : Bool} {lo hi lo' hi' : Nat} (w : World) (p : Nat) (h : CurOk p w) (v v2 vd : Value) (ps : List Per) (hx : Rd z lo hi w [v] ps) (D : List Int) (hd : Rd z' lo' hi' w [vd] D) (hD : D.length = ps.length) (hl : ps.length ≤ 40)
    (hp : p < lo) (hh : hi ≤ w.heap.size) (hp' : p < lo') (hh' : hi' ≤ w.heap.size) (sex : Int) :
    Calls Try.prog 94 #[.pointer (some ⟨p, 0, none⟩), .agg #[v, v2], vd, .int .i64 sex] w (PostSm p ps D sex w) := by
  obtain ⟨ao, n, cap, rfl, hn, -⟩ := hx.shape
  subst hn
  obtain ⟨dao, dn, dcap, rfl, hdn, -⟩ := hd.shape
  rw [hD] at hdn
  subst hdn
  have HX := Lib.hid hx
  have HD := Lib.hid hd
  have hpl := h.lt
  have hC0 : CurOk p (w.alloc (.cells #[.slice ao ps.length cap, v2] 26)) := h.grow bwT
  have hO0 : OffF [p] w (w.alloc (.cells #[.slice ao ps.length cap, v2] 26)) := (OffF.refl [p] w).alloc _
  have hwF : (w.alloc (.cells #[.slice ao ps.length cap, v2] 26)).cell? ⟨w.heap.size, 0, none⟩ = some (.slice ao ps.length cap) := by simp [go_sem]
  have hne : w.heap.size ≠ p := by omega
  clear h hx hd
  go_enter Try.func94, Try.ntmps94
  go_wp2
  go_loopw [8, 10, 11] (fun _ s10 _ wi => ∃ k : Nat, k ≤ 6 ∧ s10 = .int .i64 k ∧ wi.cell? ⟨w.heap.size, 0, none⟩ = some (.slice ao ps.length cap) ∧ w.heap.size < wi.heap.size ∧ CurOk p wi ∧ OffF [p] w wi) (fun _ s10 _ _ => 6 - (intOf s10).toNat)
  case atStart => exact ⟨0, by omega, rfl, hwF, by simp, hC0, hO0⟩
  case round =>
    clear hwF hC0 hO0
    obtain ⟨wi, hwi⟩ : ∃ x : World, x = wr := ⟨_, rfl⟩
    subst hwi
    obtain ⟨k, hk, rfl, q0, lF, hC, hO⟩ := hrel
    by_cases hk6 : k < 6
    · have hkI : (k : Int) < 6 := by omega
      by_cases hn0 : 0 < ps.length
      · have hnI : (0 : Int) < (ps.length : Int) := by omega
        go_wp2_with fail
        refine (l01Below_any _ p hC ps.length (by omega) (by omega)).mono ?_
        rintro e w1 ⟨r, rfl, ⟨hr0, hr1⟩, hC1, hO1⟩
        obtain ⟨r, rfl⟩ := Int.eq_ofNat_of_zero_le hr0
        have q1 := offq hO1 hne lF q0
        have l1 := Nat.lt_of_lt_of_le lF hO1.size
        clear hC q0
        go_wp2_with fail
        refine (l01Once_any _ p hC1 2 (by omega) (by omega)).mono ?_
        rintro e w2 ⟨q, rfl, hC2, hO2⟩
        have q2 := offq hO2 hne l1 q1
        have l2 := Nat.lt_of_lt_of_le l1 hO2.size
        have hO02 := (hO.trans hO1).trans hO2
        clear hC1 q1 hO hO1 hO2
        cases q
        · skip
          obtain ⟨bx, ofx, nm, sx, fa, mo, bo, di, hao, hxp, x0, x1, x2, x3, x4, x5, -, -, -, -, -, -, -, -, hbx, -⟩ := (HX.out.keep (offzn hO02 (.inl hp) hh)).per_at (show r < ps.length by omega)
          obtain ⟨bd, ofd, dd, hdo, hdd, d0, -⟩ := (HD.out.keep (offzn hO02 (.inl hp') hh')).int_at (show r < ps.length by omega)
          have HXP := Lib.hid hxp.out
          have HDD := Lib.hid (show D.getD r 0 = dd by rw [List.getD_eq_getElem?_getD, hdd.out]; rfl)
          subst hao
          subst hdo
          have hjI : (r : Int) < (ps.length : Int) := by omega
          clear hxp hdd x0 x2 x3 x4 x5
          by_cases hsx : sx = sex
          · subst hsx
            by_cases hdl : dd < 10
            · go_wp2
              go_ret
              exact ⟨_, rfl, Lib.hid (.inr ⟨r, _, _, _, _, _, rfl, HXP.out, by rw [HDD.out]; exact hdl⟩), hC2, hO02⟩
            · go_wp2
              go_roundw
              case rel => exact ⟨k + 1, by omega, by go_num, q2, l2, hC2, hO02⟩
              case measure => simp [intOf]; omega
          · have hsb : (sx == sex) = false := by simpa using hsx
            clear hsx
            go_wp2
            go_roundw
            case rel => exact ⟨k + 1, by omega, by go_num, q2, l2, hC2, hO02⟩
            case measure => simp [intOf]; omega
        · obtain ⟨n1, hn1⟩ : ∃ n : Nat, ps.length = n + 1 := ⟨ps.length - 1, by omega⟩
          have hw1 : IntKind.i64.wrap ((ps.length : Int) - 1) = (n1 : Int) := by rw [IntWalk.i64_in _ (by omega)]; omega
          have HN1 := Lib.hid hn1
          clear hn1
          go_wp2_with fail
          all_goals
            refine (l01Below_any _ p hC2 _ (by omega) (by omega)).mono ?_
            rintro e w3 ⟨r3, rfl, ⟨hr30, hr31⟩, hC3, hO3⟩
            obtain ⟨r3, rfl⟩ := Int.eq_ofNat_of_zero_le hr30
            have q3 := offq hO3 hne l2 q2
            have l3 := Nat.lt_of_lt_of_le l2 hO3.size
            have hO03 := hO02.trans hO3
            have hn1 := HN1.out
            obtain ⟨j, hj⟩ : ∃ j : Nat, j = n1 - r3 := ⟨_, rfl⟩
            have hw2 : IntKind.i64.wrap ((n1 : Int) - (r3 : Int)) = (j : Int) := by rw [IntWalk.i64_in _ (by omega)]; omega
            have hjl : j < ps.length := by omega
            clear hj q2 hC2 hO02 hO3 hn1
            obtain ⟨bx, ofx, nm, sx, fa, mo, bo, di, hao, hxp, x0, x1, x2, x3, x4, x5, -, -, -, -, -, -, -, -, hbx, -⟩ := (HX.out.keep (offzn hO03 (.inl hp) hh)).per_at (show j < ps.length by omega)
            obtain ⟨bd, ofd, dd, hdo, hdd, d0, -⟩ := (HD.out.keep (offzn hO03 (.inl hp') hh')).int_at (show j < ps.length by omega)
            have HXP := Lib.hid hxp.out
            have HDD := Lib.hid (show D.getD j 0 = dd by rw [List.getD_eq_getElem?_getD, hdd.out]; rfl)
            subst hao
            subst hdo
            have hjI : (j : Int) < (ps.length : Int) := by omega
            clear hxp hdd x0 x2 x3 x4 x5
            by_cases hsx : sx = sex
            · subst hsx
              by_cases hdl : dd < 10
              · go_wp2
                go_ret
                exact ⟨_, rfl, Lib.hid (.inr ⟨j, _, _, _, _, _, rfl, HXP.out, by rw [HDD.out]; exact hdl⟩), hC3, hO03⟩
              · go_wp2
                go_roundw
                case rel => exact ⟨k + 1, by omega, by go_num, q3, l3, hC3, hO03⟩
                case measure => simp [intOf]; omega
            · have hsb : (sx == sex) = false := by simpa using hsx
              clear hsx
              go_wp2
              go_roundw
              case rel => exact ⟨k + 1, by omega, by go_num, q3, l3, hC3, hO03⟩
              case measure => simp [intOf]; omega
      · have hnI : ¬ (0 : Int) < (ps.length : Int) := by omega
        go_wp2
        go_ret
        exact ⟨-1, rfl, Lib.hid (.inl rfl), hC, hO⟩
    · obtain rfl : k = 6 := by omega
      go_wp2
      go_ret
      exact ⟨-1, rfl, Lib.hid (.inl rfl), hC, hO⟩
end Go.Proofs.Ytefbbbhidnnchaa
