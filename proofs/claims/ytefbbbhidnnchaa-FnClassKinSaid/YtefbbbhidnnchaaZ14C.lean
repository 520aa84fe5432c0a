/- Texts laid one behind the other (merge.py): Perm2, Perm3. -/
import Derived.Test.YtefbbbhidnnchaaZ14A
namespace Go.Proofs.Ytefbbbhidnnchaa
set_option linter.unusedVariables false
set_option linter.unusedSimpArgs false
open Go.RowKit

/-! ### Perm2 -/
section

section
variable {z z' : Bool} {lo hi lo' hi' : Nat} (w : World) (v : Value) (xs : List Int)

theorem l1Inverse_yes (h : Rd z lo hi w [v] xs) (hl : xs.length ≤ 1048576) (hp : isPerm xs = true) :
    Calls Try.prog 102 #[v, .int .i64 xs.length] w fun e w' => ∃ u, e = .returned (.tuple #[u, .bool true]) ∧ Ow w.heap.size w'.heap.size w' [u] (inv xs) ∧ Below w.heap.size w w' := by
  refine (l1Inverse_any w v xs xs.length h hl hl).mono ?_
  rw [l1Inv_eq, if_pos hp]
  rintro e w' ⟨⟨u, rfl, ho⟩, hb⟩
  exact ⟨u, rfl, ho, hb⟩
theorem l1Inverse_no (h : Rd z lo hi w [v] xs) (hl : xs.length ≤ 1048576) (hp : isPerm xs = false) :
    Calls Try.prog 102 #[v, .int .i64 xs.length] w fun e w' => e = .returned (.tuple #[.slice none 0 0, .bool false]) ∧ Below w.heap.size w w' := by
  refine (l1Inverse_any w v xs xs.length h hl hl).mono ?_
  rw [l1Inv_eq, if_neg (by simp [hp])]
  rintro e w' ⟨rfl, hb⟩
  exact ⟨rfl, hb⟩

set_option maxHeartbeats 1000000 in
theorem isPermS_b (h : Rd z lo hi w [v] xs) (hl : xs.length ≤ 1048576) (r : Bool) (hr : r = isPerm xs) :
    Calls Try.prog 99 #[v] w (PostB w r) := by
  obtain ⟨ao, n, cap, rfl, hn, hnc, hcm, hnone⟩ := h.shape
  subst hn
  have HR := Lib.hid hr
  clear hr
  cases r
  · go_enter Try.func99, Try.ntmps99
    go_wp2_with fail
    refine (l1Inverse_no _ _ _ h hl HR.out.symm).mono ?_
    rintro e w1 ⟨rfl, hb1⟩
    go_wp2
    go_ret
    exact ⟨rfl, hb1⟩
  · go_enter Try.func99, Try.ntmps99
    go_wp2_with fail
    refine (l1Inverse_yes _ _ _ h hl HR.out.symm).mono ?_
    rintro e w1 ⟨u, rfl, ho, hb1⟩
    go_wp2
    go_ret
    exact ⟨rfl, hb1⟩

theorem Ow.nil {α : Type} [Rep α] (lo hi : Nat) (w : World) : Ow lo hi w [.slice none 0 0] ([] : List α) := (GL.start (α := α) true lo lo hi w 0).ow (Nat.le_refl _) (Nat.le_refl _)

set_option maxHeartbeats 1000000 in
theorem invI_any (h : Rd z lo hi w [v] xs) (hl : xs.length ≤ 1048576) (hr : InRange xs.length xs) :
    Calls Try.prog 80 #[v] w (PostOw w (inv xs)) := by
  obtain ⟨ao, n, cap, rfl, rfl, hnc, hcm, hnone⟩ := h.shape
  have HR := Lib.hid hr
  clear hr
  go_enter Try.func80, Try.ntmps80
  go_wp2_with (at_make; refine wpList_mk (α := Int) rfl rfl slInt (y0 := 0) (fun _ => ⟨rfl, by unfold I64; omega, rfl⟩) rfl rfl rfl rfl (by omega) (by unfold maxLen; omega) ?_; intro w1 how hb1 hlt)
  go_loopw [4, 5, 11] (fun q r i wr => ∃ k : Nat, k ≤ xs.length ∧ i = .int .i64 k ∧ ∃ s : List Int, Ow w.heap.size (w.heap.size + 1) wr [.slice (some ⟨w.heap.size, 0, none⟩) xs.length xs.length] s ∧ Hid (invSet s k (xs.drop k) = inv xs) ∧ Below w.heap.size w wr) (fun _ _ i _ => xs.length - (intOf i).toNat)
  case atStart => exact ⟨0, Nat.zero_le _, rfl, _, how, rfl, hb1⟩
  case round =>
    obtain ⟨k, hk, rfl, s, how', hp, hb⟩ := hrel
    clear how hb1 hlt
    by_cases hlt : k < xs.length
    · obtain ⟨b, off, x, rfl, hx, hc, hx1, hx2, _⟩ := (h.below hb).int_at hlt
      have hin := HR.out x (List.mem_of_getElem? hx.out)
      obtain ⟨m, rfl⟩ := Int.eq_ofNat_of_zero_le hin.1
      have hm : m < xs.length := by omega
      have hmI : (m : Int) < xs.length := by omega
      have hp' := hp.out
      rw [drop_cons hx.out, invSet] at hp'
      have HP := Lib.hid hp'
      obtain ⟨y, hy, hcy, hy1, hy2, hfy, _⟩ := how'.int_at0 (i := m) hm
      have HS := Lib.hid (how'.int_set0 (i := m) hm (y := k) ⟨by omega, by omega⟩)
      clear hp hp' hx h hin how' hy HR
      go_wp2
      go_roundw
      case rel => exact ⟨k + 1, by omega, by go_num, _, HS.out, HP.out, hb.setCell (Nat.le_refl _) _⟩
      case measure => simp [intOf]; omega
    · have HF := Lib.hid (show inv xs = s by rw [← hp.out, List.drop_eq_nil_of_le (by omega)]; rfl)
      have HO := Lib.hid how'.top
      clear how' hp h HR
      go_wp2
      go_ret
      exact ⟨_, rfl, by rw [HF.out]; exact HO.out, hb⟩

/-- The inverse of a permutation; nothing of what is none. -/
def invP (xs : List Int) : List Int := if isPerm xs = true then inv xs else []

set_option maxHeartbeats 1000000 in
theorem inversePermS_any (h : Rd z lo hi w [v] xs) (hl : xs.length ≤ 1048576) :
    Calls Try.prog 83 #[v] w (PostOw w (invP xs)) := by
  obtain ⟨ao, n, cap, rfl, hn, hnc, hcm, hnone⟩ := h.shape
  subst hn
  obtain ⟨r, hr⟩ : ∃ r, r = isPerm xs := ⟨_, rfl⟩
  have HR := Lib.hid hr
  clear hr
  cases r
  · have HE := Lib.hid (show invP xs = [] by rw [invP, if_neg]; rw [← HR.out]; decide)
    rw [HE.out]
    go_enter Try.func83, Try.ntmps83
    go_wp2_with fail
    refine (l1Inverse_no _ _ _ h hl HR.out.symm).mono ?_
    rintro e w1 ⟨rfl, hb1⟩
    go_wp2
    go_ret
    exact ⟨_, rfl, Ow.nil _ _ _, hb1⟩
  · have HE := Lib.hid (show invP xs = inv xs by rw [invP, if_pos]; exact HR.out.symm)
    rw [HE.out]
    go_enter Try.func83, Try.ntmps83
    go_wp2_with fail
    refine (l1Inverse_yes _ _ _ h hl HR.out.symm).mono ?_
    rintro e w1 ⟨u, rfl, ho, hb1⟩
    have HO := Lib.hid ho
    clear ho h
    go_wp2
    go_ret
    exact ⟨_, rfl, HO.out, hb1⟩

end

theorem comp_snoc {p q : List Int} {k : Nat} {x y : Int} {m : Nat} (hx : p[k]? = some x) (hxm : x = m) (hy : q[m]? = some y) : comp (p.take (k + 1)) q = comp (p.take k) q ++ [y] := by
  rw [take_snoc hx, comp, comp, List.map_append]
  subst hxm
  simp [List.getD_eq_getElem?_getD, hy]

theorem GL.lit0 {α : Type} [Rep α] (nd : Bool) (lo lo' : Nat) (w : World) (E : TypeId) (h : lo ≤ w.heap.size) : GL (α := α) nd lo lo' (w.heap.size + 1) (w.alloc (.cells #[] E)) E (.slice (some ⟨w.heap.size, 0, none⟩) 0 0) [] :=
  ⟨[], [], by simpa using World.ownsRow_made (e := E) (size := Rep.sz α) w #[] 0 h (Nat.zero_le _) (by simp), trivial, by simp, by simp [Value.ownBlock], fun _ => List.nodup_nil⟩

section
variable {z z' : Bool} {lo hi lo' hi' : Nat} (w : World) (u v : Value) (p q : List Int)
set_option maxHeartbeats 1000000 in
theorem composedI_any (h : Rd z lo hi w [u] p) (h' : Rd z' lo' hi' w [v] q) (hl : p.length ≤ 1048576) (hr : InRange q.length p) :
    Calls Try.prog 54 #[u, v] w (PostOw w (comp p q)) := by
  obtain ⟨ao, n, cap, rfl, rfl, hnc, hcm, hnone⟩ := h.shape
  obtain ⟨ao', n', cap', rfl, rfl, hnc', hcm', hnone'⟩ := h'.shape
  have HR := Lib.hid hr
  clear hr
  go_enter Try.func54, Try.ntmps54
  go_wp2
  go_loopw [5, 7, 10] (fun o r i wr => ∃ k : Nat, k ≤ p.length ∧ i = .int .i64 k ∧ GL true w.heap.size w.heap.size wr.heap.size wr 3 o (comp (p.take k) q) ∧ Below w.heap.size w wr) (fun _ _ i _ => p.length - (intOf i).toNat)
  case atStart => exact ⟨0, Nat.zero_le _, rfl, GL.start _ _ _ _ _ _, Below.refl _ _⟩
  case round =>
    rename_i wr
    obtain ⟨k, hk, rfl, hG, hb⟩ := hrel
    have sW := hb.size
    by_cases hlt : k < p.length
    · obtain ⟨b, off, x, rfl, hx, hc, hx1, hx2, _⟩ := (h.below hb).int_at hlt
      have hin := HR.out x (List.mem_of_getElem? hx.out)
      obtain ⟨m, rfl⟩ := Int.eq_ofNat_of_zero_le hin.1
      have hm : m < q.length := by omega
      have hmI : (m : Int) < q.length := by omega
      obtain ⟨b', off', y, rfl, hy, hc', hy1, hy2, _⟩ := (h'.below hb).int_at hm
      have HC := Lib.hid (comp_snoc hx.out rfl hy.out)
      have hlc : (comp (p.take k) q).length ≤ 1048576 := by rw [comp_len]; simp; omega
      clear hx h hin hy HR h'
      go_wp2_with (at_builtin; refine wpList_push rfl rfl slInt (by show (0 : Nat) < 1; omega) (hG.alloc _) rfl (ad := ⟨wr.heap.size, 0, none⟩) rfl (cs := [.int .i64 y]) (y := y) (lx := wr.heap.size) (hx' := wr.heap.size) ?c1 (It.flat (z := true) (w0 := wr) (fp := []) ⟨rfl, ⟨hy1, hy2⟩, rfl⟩) sW (.inl (Nat.le_refl _)) (by unfold maxLen; omega) (by omega) ?c2 ?_)
      case c1 =>
        intro j c hj
        match j, hj with
        | 0, hj => simp at hj; subst hj; simp [Addr.add]
      case c2 => simp; omega
      intro v' w1 hG1 _ hb1
      have HG := Lib.hid hG1
      have hB1 : Below w.heap.size w w1 := Below.trans (hb.alloc sW _) hb1
      clear hG hG1 hb1
      go_wp2
      go_roundw
      case rel => exact ⟨k + 1, by omega, by go_num, by rw [HC.out]; exact HG.out, hB1⟩
      case measure => simp [intOf]; omega
    · have HO := Lib.hid (hG.ow (l0 := w.heap.size) (Nat.le_refl _) (Nat.le_refl _))
      clear hG h h' HR
      go_wp2
      go_ret
      refine ⟨_, rfl, ?_, hb⟩
      have := HO.out
      rwa [List.take_of_length_le (by omega)] at this
set_option maxHeartbeats 1000000 in
theorem composedS_any (h : Rd z lo hi w [u] p) (h' : Rd z' lo' hi' w [v] q) (hl : p.length ≤ 1048576) (hr : InRange q.length p) :
    Calls Try.prog 82 #[u, v] w (PostOw w (comp p q)) := by
  obtain ⟨ao, n, cap, rfl, rfl, hnc, hcm, hnone⟩ := h.shape
  obtain ⟨ao', n', cap', rfl, rfl, hnc', hcm', hnone'⟩ := h'.shape
  have HR := Lib.hid hr
  clear hr
  go_enter Try.func82, Try.ntmps82
  go_wp2
  go_loopw [5, 7, 11] (fun o r i wr => ∃ k : Nat, k ≤ p.length ∧ i = .int .i64 k ∧ GL true w.heap.size w.heap.size wr.heap.size wr 3 o (comp (p.take k) q) ∧ Below w.heap.size w wr) (fun _ _ i _ => p.length - (intOf i).toNat)
  case atStart => exact ⟨0, Nat.zero_le _, rfl, (GL.lit0 _ _ _ _ _ (Nat.le_refl _)).top, (Below.refl _ _).alloc (Nat.le_refl _) _⟩
  case round =>
    rename_i wr
    obtain ⟨k, hk, rfl, hG, hb⟩ := hrel
    have sW := hb.size
    by_cases hlt : k < p.length
    · obtain ⟨b, off, x, rfl, hx, hc, hx1, hx2, _⟩ := (h.below hb).int_at hlt
      have hin := HR.out x (List.mem_of_getElem? hx.out)
      obtain ⟨m, rfl⟩ := Int.eq_ofNat_of_zero_le hin.1
      have hm : m < q.length := by omega
      have hmI : (m : Int) < q.length := by omega
      obtain ⟨b', off', y, rfl, hy, hc', hy1, hy2, _⟩ := (h'.below hb).int_at hm
      have HC := Lib.hid (comp_snoc hx.out rfl hy.out)
      have hlc : (comp (p.take k) q).length ≤ 1048576 := by rw [comp_len]; simp; omega
      clear hx h hin hy HR h'
      go_wp2_with (at_builtin; refine wpList_push rfl rfl slInt (by show (0 : Nat) < 1; omega) (hG.alloc _) rfl (ad := ⟨wr.heap.size, 0, none⟩) rfl (cs := [.int .i64 y]) (y := y) (lx := wr.heap.size) (hx' := wr.heap.size) ?c1 (It.flat (z := true) (w0 := wr) (fp := []) ⟨rfl, ⟨hy1, hy2⟩, rfl⟩) sW (.inl (Nat.le_refl _)) (by unfold maxLen; omega) (by omega) ?c2 ?_)
      case c1 =>
        intro j c hj
        match j, hj with
        | 0, hj => simp at hj; subst hj; simp [Addr.add]
      case c2 => simp; omega
      intro v' w1 hG1 _ hb1
      have HG := Lib.hid hG1
      have hB1 : Below w.heap.size w w1 := Below.trans (hb.alloc sW _) hb1
      clear hG hG1 hb1
      go_wp2
      go_roundw
      case rel => exact ⟨k + 1, by omega, by go_num, by rw [HC.out]; exact HG.out, hB1⟩
      case measure => simp [intOf]; omega
    · have HO := Lib.hid (hG.ow (l0 := w.heap.size) (Nat.le_refl _) (Nat.le_refl _))
      clear hG h h' HR
      go_wp2
      go_ret
      refine ⟨_, rfl, ?_, hb⟩
      have := HO.out
      rwa [List.take_of_length_le (by omega)] at this

/-- Permutations joined; nothing of what does not fit. -/
def compP (p q : List Int) : List Int := if isPerm p = true ∧ isPerm q = true ∧ p.length = q.length then comp p q else []
end

end

/-! ### Perm3 -/
section

section
variable {z z' : Bool} {lo hi lo' hi' : Nat} (w : World) (u v : Value) (p q : List Int)


end

/-- A valid system. -/
def isCls (c : Cls) : Bool := decide (1 ≤ c.1.length ∧ c.1.length ≤ 8 ∧ c.2.length = c.1.length) && isPerm c.1 && isPerm c.2

section
variable {z z' : Bool} {lo hi lo' hi' : Nat} (w : World) (u v : Value) (c : Cls)
set_option maxHeartbeats 2000000 in
theorem isClsI_b (h : Rd z lo hi w [u, v] c) (r : Bool) (hr : r = isCls c) :
    Calls Try.prog 50 #[.agg #[u, v]] w (PostB w r) := by
  obtain ⟨p, q⟩ := c
  obtain ⟨hp, hq⟩ := h.two rfl
  clear h
  dsimp only at hp hq
  obtain ⟨ao, n, cap, rfl, hn, hnc, hcm, hnone⟩ := hp.shape
  subst hn
  obtain ⟨ao', n', cap', rfl, hn', hnc', hcm', hnone'⟩ := hq.shape
  subst hn'
  unfold maxLen at *
  have HC := Lib.hid hr
  clear hr
  by_cases h1 : 1 ≤ p.length
  · by_cases h2 : p.length ≤ 8
    · by_cases h3 : q.length = p.length
      · have hbeq : ((q.length : Int) == (p.length : Int)) = true := by simp [h3]
        have hle : q.length ≤ 8 := by omega
        have HL := Lib.hid h3
        clear h3
        obtain ⟨r1, hr1⟩ : ∃ r, r = isPerm p := ⟨_, rfl⟩
        obtain ⟨r2, hr2⟩ : ∃ r, r = isPerm q := ⟨_, rfl⟩
        have H1 := Lib.hid hr1
        have H2 := Lib.hid hr2
        have HCE := Lib.hid (show r = (r1 && r2) by rw [HC.out, isCls, hr1, hr2]; simp [h1, h2, HL.out])
        clear hr1 hr2
        cases r1
        · obtain rfl : r = false := by rw [HCE.out]; rfl
          go_enter Try.func50, Try.ntmps50
          go_wp2_with fail
          refine (isPermI_b _ _ _ (hp.below (by go_grown)) (by omega) _ H1.out).mono ?_
          rintro e w1 ⟨rfl, hb1⟩
          have hB1 : Below w.heap.size w w1 := Below.after bwT hb1 szT; have s1 := hb1.size; obtain ⟨hc1, hf1⟩ := bcell hb1; try simp only [World.size_alloc, World.size_setCell, World.size_drew] at s1 hc1 hf1
          clear hb1
          go_wp2
          go_ret
          exact ⟨rfl, hB1⟩
        · obtain rfl : r = r2 := by rw [HCE.out]; simp
          go_enter Try.func50, Try.ntmps50
          go_wp2_with fail
          refine (isPermI_b _ _ _ (hp.below (by go_grown)) (by omega) _ H1.out).mono ?_
          rintro e w1 ⟨rfl, hb1⟩
          have hB1 : Below w.heap.size w w1 := Below.after bwT hb1 szT; have s1 := hb1.size; obtain ⟨hc1, hf1⟩ := bcell hb1; try simp only [World.size_alloc, World.size_setCell, World.size_drew] at s1 hc1 hf1
          have l0 : w.heap.size < w1.heap.size := by omega
          clear hb1
          go_wp2_with fail
          refine (isPermI_b _ _ _ (hq.below hB1) (by omega) _ H2.out).mono ?_
          rintro e w2 ⟨rfl, hb2⟩
          have hB2 : Below w.heap.size w w2 := hB1.trans (hb2.mono (by omega))
          go_wp2
          go_ret
          exact ⟨rfl, hB2⟩
      · obtain rfl : r = false := by rw [HC.out, isCls]; simp [h3]
        have hbeq : ((q.length : Int) == (p.length : Int)) = false := by simp; omega
        clear h3 hp hq
        go_enter Try.func50, Try.ntmps50
        go_wp2
        go_ret
        exact ⟨rfl, bwT⟩
    · obtain rfl : r = false := by rw [HC.out, isCls]; simp [h2]
      clear hp hq
      go_enter Try.func50, Try.ntmps50
      go_wp2
      go_ret
      exact ⟨rfl, bwT⟩
  · obtain rfl : r = false := by rw [HC.out, isCls]; simp [h1]
    clear hp hq
    go_enter Try.func50, Try.ntmps50
    go_wp2
    go_ret
    exact ⟨rfl, bwT⟩

set_option maxHeartbeats 2000000 in
theorem isClsS_b (h : Rd z lo hi w [u, v] c) (hl1 : c.1.length ≤ 1048576) (r : Bool) (hr : r = isCls c) :
    Calls Try.prog 81 #[.agg #[u, v]] w (PostB w r) := by
  obtain ⟨p, q⟩ := c
  obtain ⟨hp, hq⟩ := h.two rfl
  clear h
  dsimp only at hp hq hl1
  obtain ⟨ao, n, cap, rfl, hn, hnc, hcm, hnone⟩ := hp.shape
  subst hn
  obtain ⟨ao', n', cap', rfl, hn', hnc', hcm', hnone'⟩ := hq.shape
  subst hn'
  unfold maxLen at *
  have HC := Lib.hid hr
  clear hr
  obtain ⟨r0, hr0⟩ : ∃ r, r = decide ((1 : Int) ≤ p.length ∧ (p.length : Int) ≤ 8) := ⟨_, rfl⟩
  have H0 := Lib.hid hr0
  clear hr0
  cases r0
  · obtain rfl : r = false := by
      have := H0.out
      rw [HC.out, isCls]
      simp at this ⊢
      omega
    go_enter Try.func81, Try.ntmps81
    go_wp2_with fail
    refine (l1In_b _ _ _ _ _ H0.out).mono ?_
    rintro e w1 ⟨rfl, hb1⟩
    have hB1 : Below w.heap.size w w1 := Below.after bwT hb1 szT; have s1 := hb1.size; obtain ⟨hc1, hf1⟩ := bcell hb1; try simp only [World.size_alloc, World.size_setCell, World.size_drew] at s1 hc1 hf1
    go_wp2
    go_ret
    exact ⟨rfl, hB1⟩
  · obtain ⟨h1, h2⟩ : 1 ≤ p.length ∧ p.length ≤ 8 := by have := H0.out; simp at this; omega
    by_cases h3 : q.length = p.length
    · have hbeq : ((p.length : Int) == (q.length : Int)) = true := by simp [h3]
      have hle : q.length ≤ 8 := by omega
      obtain ⟨r1, hr1⟩ : ∃ r, r = isPerm p := ⟨_, rfl⟩
      obtain ⟨r2, hr2⟩ : ∃ r, r = isPerm q := ⟨_, rfl⟩
      have H1 := Lib.hid hr1
      have H2 := Lib.hid hr2
      have HCE := Lib.hid (show r = (r1 && r2) by rw [HC.out, isCls, hr1, hr2]; simp [h1, h2, h3])
      clear hr1 hr2 h3
      cases r1
      · obtain rfl : r = false := by rw [HCE.out]; rfl
        go_enter Try.func81, Try.ntmps81
        go_wp2_with fail
        refine (l1In_b _ _ _ _ _ H0.out).mono ?_
        rintro e w1 ⟨rfl, hb1⟩
        have hB1 : Below w.heap.size w w1 := Below.after bwT hb1 szT; have s1 := hb1.size; obtain ⟨hc1, hf1⟩ := bcell hb1; try simp only [World.size_alloc, World.size_setCell, World.size_drew] at s1 hc1 hf1
        have l0 : w.heap.size < w1.heap.size := by omega
        clear hb1
        go_wp2_with fail
        refine (isPermS_b _ _ _ (hp.below hB1) (by omega) _ H1.out).mono ?_
        rintro e w2 ⟨rfl, hb2⟩
        have hB2 : Below w.heap.size w w2 := hB1.trans (hb2.mono (by omega))
        go_wp2
        go_ret
        exact ⟨rfl, hB2⟩
      · obtain rfl : r = r2 := by rw [HCE.out]; simp
        go_enter Try.func81, Try.ntmps81
        go_wp2_with fail
        refine (l1In_b _ _ _ _ _ H0.out).mono ?_
        rintro e w1 ⟨rfl, hb1⟩
        have hB1 : Below w.heap.size w w1 := Below.after bwT hb1 szT; have s1 := hb1.size; obtain ⟨hc1, hf1⟩ := bcell hb1; try simp only [World.size_alloc, World.size_setCell, World.size_drew] at s1 hc1 hf1
        have l0 : w.heap.size < w1.heap.size := by omega
        clear hb1
        go_wp2_with fail
        refine (isPermS_b _ _ _ (hp.below hB1) (by omega) _ H1.out).mono ?_
        rintro e w2 ⟨rfl, hb2⟩
        have hB2 : Below w.heap.size w w2 := hB1.trans (hb2.mono (by omega))
        have s2 := hb2.size
        obtain ⟨hc2, hf2⟩ := bcell hb2
        have l2 : w.heap.size < w2.heap.size := by omega
        go_wp2_with fail
        refine (isPermS_b _ _ _ (hq.below hB2) (by omega) _ H2.out).mono ?_
        rintro e w3 ⟨rfl, hb3⟩
        have hB3 : Below w.heap.size w w3 := hB2.trans (hb3.mono (by omega))
        go_wp2
        go_ret
        exact ⟨rfl, hB3⟩
    · obtain rfl : r = false := by rw [HC.out, isCls]; simp [h3]
      have hbeq : ((p.length : Int) == (q.length : Int)) = false := by simp; omega
      clear h3 hp hq
      go_enter Try.func81, Try.ntmps81
      go_wp2_with fail
      refine (l1In_b _ _ _ _ _ H0.out).mono ?_
      rintro e w1 ⟨rfl, hb1⟩
      have hB1 : Below w.heap.size w w1 := Below.after bwT hb1 szT; have s1 := hb1.size; obtain ⟨hc1, hf1⟩ := bcell hb1; try simp only [World.size_alloc, World.size_setCell, World.size_drew] at s1 hc1 hf1
      have l0 : w.heap.size < w1.heap.size := by omega
      clear hb1
      go_wp2
      go_ret
      exact ⟨rfl, hB1⟩
end
/-- One value that is owned and new comes back, and a bool. -/
def PostOwB {α : Type} [Rep α] (w : World) (x : α) (b : Bool) (e : Ending) (w' : World) : Prop := ∃ u, e = .returned (.tuple #[u, .bool b]) ∧ Ow w.heap.size w'.heap.size w' [u] x ∧ Below w.heap.size w w'

end

end Go.Proofs.Ytefbbbhidnnchaa
