/- Contracts of the reference: parents, children. Written by mkf_gen.py. -/
import Derived.Test.YtefbbbhidnnchaaMkfA
namespace Go.Proofs.Ytefbbbhidnnchaa
set_option linter.unusedVariables false
set_option linter.unusedSimpArgs false
open Go.RowKit

/-- The parents. -/
def parX (fa mo : Int) : List Int := (if 0 ≤ fa then [fa] else []) ++ (if 0 ≤ mo then [mo] else [])
theorem It.int1 {w0 w : World} (lo : Nat) {x : Int} (h : I64 x) : It true lo lo w [.int .i64 x] x := It.flat (z := true) (w0 := w0) (fp := []) ⟨rfl, h, rfl⟩
theorem cells_one (w : World) (x : Int) (t : TypeId) : ∀ (j : Nat) (c : Value), [Value.int .i64 x][j]? = some c → (w.alloc (.cells #[.int .i64 x] t)).cell? ((⟨w.heap.size, 0, none⟩ : Addr).add j) = some c := by
  intro j c hj
  match j, hj with
  | 0, hj => simp at hj; subst hj; simp [Addr.add]
set_option maxRecDepth 20000 in
set_option maxHeartbeats 4000000 in
theorem l1Parents_any {z : Bool} {lo hi : Nat} (w : World) (v v2 : Value) (ps : List Per) (h : Rd z lo hi w [v] ps) (k : Nat) {nm : ByteArray} {sx fa mo bo di : Int} (hx : ps[k]? = some (nm, sx, fa, mo, bo, di)) :
    Calls Try.prog 34 #[.agg #[v, v2], .int .i64 k] w (PostOw w (parX fa mo)) := by
  obtain ⟨ao, n, cap, rfl, hn, -⟩ := h.shape
  subst hn
  have hk := (List.getElem?_eq_some_iff.1 hx).1
  obtain ⟨b, off, nm', sx', fa', mo', bo', di', rfl, hx', x0, x1, x2, x3, x4, x5, -, -, gf, gm, -, -, -, -, hb, -⟩ := h.per_at hk
  have he := hx'.out
  rw [hx] at he
  simp only [Option.some.injEq, Prod.mk.injEq] at he
  obtain ⟨rfl, rfl, rfl, rfl, rfl, rfl⟩ := he
  have hki : (k : Int) < (ps.length : Int) := by omega
  have q0 : ((w.alloc (.cells #[.slice (some ⟨b, off, none⟩) ps.length cap, v2] 26)).alloc (.cells #[] 3)).cell? ⟨w.heap.size, 0, none⟩ = some (.slice (some ⟨b, off, none⟩) ps.length cap) := by
    have : (w.alloc (.cells #[.slice (some ⟨b, off, none⟩) ps.length cap, v2] 26)).cell? ⟨w.heap.size, 0, none⟩ = some (.slice (some ⟨b, off, none⟩) ps.length cap) := by simp [go_sem]
    exact oldc (show Below (w.heap.size + 1) (w.alloc (.cells #[.slice (some ⟨b, off, none⟩) ps.length cap, v2] 26)) _ from bwT) (Nat.lt_succ_self _) this
  have hG0 : GL (α := Int) true (w.heap.size + 1) (w.heap.size + 1) (w.heap.size + 2) ((w.alloc (.cells #[.slice (some ⟨b, off, none⟩) ps.length cap, v2] 26)).alloc (.cells #[] 3)) 3 (.slice (some ⟨w.heap.size + 1, 0, none⟩) 0 0) [] := by
    have := GL.lit0 (α := Int) true (w.heap.size + 1) (w.heap.size + 1) (w.alloc (.cells #[.slice (some ⟨b, off, none⟩) ps.length cap, v2] 26)) 3 (by simp)
    simpa using this.top
  obtain ⟨W0, hW0⟩ : ∃ W0, W0 = ((w.alloc (.cells #[.slice (some ⟨b, off, none⟩) ps.length cap, v2] 26)).alloc (.cells #[] 3)) := ⟨_, rfl⟩
  rw [← hW0] at q0 hG0
  have s0 : W0.heap.size = w.heap.size + 2 := by rw [hW0]; simp
  have hB0 : Below w.heap.size w W0 := by rw [hW0]; exact bwT
  have y2 := oldc hB0 hb x2
  have y3 := oldc hB0 hb x3
  have HG0 := Lib.hid hG0
  clear h hx hx' x0 x1 x4 x5 hG0
  go_enter Try.func34, Try.ntmps34
  go_upto_region 1 with fail
  go_cut [5] (fun s5 wx => wx = W0 ∧ Hid (GL (α := Int) true (w.heap.size + 1) (w.heap.size + 1) (w.heap.size + 2) W0 3 s5 []))
  case first =>
    go_wp2_with fail
    go_meet
    exact ⟨hW0.symm, HG0⟩
  case rest =>
    obtain ⟨rfl, HG0⟩ := hcut
    have hG0 := HG0.out.top
    obtain ⟨a0, c0, rfl, -, -⟩ := hG0.len
    replace s0 : w.heap.size + 2 ≤ wc.heap.size := Nat.le_of_eq s0.symm
    clear hW0 x2 x3 HG0
    by_cases hfa : 0 ≤ fa
    · skip
      go_wp2_with (at_builtin; refine wpList_push rfl rfl slInt (by show (0 : Nat) < 1; omega) (hG0.below bwT) rfl (ad := ⟨wc.heap.size, 0, none⟩) rfl (cs := [.int .i64 (fa)]) (y := fa) (lx := wc.heap.size) (hx' := wc.heap.size) (cells_one _ _ _) (It.int1 (w0 := wc) _ gf) (by first | omega | (simp; done) | (simp; omega)) (.inl (Nat.le_refl _)) (by unfold maxLen; first | omega | (simp; done) | (simp; omega)) (by first | omega | (simp; done) | (simp; omega)) (by first | omega | (simp; done) | (simp; omega)) ?_)
      intro v8 w8 hG8 _ hb8
      obtain ⟨a8, c8, rfl, -, -⟩ := hG8.len
      have hp8 : Below (w.heap.size + 1) wc w8 := Below.trans bwT hb8
      have s8 := hp8.size
      clear hb8
      have hB8 : Below w.heap.size w w8 := hB0.trans (hp8.mono (by omega))
      have q0 := oldc hp8 (Nat.lt_succ_self _) q0
      have y3 := oldc hp8 (by omega) y3
      have hG8 := hG8
      by_cases hmo : 0 ≤ mo
      · have HX := Lib.hid (show parX fa mo = [fa] ++ [mo] by unfold parX; simp [*])
        go_wp2_with (at_builtin; refine wpList_push rfl rfl slInt (by show (0 : Nat) < 1; omega) (hG8.below bwT) rfl (ad := ⟨w8.heap.size, 0, none⟩) rfl (cs := [.int .i64 (mo)]) (y := mo) (lx := w8.heap.size) (hx' := w8.heap.size) (cells_one _ _ _) (It.int1 (w0 := w8) _ gm) (by first | omega | (simp; done) | (simp; omega)) (.inl (Nat.le_refl _)) (by unfold maxLen; first | omega | (simp; done) | (simp; omega)) (by first | omega | (simp; done) | (simp; omega)) (by first | omega | (simp; done) | (simp; omega)) ?_)
        intro v9 w9 hG9 _ hb9
        obtain ⟨a9, c9, rfl, -, -⟩ := hG9.len
        have hp9 : Below (w.heap.size + 1) w8 w9 := Below.trans bwT hb9
        have s9 := hp9.size
        clear hb9
        have hB9 : Below w.heap.size w w9 := hB8.trans (hp9.mono (by omega))
        go_wp2
        go_ret
        rw [HX.out]
        exact ⟨_, rfl, hG9.ow (by omega) (by omega), hB9⟩
      · have HX := Lib.hid (show parX fa mo = [fa] by unfold parX; simp [*])
        go_wp2
        go_ret
        rw [HX.out]
        exact ⟨_, rfl, (hG8.ow (by omega) (by omega)).mono (Nat.le_refl _) (by first | omega | (simp; done) | (simp; omega)), hB8⟩
    · skip
      by_cases hmo : 0 ≤ mo
      · have HX := Lib.hid (show parX fa mo = ([] : List Int) ++ [mo] by unfold parX; simp [*])
        go_wp2_with (at_builtin; refine wpList_push rfl rfl slInt (by show (0 : Nat) < 1; omega) (hG0.below bwT) rfl (ad := ⟨wc.heap.size, 0, none⟩) rfl (cs := [.int .i64 (mo)]) (y := mo) (lx := wc.heap.size) (hx' := wc.heap.size) (cells_one _ _ _) (It.int1 (w0 := wc) _ gm) (by first | omega | (simp; done) | (simp; omega)) (.inl (Nat.le_refl _)) (by unfold maxLen; first | omega | (simp; done) | (simp; omega)) (by first | omega | (simp; done) | (simp; omega)) (by first | omega | (simp; done) | (simp; omega)) ?_)
        intro v9 w9 hG9 _ hb9
        obtain ⟨a9, c9, rfl, -, -⟩ := hG9.len
        have hp9 : Below (w.heap.size + 1) wc w9 := Below.trans bwT hb9
        have s9 := hp9.size
        clear hb9
        have hB9 : Below w.heap.size w w9 := hB0.trans (hp9.mono (by omega))
        go_wp2
        go_ret
        rw [HX.out]
        exact ⟨_, rfl, hG9.ow (by omega) (by omega), hB9⟩
      · have HX := Lib.hid (show parX fa mo = ([] : List Int) by unfold parX; simp [*])
        go_wp2
        go_ret
        rw [HX.out]
        exact ⟨_, rfl, (hG0.ow (by omega) (by omega)).mono (Nat.le_refl _) (by first | omega | (simp; done) | (simp; omega)), hB0⟩
/-- One number more in its place. -/
def PostBA (L : List Int) (x : Int) (w : World) (e : Ending) (w' : World) : Prop := ∃ (u : Value) (M : List Int), e = .returned u ∧ Rd true 0 w'.heap.size w' [u] M ∧ Hid ((∀ y ∈ L, y ∈ M) ∧ x ∈ M ∧ ∀ y ∈ M, y ∈ L ∨ y = x) ∧ M.length ≤ L.length + 1 ∧ Below w.heap.size w w'
def baI (L : List Int) (x : Int) (j : Nat) (d : Bool) (O : List Int) : Prop := (∀ y ∈ L.take j, y ∈ O) ∧ (d = true → x ∈ O) ∧ (∀ y ∈ O, y ∈ L ∨ y = x) ∧ O.length = j + (if d = true then 1 else 0)
theorem baI.next {L : List Int} {x y : Int} {j : Nat} {d : Bool} {O : List Int} (h : baI L x j d O) (hy : L[j]? = some y) : baI L x (j + 1) d (O ++ [y]) := by
  obtain ⟨h1, h2, h3, h4⟩ := h
  refine ⟨fun z hz => ?_, fun hd => List.mem_append.2 (.inl (h2 hd)), fun z hz => ?_, by rw [List.length_append, List.length_singleton, h4]; omega⟩
  · rw [take_snoc hy, List.mem_append] at hz
    exact List.mem_append.2 (hz.imp (h1 z) id)
  · rcases List.mem_append.1 hz with hz | hz
    · exact h3 z hz
    · rw [List.mem_singleton] at hz; subst hz; exact .inl (List.mem_of_getElem? hy)
theorem baI.put {L : List Int} {x : Int} {j : Nat} {O : List Int} (h : baI L x j false O) : baI L x j true (O ++ [x]) := by
  obtain ⟨h1, h2, h3, h4⟩ := h
  refine ⟨fun z hz => List.mem_append.2 (.inl (h1 z hz)), fun _ => by simp, fun z hz => ?_, by rw [List.length_append, List.length_singleton, h4]; simp⟩
  rcases List.mem_append.1 hz with hz | hz
  · exact h3 z hz
  · rw [List.mem_singleton] at hz; exact .inr hz
theorem baI.fin {L : List Int} {x : Int} {O : List Int} (h : baI L x L.length true O) : ((∀ y ∈ L, y ∈ O) ∧ x ∈ O ∧ ∀ y ∈ O, y ∈ L ∨ y = x) ∧ O.length ≤ L.length + 1 := by
  obtain ⟨h1, h2, h3, h4⟩ := h
  rw [List.take_length] at h1
  exact ⟨⟨h1, h2 rfl, h3⟩, by rw [h4]; simp⟩
set_option maxRecDepth 20000 in
set_option maxHeartbeats 8000000 in
theorem l1ByAge_any {z z' : Bool} {lo hi lo' hi' : Nat} (w : World) (v v2 vl : Value) (ps : List Per) (h : Rd z lo hi w [v] ps) (L : List Int) (hL : Rd z' lo' hi' w [vl] L) (hin : ∀ y ∈ L, ∃ k : Nat, y = k ∧ k < ps.length) (x : Nat) (hx : x < ps.length) (hl : L.length ≤ 40) (hxI : I64 (x : Int)) :
    Calls Try.prog 110 #[.agg #[v, v2], vl, .int .i64 x] w (PostBA L x w) := by
  obtain ⟨ao, n, cap, rfl, hn, -⟩ := h.shape
  subst hn
  obtain ⟨la, ln, lcap, rfl, hln, -⟩ := hL.shape
  subst hln
  have HH := Lib.hid h
  have HL := Lib.hid hL
  have HIN := Lib.hid hin
  have q0 : ((w.alloc (.cells #[.slice ao ps.length cap, v2] 26)).alloc (.cells #[] 3)).cell? ⟨w.heap.size, 0, none⟩ = some (.slice ao ps.length cap) := by
    have : (w.alloc (.cells #[.slice ao ps.length cap, v2] 26)).cell? ⟨w.heap.size, 0, none⟩ = some (.slice ao ps.length cap) := by simp [go_sem]
    exact oldc (show Below (w.heap.size + 1) (w.alloc (.cells #[.slice ao ps.length cap, v2] 26)) _ from bwT) (Nat.lt_succ_self _) this
  have q1 : ((w.alloc (.cells #[.slice ao ps.length cap, v2] 26)).alloc (.cells #[] 3)).cell? ⟨w.heap.size, 1, none⟩ = some v2 := by
    have : (w.alloc (.cells #[.slice ao ps.length cap, v2] 26)).cell? ⟨w.heap.size, 1, none⟩ = some v2 := by simp [go_sem]
    exact oldc (show Below (w.heap.size + 1) (w.alloc (.cells #[.slice ao ps.length cap, v2] 26)) _ from bwT) (Nat.lt_succ_self _) this
  have hG0 : GL (α := Int) true (w.heap.size + 1) (w.heap.size + 1) (w.heap.size + 2) ((w.alloc (.cells #[.slice ao ps.length cap, v2] 26)).alloc (.cells #[] 3)) 3 (.slice (some ⟨w.heap.size + 1, 0, none⟩) 0 0) [] := by
    have := GL.lit0 (α := Int) true (w.heap.size + 1) (w.heap.size + 1) (w.alloc (.cells #[.slice ao ps.length cap, v2] 26)) 3 (by simp)
    simpa using this.top
  obtain ⟨W0, hW0⟩ : ∃ W0, W0 = ((w.alloc (.cells #[.slice ao ps.length cap, v2] 26)).alloc (.cells #[] 3)) := ⟨_, rfl⟩
  rw [← hW0] at q0 q1 hG0
  have s0 : W0.heap.size = w.heap.size + 2 := by rw [hW0]; simp
  have hB0 : Below w.heap.size w W0 := by rw [hW0]; exact bwT
  have HG0 := Lib.hid (show GL (α := Int) true (w.heap.size + 1) (w.heap.size + 1) W0.heap.size W0 3 (.slice (some ⟨w.heap.size + 1, 0, none⟩) 0 0) [] by rw [s0]; exact hG0)
  replace s0 : w.heap.size + 2 ≤ W0.heap.size := Nat.le_of_eq s0.symm
  clear h hL hin hG0
  go_enter Try.func110, Try.ntmps110
  go_upto_region 2 with fail
  rw [← hW0]
  clear hW0
  go_wp2
  go_loopw [7, 8, 10, 14] (fun s7 s8 _ s14 wl => ∃ (j : Nat) (d : Bool) (O : List Int), j ≤ L.length ∧ s14 = .int .i64 j ∧ s8 = .bool d ∧ Hid (GL true (w.heap.size + 1) (w.heap.size + 1) wl.heap.size wl 3 s7 O) ∧ Hid (baI L x j d O) ∧ Below (w.heap.size + 1) W0 wl) (fun _ _ _ s14 _ => L.length - (intOf s14).toNat)
  case atStart => exact ⟨0, false, [], Nat.zero_le _, rfl, rfl, HG0, Lib.hid ⟨by simp, by simp, by simp, rfl⟩, Below.refl _ _⟩
  case round =>
    clear HG0
    obtain ⟨wl, hwl⟩ : ∃ x : World, x = wr := ⟨_, rfl⟩
    subst hwl
    obtain ⟨j, d, O, hj, rfl, rfl, HG, HI, hBl⟩ := hrel
    obtain ⟨ga, gc, rfl, -, -⟩ := HG.out.len
    have sl := hBl.size
    have hBw : Below w.heap.size w wl := hB0.trans (hBl.mono (by omega))
    have hOl : O.length ≤ j + 1 := by have := HI.out.2.2.2; rw [this]; split <;> omega
    have q0 := oldc hBl (Nat.lt_succ_self _) q0
    have q1 := oldc hBl (Nat.lt_succ_self _) q1
    by_cases hjl : j < L.length
    · have hjI : (j : Int) < (L.length : Int) := by omega
      obtain ⟨bl, ofl, y, rfl, hy, y0, gy1, gy2, -, -, lbl, -⟩ := (HL.out.below hBw).int_at hjl
      obtain ⟨yk, rfl, hyk⟩ := HIN.out y (List.mem_of_getElem? hy.out)
      have HY := Lib.hid hy.out
      have gy : I64 (yk : Int) := ⟨gy1, gy2⟩
      clear hy
      cases d
      · go_wp2_with fail
        refine (l1Elder_any _ _ _ ps (HH.out.below hBw) x yk hx hyk).mono ?_
        rintro e w1 ⟨r, rfl, hb1⟩
        have hp1 : Below wl.heap.size wl w1 := hb1
        have s1 := hp1.size
        have HG1 := Lib.hid ((HG.out.below hp1).top)
        have hB1 : Below (w.heap.size + 1) W0 w1 := hBl.trans (hp1.mono (by omega))
        clear hb1 HG
        cases r
        · skip
          go_wp2_with (at_builtin; refine wpList_push rfl rfl slInt (by show (0 : Nat) < 1; omega) (HG1.out.below bwT) rfl (ad := ⟨w1.heap.size, 0, none⟩) rfl (cs := [.int .i64 ((yk : Nat) : Int)]) (y := ((yk : Nat) : Int)) (lx := w1.heap.size) (hx' := w1.heap.size) (cells_one _ _ _) (It.int1 (w0 := w1) _ gy) (by first | omega | (simp; done) | (simp; omega)) (.inl (Nat.le_refl _)) (by unfold maxLen; first | omega | (simp; done) | (simp; omega)) (by first | omega | (simp; done) | (simp; omega)) (by first | omega | (simp; done) | (simp; omega)) ?_)
          intro v2 w2 hG2 _ hb2
          obtain ⟨a2, c2, rfl, -, -⟩ := hG2.len
          have hp2 : Below (w.heap.size + 1) w1 w2 := Below.trans bwT hb2
          have s2 := hp2.size
          have HG2 := Lib.hid hG2
          clear hb2 hG2
          go_wp2
          go_roundw
          case rel => exact ⟨j + 1, false, _, by omega, by go_num, rfl, HG2, Lib.hid (HI.out.next HY.out), hB1.trans hp2⟩
          case measure => simp [intOf]; omega
        · skip
          go_wp2_with (at_builtin; refine wpList_push rfl rfl slInt (by show (0 : Nat) < 1; omega) (HG1.out.below bwT) rfl (ad := ⟨w1.heap.size, 0, none⟩) rfl (cs := [.int .i64 ((x : Nat) : Int)]) (y := ((x : Nat) : Int)) (lx := w1.heap.size) (hx' := w1.heap.size) (cells_one _ _ _) (It.int1 (w0 := w1) _ hxI) (by first | omega | (simp; done) | (simp; omega)) (.inl (Nat.le_refl _)) (by unfold maxLen; first | omega | (simp; done) | (simp; omega)) (by first | omega | (simp; done) | (simp; omega)) (by first | omega | (simp; done) | (simp; omega)) ?_)
          intro v2 w2 hG2 _ hb2
          obtain ⟨a2, c2, rfl, -, -⟩ := hG2.len
          have hp2 : Below (w.heap.size + 1) w1 w2 := Below.trans bwT hb2
          have s2 := hp2.size
          have HG2 := Lib.hid hG2
          clear hb2 hG2
          go_wp2_with (at_builtin; refine wpList_push rfl rfl slInt (by show (0 : Nat) < 1; omega) (HG2.out.below bwT) rfl (ad := ⟨w2.heap.size, 0, none⟩) rfl (cs := [.int .i64 ((yk : Nat) : Int)]) (y := ((yk : Nat) : Int)) (lx := w2.heap.size) (hx' := w2.heap.size) (cells_one _ _ _) (It.int1 (w0 := w2) _ gy) (by first | omega | (simp; done) | (simp; omega)) (.inl (Nat.le_refl _)) (by unfold maxLen; first | omega | (simp; done) | (simp; omega)) (by first | omega | (simp; done) | (simp; omega)) (by first | omega | (simp; done) | (simp; omega)) ?_)
          intro v3 w3 hG3 _ hb3
          obtain ⟨a3, c3, rfl, -, -⟩ := hG3.len
          have hp3 : Below (w.heap.size + 1) w2 w3 := Below.trans bwT hb3
          have s3 := hp3.size
          have HG3 := Lib.hid hG3
          clear hb3 hG3
          go_wp2
          go_roundw
          case rel => exact ⟨j + 1, true, _, by omega, by go_num, rfl, HG3, Lib.hid (by have := (HI.out.put).next HY.out; simpa using this), (hB1.trans hp2).trans hp3⟩
          case measure => simp [intOf]; omega
      · skip
        go_wp2_with (at_builtin; refine wpList_push rfl rfl slInt (by show (0 : Nat) < 1; omega) (HG.out.below bwT) rfl (ad := ⟨wl.heap.size, 0, none⟩) rfl (cs := [.int .i64 ((yk : Nat) : Int)]) (y := ((yk : Nat) : Int)) (lx := wl.heap.size) (hx' := wl.heap.size) (cells_one _ _ _) (It.int1 (w0 := wl) _ gy) (by first | omega | (simp; done) | (simp; omega)) (.inl (Nat.le_refl _)) (by unfold maxLen; first | omega | (simp; done) | (simp; omega)) (by first | omega | (simp; done) | (simp; omega)) (by first | omega | (simp; done) | (simp; omega)) ?_)
        intro v2 w2 hG2 _ hb2
        obtain ⟨a2, c2, rfl, -, -⟩ := hG2.len
        have hp2 : Below (w.heap.size + 1) wl w2 := Below.trans bwT hb2
        have s2 := hp2.size
        have HG2 := Lib.hid hG2
        clear hb2 hG2
        go_wp2
        go_roundw
        case rel => exact ⟨j + 1, true, _, by omega, by go_num, rfl, HG2, Lib.hid (HI.out.next HY.out), hBl.trans hp2⟩
        case measure => simp [intOf]; omega
    · obtain rfl : j = L.length := by omega
      cases d
      · skip
        go_wp2_with (at_builtin; refine wpList_push rfl rfl slInt (by show (0 : Nat) < 1; omega) (HG.out.below bwT) rfl (ad := ⟨wl.heap.size, 0, none⟩) rfl (cs := [.int .i64 ((x : Nat) : Int)]) (y := ((x : Nat) : Int)) (lx := wl.heap.size) (hx' := wl.heap.size) (cells_one _ _ _) (It.int1 (w0 := wl) _ hxI) (by first | omega | (simp; done) | (simp; omega)) (.inl (Nat.le_refl _)) (by unfold maxLen; first | omega | (simp; done) | (simp; omega)) (by first | omega | (simp; done) | (simp; omega)) (by first | omega | (simp; done) | (simp; omega)) ?_)
        intro v2 w2 hG2 _ hb2
        obtain ⟨a2, c2, rfl, -, -⟩ := hG2.len
        have hp2 : Below (w.heap.size + 1) wl w2 := Below.trans bwT hb2
        have s2 := hp2.size
        have HG2 := Lib.hid hG2
        clear hb2 hG2
        have HF := Lib.hid (HI.out.put).fin
        have hB2 : Below w.heap.size w w2 := hBw.trans (hp2.mono (by omega))
        go_wp2
        go_ret
        exact ⟨_, _, rfl, (HG2.out.ow (Nat.le_refl _) (Nat.le_refl _)).rd.mono (Nat.zero_le _) (Nat.le_refl _), Lib.hid HF.out.1, HF.out.2, hB2⟩
      · have HF := Lib.hid HI.out.fin
        go_wp2
        go_ret
        exact ⟨_, _, rfl, (HG.out.ow (Nat.le_refl _) (Nat.le_refl _)).rd.mono (Nat.zero_le _) (Nat.le_refl _), Lib.hid HF.out.1, HF.out.2, hBw⟩
/-- The children of one person. -/
def chI (ps : List Per) (q : Nat) (i : Nat) (O : List Int) : Prop := (∀ x ∈ O, ∃ k : Nat, x = k ∧ k < ps.length) ∧ (∀ (k : Nat) (p : Per), k < i → ps[k]? = some p → (p.2.2.1 = q ∨ p.2.2.2.1 = q) → (k : Int) ∈ O) ∧ O.length ≤ i
theorem chI.no {ps : List Per} {q i : Nat} {O : List Int} (h : chI ps q i O) {p : Per} (hp : ps[i]? = some p) (h1 : ¬ p.2.2.1 = q) (h2 : ¬ p.2.2.2.1 = q) : chI ps q (i + 1) O := by
  refine ⟨h.1, fun k r hk hr hq => ?_, by have := h.2.2; omega⟩
  by_cases e : k = i
  · subst e; rw [hp] at hr; obtain rfl := Option.some.inj hr; exact (hq.elim h1 h2).elim
  · exact h.2.1 k r (by omega) hr hq
theorem chI.yes {ps : List Per} {q i : Nat} {O M : List Int} (h : chI ps q i O) (hi : i < ps.length) (h1 : ∀ y ∈ O, y ∈ M) (h2 : (i : Int) ∈ M) (h3 : ∀ y ∈ M, y ∈ O ∨ y = (i : Int)) (h4 : M.length ≤ O.length + 1) : chI ps q (i + 1) M := by
  refine ⟨fun x hx => ?_, fun k r hk hr hq => ?_, by have := h.2.2; omega⟩
  · rcases h3 x hx with hx | rfl
    · exact h.1 x hx
    · exact ⟨i, rfl, hi⟩
  · by_cases e : k = i
    · subst e; exact h2
    · exact h1 _ (h.2.1 k r (by omega) hr hq)
def PostCh (ps : List Per) (q : Nat) (w : World) (e : Ending) (w' : World) : Prop := ∃ (u : Value) (M : List Int), e = .returned u ∧ Rd true 0 w'.heap.size w' [u] M ∧ Hid (chI ps q ps.length M) ∧ Below w.heap.size w w'
set_option maxRecDepth 20000 in
set_option maxHeartbeats 8000000 in
theorem l1Children_any {z : Bool} {lo hi : Nat} (w : World) (v v2 : Value) (ps : List Per) (h : Rd z lo hi w [v] ps) (hl : ps.length ≤ 40) (q : Nat) :
    Calls Try.prog 95 #[.agg #[v, v2], .int .i64 q] w (PostCh ps q w) := by
  obtain ⟨ao, n, cap, rfl, hn, -⟩ := h.shape
  subst hn
  have HH := Lib.hid h
  have q0 : ((w.alloc (.cells #[.slice ao ps.length cap, v2] 26)).alloc (.cells #[] 3)).cell? ⟨w.heap.size, 0, none⟩ = some (.slice ao ps.length cap) := by
    have : (w.alloc (.cells #[.slice ao ps.length cap, v2] 26)).cell? ⟨w.heap.size, 0, none⟩ = some (.slice ao ps.length cap) := by simp [go_sem]
    exact oldc (show Below (w.heap.size + 1) (w.alloc (.cells #[.slice ao ps.length cap, v2] 26)) _ from bwT) (Nat.lt_succ_self _) this
  have q1 : ((w.alloc (.cells #[.slice ao ps.length cap, v2] 26)).alloc (.cells #[] 3)).cell? ⟨w.heap.size, 1, none⟩ = some v2 := by
    have : (w.alloc (.cells #[.slice ao ps.length cap, v2] 26)).cell? ⟨w.heap.size, 1, none⟩ = some v2 := by simp [go_sem]
    exact oldc (show Below (w.heap.size + 1) (w.alloc (.cells #[.slice ao ps.length cap, v2] 26)) _ from bwT) (Nat.lt_succ_self _) this
  have hG0 : GL (α := Int) true (w.heap.size + 1) (w.heap.size + 1) (w.heap.size + 2) ((w.alloc (.cells #[.slice ao ps.length cap, v2] 26)).alloc (.cells #[] 3)) 3 (.slice (some ⟨w.heap.size + 1, 0, none⟩) 0 0) [] := by
    have := GL.lit0 (α := Int) true (w.heap.size + 1) (w.heap.size + 1) (w.alloc (.cells #[.slice ao ps.length cap, v2] 26)) 3 (by simp)
    simpa using this.top
  obtain ⟨W0, hW0⟩ : ∃ W0, W0 = ((w.alloc (.cells #[.slice ao ps.length cap, v2] 26)).alloc (.cells #[] 3)) := ⟨_, rfl⟩
  rw [← hW0] at q0 q1 hG0
  have s0 : W0.heap.size = w.heap.size + 2 := by rw [hW0]; simp
  have hB0 : Below w.heap.size w W0 := by rw [hW0]; exact bwT
  have HG0 := Lib.hid (show Rd true 0 W0.heap.size W0 [.slice (some ⟨w.heap.size + 1, 0, none⟩) 0 0] ([] : List Int) by rw [s0]; exact (hG0.ow (Nat.le_refl _) (Nat.le_refl _)).rd.mono (Nat.zero_le _) (Nat.le_refl _))
  replace s0 : w.heap.size + 2 ≤ W0.heap.size := Nat.le_of_eq s0.symm
  clear h hG0
  go_enter Try.func95, Try.ntmps95
  go_upto_region 2 with fail
  rw [← hW0]
  clear hW0
  go_wp2
  go_loopw [5, 6, 7, 12] (fun s5 _ _ s12 wl => ∃ (i : Nat) (O : List Int), i ≤ ps.length ∧ s12 = .int .i64 i ∧ Hid (Rd true 0 wl.heap.size wl [s5] O) ∧ Hid (chI ps q i O) ∧ Below (w.heap.size + 1) W0 wl) (fun _ _ _ s12 _ => ps.length - (intOf s12).toNat)
  case atStart => exact ⟨0, [], Nat.zero_le _, rfl, HG0, Lib.hid ⟨by simp, by simp, by simp⟩, Below.refl _ _⟩
  case round =>
    clear HG0
    obtain ⟨wl, hwl⟩ : ∃ x : World, x = wr := ⟨_, rfl⟩
    subst hwl
    obtain ⟨i, O, hi, rfl, HO, HI, hBl⟩ := hrel
    obtain ⟨oa, on, ocap, rfl, hon, -⟩ := HO.out.shape
    subst hon
    have sl := hBl.size
    have hBw : Below w.heap.size w wl := hB0.trans (hBl.mono (by omega))
    have q0 := oldc hBl (Nat.lt_succ_self _) q0
    have q1 := oldc hBl (Nat.lt_succ_self _) q1
    by_cases hil : i < ps.length
    · have hiI : (i : Int) < (ps.length : Int) := by omega
      obtain ⟨b, off, nm, sx, fa, mo, bo, di, rfl, hx, x0, x1, x2, x3, x4, x5, -, -, -, -, -, -, -, -, hb, -⟩ := (HH.out.below hBw).per_at hil
      have HX := Lib.hid hx.out
      clear hx
      obtain ⟨WA, hWA⟩ : ∃ W : World, W = wl.alloc (.cells #[.string nm, .int .i64 sx, .int .i64 fa, .int .i64 mo, .int .i64 bo, .int .i64 di] 56) := ⟨_, rfl⟩
      have hbA : Below wl.heap.size wl WA := by rw [hWA]; exact (Below.refl _ _).alloc (Nat.le_refl _) _
      have a2 : WA.cell? ⟨wl.heap.size, 2, none⟩ = some (.int .i64 fa) := by rw [hWA]; simp [go_sem]
      have a3 : WA.cell? ⟨wl.heap.size, 3, none⟩ = some (.int .i64 mo) := by rw [hWA]; simp [go_sem]
      have sA : wl.heap.size < WA.heap.size := by rw [hWA]; simp
      have hBA : Below (w.heap.size + 1) W0 WA := hBl.trans (hbA.mono (by omega))
      have hBwA : Below w.heap.size w WA := hBw.trans (hbA.mono (by omega))
      have HOA := Lib.hid ((HO.out.below hbA).mono (Nat.le_refl _) hbA.size)
      go_upto_region 5 with fail
      rw [← hWA]
      have q0 := oldc (show Below (w.heap.size + 1) wl WA from hbA.mono (by omega)) (Nat.lt_succ_self _) q0
      have q1 := oldc (show Below (w.heap.size + 1) wl WA from hbA.mono (by omega)) (Nat.lt_succ_self _) q1
      clear hWA x0 x1 x2 x3 x4 x5 HO
      by_cases h1 : fa = (q : Int)
      · have e1 : (fa == (q : Int)) = true := by simpa using h1
        clear h1
        go_wp2_with fail
        refine (l1ByAge_any _ _ _ _ ps (HH.out.below hBwA) O HOA.out HI.out.1 i hil (by have := HI.out.2.2; omega) (by unfold I64; omega)).mono ?_
        rintro e w1 ⟨u, M, rfl, hM, hm, hml, hb1⟩
        have hp1 : Below WA.heap.size WA w1 := hb1
        have HM := Lib.hid hM
        have HI2 := Lib.hid (HI.out.yes hil hm.out.1 hm.out.2.1 hm.out.2.2 hml)
        have hB1 := hBA.trans (hp1.mono (by omega))
        clear hM hm hml hb1
        go_wp2
        go_roundw
        case rel => exact ⟨i + 1, M, by omega, by go_num, HM, HI2, hB1⟩
        case measure => simp [intOf]; omega
      · have e1 : (fa == (q : Int)) = false := by simpa using h1
        by_cases h2 : mo = (q : Int)
        · have e2 : (mo == (q : Int)) = true := by simpa using h2
          clear h1 h2
          go_wp2_with fail
          refine (l1ByAge_any _ _ _ _ ps (HH.out.below hBwA) O HOA.out HI.out.1 i hil (by have := HI.out.2.2; omega) (by unfold I64; omega)).mono ?_
          rintro e w1 ⟨u, M, rfl, hM, hm, hml, hb1⟩
          have hp1 : Below WA.heap.size WA w1 := hb1
          have HM := Lib.hid hM
          have HI2 := Lib.hid (HI.out.yes hil hm.out.1 hm.out.2.1 hm.out.2.2 hml)
          have hB1 := hBA.trans (hp1.mono (by omega))
          clear hM hm hml hb1
          go_wp2
          go_roundw
          case rel => exact ⟨i + 1, M, by omega, by go_num, HM, HI2, hB1⟩
          case measure => simp [intOf]; omega
        · have e2 : (mo == (q : Int)) = false := by simpa using h2
          have HI2 := Lib.hid (HI.out.no HX.out h1 h2)
          clear h1 h2
          go_wp2
          go_roundw
          case rel => exact ⟨i + 1, O, by omega, by go_num, HOA, HI2, hBA⟩
          case measure => simp [intOf]; omega
    · obtain rfl : i = ps.length := by omega
      go_wp2
      go_ret
      exact ⟨_, O, rfl, HO.out, HI, hBw⟩
    end Go.Proofs.Ytefbbbhidnnchaa
