/- The walk of the law FnFound. Written by fnf_gen.py. -/
import Derived.Test.YtlfpnncjdoaelaaFfl
import Derived.Test.YtlfpnncjdoaelaaDrwR2
import Derived.Test.YtlfpnncjdoaelaaDrwT
import Derived.Test.YtlfpnncjdoaelaaCmp
namespace Go.Proofs.Ytlfpnncjdoaelaa
set_option linter.unusedVariables false
set_option linter.unusedSimpArgs false
open Go.RowKit

theorem cat_step {rs : List Rul} {i : Nat} {r : Rul} (h : rs[i]? = some r) (h6 : ((rs.take i).take 6).length < 6) : (rs.take (i + 1)).take 6 = (rs.take i).take 6 ++ [r] := by
  have hl : i < rs.length := (List.getElem?_eq_some_iff.1 h).1
  have hi : i < 6 := by rw [List.length_take, List.length_take] at h6; omega
  rw [List.take_of_length_le (l := rs.take (i + 1)) (by rw [List.length_take]; omega), List.take_of_length_le (l := rs.take i) (by rw [List.length_take]; omega), take_snoc h]
theorem cat_full {rs : List Rul} {i : Nat} (h6 : ¬ ((rs.take i).take 6).length < 6) : (rs.take (i + 1)).take 6 = (rs.take i).take 6 := by
  rw [List.length_take, List.length_take] at h6
  rw [List.take_take, List.take_take, Nat.min_eq_left (show 6 ≤ i + 1 by omega), Nat.min_eq_left (show 6 ≤ i by omega)]
/-- All of a list but the one before a place; at zero all. -/
def skipL (L : List Int) : Nat → List Int
  | 0 => L
  | m + 1 => L.eraseIdx m
theorem skipL_sub (L : List Int) : ∀ k, (skipL L k).Sublist L
  | 0 => List.Sublist.refl _
  | m + 1 => List.eraseIdx_sublist _ _
theorem skipL_same {L : List Int} {j k : Nat} {x : Int} (h : L[j]? = some x) (hk : k = j + 1) : skipL (L.take (j + 1)) k = skipL (L.take j) k := by
  subst hk
  have hl : j < L.length := (List.getElem?_eq_some_iff.1 h).1
  have hj : (L.take j).length = j := by rw [List.length_take]; omega
  rw [take_snoc h]
  show ((L.take j) ++ [x]).eraseIdx j = (L.take j).eraseIdx j
  rw [List.eraseIdx_append_of_length_le (by omega), List.eraseIdx_of_length_le (l := L.take j) (by omega), hj, Nat.sub_self]
  simp
theorem skipL_step {L : List Int} {j k : Nat} {x : Int} (h : L[j]? = some x) (hk : k ≠ j + 1) : skipL (L.take (j + 1)) k = skipL (L.take j) k ++ [x] := by
  have hl : j < L.length := (List.getElem?_eq_some_iff.1 h).1
  have hj : (L.take j).length = j := by rw [List.length_take]; omega
  rw [take_snoc h]
  match k with
  | 0 => rfl
  | m + 1 =>
    show ((L.take j) ++ [x]).eraseIdx m = (L.take j).eraseIdx m ++ [x]
    by_cases hm : m < j
    · rw [List.eraseIdx_append_of_lt_length (by omega)]
    · rw [List.eraseIdx_of_length_le (l := L.take j) (by omega), List.eraseIdx_of_length_le (by simp; omega)]
theorem all_next {α : Type} {ps : List α} {i : Nat} {p : α} (h : ps[i]? = some p) (f : α → Bool) : (ps.take (i + 1)).all f = ((ps.take i).all f && f p) := by
  rw [take_snoc h, List.all_append]; simp
/-- A literal of one item of many cells that others share. -/
theorem GL.litn {α : Type} [Rep α] (lo : Nat) (w : World) (E : TypeId) {cs : List Value} {y : α} (h : lo ≤ w.heap.size) (hm : cs.length ≤ maxLen) (hr : Rd false 0 w.heap.size w cs y) : GL false lo 0 (w.heap.size + 1) (w.alloc (.cells cs.toArray E)) E (.slice (some ⟨w.heap.size, 0, none⟩) 1 1) [y] := by
  obtain ⟨fp, h1, h2⟩ := hr
  have hs' : cs.length = Rep.sz α := Rep.len h1
  refine ⟨[cs], [fp], ?_, ⟨Rep.keep h1 fun b hb => Below.heap_alloc w _ b (h2 b hb).2, trivial⟩, ?_, by simp [Value.ownBlock], fun e => by cases e⟩
  · exact ⟨by simp [← hs'], .inr ⟨w.heap.size, 1, cs.toArray, rfl, h, heap_alloc_new w _, Nat.le_refl _, by simp [maxLen], by simp [← hs'], by simp [← hs']⟩⟩
  · intro b hb
    have hb2 : b ∈ fp := by simpa using hb
    have := (h2 b hb2).2
    exact ⟨Nat.zero_le _, by omega, by simp [Value.ownBlock]; omega⟩
theorem Rd.dTPr_mk {lo hi : Nat} {z z1 : Bool} {w : World} {kae : Int} {kal : List Stp} {kbe : Int} {kbl : List Stp} {v1 v2 : Value} (ha : I64 kae) (hb : I64 kbe) (h1 : Rd z lo hi w [v1] kal) (h2 : Rd z1 lo hi w [v2] kbl) : Rd false lo hi w [.int .i64 kae, v1, .int .i64 kbe, v2] (((kae, kal), (kbe, kbl)) : TPr) := by
  obtain ⟨f1, a1, a2⟩ := h1.it.rd
  obtain ⟨f2, b1, b2⟩ := h2.it.rd
  refine ⟨f1 ++ f2, Go.Proofs.Ytlfpnncjdoaelaa.dTPr_mk ha hb a1 b1, fun b hb => ?_⟩
  rcases List.mem_append.1 hb with hb | hb
  · exact a2 b hb
  · exact b2 b hb
theorem AscF.len {n : Nat} : ∀ {l : List Int} {a : Nat}, AscF a n l → l.length ≤ n - a
  | [], _, _ => Nat.zero_le _
  | x :: l, a, h => by
    obtain ⟨k, -, h1, h2, h3⟩ := h.uncons
    have := h3.len
    simp only [List.length_cons]; omega
theorem skip_nil (cat : List Rul) (L : List Int) (k : Nat) : pickR cat (skipL (L.take 0) k) = [] := by
  cases k <;> simp [skipL, pickR]
theorem pair_lt {l : List Int} (h : l.Pairwise (· < ·)) {i j : Nat} {x y : Int} (hij : i < j) (hx : l[i]? = some x) (hy : l[j]? = some y) : x < y := by
  obtain ⟨hi, rfl⟩ := List.getElem?_eq_some_iff.1 hx
  obtain ⟨hj, rfl⟩ := List.getElem?_eq_some_iff.1 hy
  exact List.pairwise_iff_getElem.1 h i j hi hj hij
theorem findV_pairs {cat : List Rul} {same apart : List TPr} (h : findV cat same apart = true) : pairsOk same = true ∧ pairsOk apart = true := by
  unfold findV at h
  simp only [Bool.and_eq_true] at h
  exact h.2.2.2
section
variable {P : Program} {α : Type} [Rep α] {lo hi : Nat} {w : World} {E : TypeId} {v : Value} {xs : List α}
/-- out = append(out, x), of an item whose memory lies on both sides of the list's own row. -/
theorem wpList_push_ne {ops : Array Oper} {rest : List Oper} {o : Oper} {a : Act} {Q : Exit → Act → World → Prop} (hgd : o.guard = none) {s x : Operand} {t : TypeId}
    (ho : o.op = .call { callee := .builtin .append, args := #[s, x], argTypes := #[t, t] })
    {z0 : Value} {bytes : Nat} (hT : SlTy P t E z0 (Rep.sz α) bytes) (hsz : 0 < Rep.sz α) (hG : GL false lo 0 hi w E v xs) (hs : a.eval s = v)
    {ad : Addr} {c : Nat} (hx : a.eval x = .slice (some ad) 1 c) {cs : List Value} {y : α} {lx hx' : Nat} (hcells : ∀ j u, cs[j]? = some u → w.cell? (ad.add j) = some u)
    (hy : It false lx hx' w cs y) (hd : ∀ g, v.ownBlock = some g → g < lx ∨ hx' ≤ g) (h63 : xs.length + 1 ≤ maxLen) (hbytes : (xs.length + 1) * bytes ≤ 140737488355328) (hlo : lo ≤ w.heap.size)
    (h : ∀ v' w', GL false lo 0 w'.heap.size w' E v' (xs ++ [y]) → w.grownBy w' v.ownBlock → (v'.ownBlock = v.ownBlock ∨ v'.ownBlock = some w.heap.size) → Below lo w w' → wpList P ops Q rest (a.put o.dst v') w') : wpList P ops Q (o :: rest) a w := by
  obtain ⟨fp, hr, hz, hn⟩ := hy
  obtain ⟨v', w', hrun, h2, h3, h4, h5⟩ := run_push (P := P) (t := t) (ty := o.type) hT hsz hG (ao := some ad) (c := c) (css' := [cs]) (ys := [y]) (fps' := [fp]) ⟨hr, trivial⟩ (fun h => by cases h)
    (fun a e => by simp only [Option.some.injEq] at e; subst e; simpa using hcells)
    (fun b hb => by
      have hb' : b ∈ fp := by simpa using hb
      refine ⟨Nat.zero_le _, fun e => ?_⟩
      have h1 := hd b e.symm
      have h3 := hz b hb'
      omega)
    (fun hnd => by cases hnd) (by simpa using h63) (by simpa using hbytes) hlo
  refine wpList_plain hgd fun K hK => ?_
  unfold Oper.wp execOp
  simp only [ho, resolve, invoke, builtin, Sem.run_bind, Sem.run_pure, Result.andThen_ok, List.map_toArray, List.map_cons, List.map_nil, hs, hx]
  simp only [List.length_cons, List.length_nil, Nat.zero_add] at hrun
  rw [hrun]
  exact hK _ _ (h v' w' h2 h3 h4 h5)
end
set_option maxRecDepth 20000 in
set_option maxHeartbeats 40000000 in
theorem walk_FnFound (w : World) (c0a : Value) (code : List UInt8) (h0 : Rd false 0 w.heap.size w [c0a] code) :
    Calls Try.prog 6 #[c0a] w (PostB w true) := by
  obtain ⟨ao0, len0, cap0, hcs0, hln0, hcn0, hcm0, -⟩ := h0.shape
  subst hcs0
  subst hln0
  unfold maxLen at hcm0
  have hle0 : code.length ≤ 9223372036854775807 := by omega
  clear hcm0 hcn0
  by_cases hg0 : 1048576 < code.length
  · go_enter Try.func6, Try.ntmps6
    go_wp2
    go_ret
    exact ⟨rfl, bwT⟩
  have hq1 : code.length ≤ 1048576 := by omega
  go_enter Try.func6, Try.ntmps6
  go_wp2_with fail
  refine (makeRules_any _ _ code (h0.below bwT) hq1).mono ?_
  rintro e W1 ⟨rv, rs, rfl, hor, hgd, hb1⟩
  have hB1 : Below w.heap.size w W1 := Below.trans (show Below w.heap.size w _ from bwT) (hb1.mono szT)
  have HE0 := Lib.hid (show GL (α := Rul) false w.heap.size 0 W1.heap.size W1 37 (.slice (some ⟨w.heap.size, 0, none⟩) 0 0) [] from (((GL.lit0 (α := Rul) false w.heap.size 0 w 37 (Nat.le_refl _)).top).below hb1).top)
  obtain ⟨rao, rn, rcap, rfl, hrn, -⟩ := hor.rd.shape
  subst hrn
  have hrl : rs.length ≤ 12 := hgd.out.2.1
  have HAR := Lib.hid hgd.out.2.2
  have HRS := Lib.hid (show Rd true (w.heap.size + 1) W1.heap.size W1 [.slice rao rs.length rcap] rs by have h := hor.rd; rwa [World.size_alloc] at h)
  have HH0 := Lib.hid h0
  have s1 := hB1.size
  clear hor h0 hgd hb1
  go_wp2
  go_loopw [3, 5, 31] (fun s3 _ s31 wr => ∃ i : Nat, i ≤ rs.length ∧ s31 = .int .i64 i ∧ Hid (GL false w.heap.size 0 wr.heap.size wr 37 s3 ((rs.take i).take 6)) ∧ Hid (∀ g, s3.ownBlock = some g → g < w.heap.size + 1 ∨ W1.heap.size ≤ g) ∧ Hid (Zone (w.heap.size + 1) W1.heap.size W1 wr) ∧ W1.heap.size ≤ wr.heap.size ∧ Below w.heap.size w wr) (fun _ _ s31 _ => rs.length - (intOf s31).toNat)
  case atStart => exact ⟨0, Nat.zero_le _, rfl, HE0, Lib.hid (fun g hg => by simp [Value.ownBlock] at hg; omega), Lib.hid (fun _ _ _ => rfl), Nat.le_refl _, hB1⟩
  case round =>
    obtain ⟨wb, hwb⟩ : ∃ wm : World, wm = wr := ⟨_, rfl⟩
    subst hwb
    obtain ⟨i, hi, rfl, hG, hOB, hZ, sB, hBw⟩ := hrel
    have sW := hBw.size
    by_cases hlt : i < rs.length
    · have hI : (i : Int) < (rs.length : Int) := by omega
      obtain ⟨b, off, nm, sx, pl, fr, tw, vfr, vtw, rfl, hx, c0, c1, c2, c3, c4, -, -, -, hfr, htw, hri, -, -, hbl⟩ := (HRS.out.keep hZ.out).dRul_at hlt
      obtain ⟨fao, fn, fcap, rfl, -⟩ := hfr.shape
      obtain ⟨tao, tn, tcap, rfl, -⟩ := htw.shape
      have HX := Lib.hid hx.out
      have HIT := Lib.hid hri.it
      by_cases h6 : ((rs.take i).take 6).length < 6
      · have HE := Lib.hid (cat_step HX.out h6)
        obtain ⟨P, hP⟩ : ∃ P, P = (rs.take i).take 6 := ⟨_, rfl⟩
        rw [← hP] at HE hG h6
        have h6' : (P.length : Int) < 6 := by omega
        obtain ⟨eao, ecap, rfl, -, -⟩ := hG.out.len
        have hG2 := Lib.hid (hG.out.alloc (.cells #[.string nm, .int .i64 sx, .int .i64 pl, .slice fao fn fcap, .slice tao tn tcap] 37))
        have HIT2 := Lib.hid (HIT.out.keep (w' := wb.alloc (.cells #[.string nm, .int .i64 sx, .int .i64 pl, .slice fao fn fcap, .slice tao tn tcap] 37)) (fun b h1 h2 => Below.heap_alloc wb _ b (by omega)))
        have hG3 := Lib.hid (hG2.out.alloc (.cells #[.string nm, .int .i64 sx, .int .i64 pl, .slice fao fn fcap, .slice tao tn tcap] 37))
        have HIT3 := Lib.hid (HIT2.out.keep (w' := (wb.alloc (.cells #[.string nm, .int .i64 sx, .int .i64 pl, .slice fao fn fcap, .slice tao tn tcap] 37)).alloc (.cells #[.string nm, .int .i64 sx, .int .i64 pl, .slice fao fn fcap, .slice tao tn tcap] 37)) (fun b h1 h2 => Below.heap_alloc _ _ b (by simp; omega)))
        clear hx hfr htw hri hG HIT hP hG2 HIT2
        go_wp2_with (at_builtin; refine wpList_push_ne rfl rfl slRule (by show (0 : Nat) < 5; omega) hG3.out rfl (ad := ⟨wb.heap.size + 1, 0, none⟩) rfl (cs := [.string nm, .int .i64 sx, .int .i64 pl, .slice fao fn fcap, .slice tao tn tcap]) (y := ((nm, sx, pl, fr, tw) : Rul)) ?c1 HIT3.out hOB.out (by unfold maxLen; omega) (by omega) (by simp; omega) ?_)
        case c1 =>
          intro j c hj
          match j, hj with
          | 0, hj => simp at hj; subst hj; simp [Addr.add, go_sem]
          | 1, hj => simp at hj; subst hj; simp [Addr.add, go_sem]
          | 2, hj => simp at hj; subst hj; simp [Addr.add, go_sem]
          | 3, hj => simp at hj; subst hj; simp [Addr.add, go_sem]
          | 4, hj => simp at hj; subst hj; simp [Addr.add, go_sem]
        intro v' w4 hG4 hg4 hv4 hb4
        have hZ4 : Zone (w.heap.size + 1) W1.heap.size W1 w4 := fun b h1 h2 => by
          rw [hg4.block b (by simp; omega) (fun e => by have := hOB.out b e.symm; omega), Below.heap_alloc _ _ b (by simp; omega), Below.heap_alloc _ _ b (by omega)]
          exact hZ.out b h1 h2
        have s4 := hg4.size
        simp only [World.size_alloc] at s4
        have HOB := Lib.hid (show ∀ g, v'.ownBlock = some g → g < w.heap.size + 1 ∨ W1.heap.size ≤ g from fun g hg => by
          rcases hv4 with hv4 | hv4
          · exact hOB.out g (hv4 ▸ hg)
          · rw [hv4] at hg; simp at hg; omega)
        have HG4 := Lib.hid (show GL false w.heap.size 0 w4.heap.size w4 37 v' ((rs.take (i + 1)).take 6) by rw [HE.out]; exact hG4)
        have hB4 : Below w.heap.size w w4 := Below.trans (show Below w.heap.size w _ from bwT) hb4
        clear hG3 HIT3 hG4 hb4 HE hv4 hg4
        go_wp2
        go_roundw
        case rel => exact ⟨i + 1, by omega, by go_num, HG4, HOB, Lib.hid hZ4, by omega, hB4⟩
        case measure => simp [intOf]; omega
      · have HE := Lib.hid (cat_full (rs := rs) h6)
        obtain ⟨P, hP⟩ : ∃ P, P = (rs.take i).take 6 := ⟨_, rfl⟩
        rw [← hP] at HE hG h6
        have h6' : ¬ (P.length : Int) < 6 := by omega
        obtain ⟨eao, ecap, rfl, -, -⟩ := hG.out.len
        have hG2 := Lib.hid (show GL false w.heap.size 0 wb.heap.size wb 37 (.slice eao P.length ecap) ((rs.take (i + 1)).take 6) by rw [HE.out]; exact hG.out)
        clear hx hfr htw hri HIT hP HE hG
        go_wp2
        go_roundw
        case rel => exact ⟨i + 1, by omega, by go_num, Lib.hid (hG2.out.alloc _).top, hOB, Lib.hid (fun b h1 h2 => by rw [Below.heap_alloc _ _ b (by omega)]; exact hZ.out b h1 h2), by simp; omega, hBw.alloc sW _⟩
        case measure => simp [intOf]; omega
    · have hI : ¬ (i : Int) < (rs.length : Int) := by omega
      obtain rfl : i = rs.length := by omega
      obtain ⟨cat, hcat⟩ : ∃ cat, cat = rs.take 6 := ⟨_, rfl⟩
      rw [List.take_length, ← hcat] at hG
      have hcl : cat.length ≤ 6 := by rw [hcat, List.length_take]; omega
      have HCR := Lib.hid (show areRules cat = true by rw [hcat]; exact areRules_sub HAR.out (List.take_sublist _ _))
      obtain ⟨cao, ccap, rfl, -, -⟩ := hG.out.len
      have HC := Lib.hid (hG.out.rd (l0 := 0) (Nat.zero_le _) (Nat.zero_le _))
      clear hG hOB hcat HRS HAR HE0 hB1 hZ
      go_wp2
      go_loopw [6, 8, 9, 46] (fun s6 _ _ s46 wr => ∃ (i : Nat) (ps : List TPr), i ≤ cat.length ∧ ps.length ≤ i ∧ s46 = .int .i64 i ∧ Hid (GL false wb.heap.size 0 wr.heap.size wr 55 s6 ps) ∧ Below wb.heap.size wb wr) (fun _ _ _ s46 _ => cat.length - (intOf s46).toNat)
      case atStart => exact ⟨0, [], Nat.zero_le _, Nat.le_refl _, rfl, Lib.hid (GL.lit0 _ _ _ _ _ (Nat.le_refl _)).top, (Below.refl _ _).alloc (Nat.le_refl _) _⟩
      case round =>
        obtain ⟨wd, hwd⟩ : ∃ wm : World, wm = wr := ⟨_, rfl⟩
        subst hwd
        obtain ⟨i, ps, hi, hpi, rfl, hG, hbd⟩ := hrel
        have sD := hbd.size
        have hBd : Below w.heap.size w wd := hBw.trans (hbd.mono sW)
        obtain ⟨eao, ecap, rfl, -, -⟩ := hG.out.len
        by_cases hlt : i < cat.length
        · have hI : (i : Int) < (cat.length : Int) := by omega
          obtain ⟨b, off, nm, sx, pl, fr, tw, vfr, vtw, rfl, hx, c0, c1, c2, c3, c4, -, gsx, -, hfr, htw, hri, -, -, hbl⟩ := HC.out.dRul_at hlt
          obtain ⟨fao, fn, fcap, rfl, -⟩ := hfr.shape
          obtain ⟨tao, tn, tcap, rfl, -⟩ := htw.shape
          have k0 := oldc hbd hbl c0
          have k1 := oldc hbd hbl c1
          have k2 := oldc hbd hbl c2
          have k3 := oldc hbd hbl c3
          have k4 := oldc hbd hbl c4
          have HFR := Lib.hid hfr
          have HTW := Lib.hid htw
          obtain ⟨WA, hWA⟩ : ∃ W : World, W = wd.alloc (.cells #[.string nm, .int .i64 sx, .int .i64 pl, .slice fao fn fcap, .slice tao tn tcap] 37) := ⟨_, rfl⟩
          have hBA : Below wb.heap.size wb WA := by rw [hWA]; exact hbd.alloc sD _
          have z1 : WA.cell? ⟨wd.heap.size, 1, none⟩ = some (.int .i64 sx) := by rw [hWA]; simp [go_sem]
          have z3 : WA.cell? ⟨wd.heap.size, 3, none⟩ = some (.slice fao fn fcap) := by rw [hWA]; simp [go_sem]
          have z4 : WA.cell? ⟨wd.heap.size, 4, none⟩ = some (.slice tao tn tcap) := by rw [hWA]; simp [go_sem]
          have lz : wd.heap.size < WA.heap.size := by rw [hWA]; simp
          have hGA := Lib.hid (show GL false wb.heap.size 0 WA.heap.size WA 55 (.slice eao ps.length ecap) ps by rw [hWA]; exact (hG.out.alloc _).top)

          have sA := hBA.size
          clear hx c0 c1 c2 c3 c4 hfr htw hri hG
          go_upto_region 14 with fail
          rw [← hWA]
          clear hWA k0 k1 k2 k3 k4
          by_cases hs0 : sx = 0
          · subst hs0
            obtain ⟨q, hlet_q⟩ : ∃ r, r = isKin (1, fr) := ⟨_, rfl⟩
            have HQ := Lib.hid hlet_q
            clear hlet_q
            go_wp2_with fail
            refine (isTypeS_b _ _ _ (1, fr) (Rd.kin_mk (by unfold I64; omega) (HFR.out.below hBA)) q HQ.out).mono ?_
            rintro e4 w4 ⟨rfl, hb4⟩
            have s4 := hb4.size
            have hB4 : Below wb.heap.size wb w4 := hBA.trans (hb4.mono sA)
            have z3 := oldc hb4 lz z3
            have z4 := oldc hb4 lz z4
            have hG4 := Lib.hid (hGA.out.below hb4).top
            have lz : wd.heap.size < w4.heap.size := by omega
            clear hb4 hGA z1 HQ
            cases q
            · go_upto_region 19 with fail
              go_wp2_with fail
              refine (at_any _ _ code (HH0.out.below (show Below w.heap.size w _ from Below.trans hBw (Below.mono hB4 sW))) hq1 _ (by omega) (by omega)).mono ?_
              rintro e5 w5 ⟨x, rfl, hx5, hb5⟩
              have u5 : x.tmod 2 = x % 2 := Int.tmod_eq_emod_of_nonneg hx5.1
              have hp5 : Below w4.heap.size w4 w5 := hb5
              have s5 := hp5.size
              have hB5 : Below wb.heap.size wb w5 := hB4.trans (hp5.mono hB4.size)
              have z3 := oldc hp5 lz z3
              have z4 := oldc hp5 lz z4
              have hG5 := Lib.hid (hG4.out.top.below hp5).top
              have s6 := hB5.size
              clear hb5 hG4
              by_cases hp : x % 2 = 0
              · have HIT := Lib.hid ((Rd.dTPr_mk (kae := 2) (kbe := 2) (by unfold I64; omega) (by unfold I64; omega) (HFR.out.below hB5) (HTW.out.below hB5)).it)
                have hG6 := Lib.hid (hG5.out.alloc (.cells #[.int .i64 2, .slice fao fn fcap, .int .i64 2, .slice tao tn tcap] 55))
                have HIT6 := Lib.hid (HIT.out.keep (w' := w5.alloc (.cells #[.int .i64 2, .slice fao fn fcap, .int .i64 2, .slice tao tn tcap] 55)) (fun b h1 h2 => Below.heap_alloc _ _ b (by omega)))
                clear HIT
                go_wp2_with (at_builtin; refine wpList_push rfl rfl slTypePair (by show (0 : Nat) < 4; omega) hG6.out rfl (ad := ⟨w5.heap.size, 0, none⟩) rfl (cs := [.int .i64 2, .slice fao fn fcap, .int .i64 2, .slice tao tn tcap]) (y := (((2 : Int), fr), ((2 : Int), tw))) ?c1 HIT6.out (Nat.le_refl _) (.inr ⟨Nat.le_refl _, fun h => by cases h⟩) (by unfold maxLen; omega) (by omega) (by simp; omega) ?_)
                case c1 =>
                  intro j c hj
                  match j, hj with
                  | 0, hj => simp at hj; subst hj; simp [Addr.add, go_sem]
                  | 1, hj => simp at hj; subst hj; simp [Addr.add, go_sem]
                  | 2, hj => simp at hj; subst hj; simp [Addr.add, go_sem]
                  | 3, hj => simp at hj; subst hj; simp [Addr.add, go_sem]
                intro v' w7 hG7 _ hb7
                have HG7 := Lib.hid hG7
                have hB7 : Below wb.heap.size wb w7 := Below.trans (hB5.alloc s6 _) hb7
                clear hG6 HIT6 hG7 hb7
                go_wp2
                go_roundw
                case rel => exact ⟨i + 1, _, by omega, by simp; omega, by go_num, HG7, hB7⟩
                case measure => simp [intOf]; omega
              · go_wp2
                go_roundw
                case rel => exact ⟨i + 1, ps, by omega, by omega, by go_num, hG5, hB5⟩
                case measure => simp [intOf]; omega
            · go_upto_region 19 with fail
              go_wp2_with fail
              refine (at_any _ _ code (HH0.out.below (show Below w.heap.size w _ from Below.trans hBw (Below.mono hB4 sW))) hq1 _ (by omega) (by omega)).mono ?_
              rintro e5 w5 ⟨x, rfl, hx5, hb5⟩
              have u5 : x.tmod 2 = x % 2 := Int.tmod_eq_emod_of_nonneg hx5.1
              have hp5 : Below w4.heap.size w4 w5 := hb5
              have s5 := hp5.size
              have hB5 : Below wb.heap.size wb w5 := hB4.trans (hp5.mono hB4.size)
              have z3 := oldc hp5 lz z3
              have z4 := oldc hp5 lz z4
              have hG5 := Lib.hid (hG4.out.top.below hp5).top
              have s6 := hB5.size
              clear hb5 hG4
              by_cases hp : x % 2 = 0
              · have HIT := Lib.hid ((Rd.dTPr_mk (kae := 1) (kbe := 1) (by unfold I64; omega) (by unfold I64; omega) (HFR.out.below hB5) (HTW.out.below hB5)).it)
                have hG6 := Lib.hid (hG5.out.alloc (.cells #[.int .i64 1, .slice fao fn fcap, .int .i64 1, .slice tao tn tcap] 55))
                have HIT6 := Lib.hid (HIT.out.keep (w' := w5.alloc (.cells #[.int .i64 1, .slice fao fn fcap, .int .i64 1, .slice tao tn tcap] 55)) (fun b h1 h2 => Below.heap_alloc _ _ b (by omega)))
                clear HIT
                go_wp2_with (at_builtin; refine wpList_push rfl rfl slTypePair (by show (0 : Nat) < 4; omega) hG6.out rfl (ad := ⟨w5.heap.size, 0, none⟩) rfl (cs := [.int .i64 1, .slice fao fn fcap, .int .i64 1, .slice tao tn tcap]) (y := (((1 : Int), fr), ((1 : Int), tw))) ?c1 HIT6.out (Nat.le_refl _) (.inr ⟨Nat.le_refl _, fun h => by cases h⟩) (by unfold maxLen; omega) (by omega) (by simp; omega) ?_)
                case c1 =>
                  intro j c hj
                  match j, hj with
                  | 0, hj => simp at hj; subst hj; simp [Addr.add, go_sem]
                  | 1, hj => simp at hj; subst hj; simp [Addr.add, go_sem]
                  | 2, hj => simp at hj; subst hj; simp [Addr.add, go_sem]
                  | 3, hj => simp at hj; subst hj; simp [Addr.add, go_sem]
                intro v' w7 hG7 _ hb7
                have HG7 := Lib.hid hG7
                have hB7 : Below wb.heap.size wb w7 := Below.trans (hB5.alloc s6 _) hb7
                clear hG6 HIT6 hG7 hb7
                go_wp2
                go_roundw
                case rel => exact ⟨i + 1, _, by omega, by simp; omega, by go_num, HG7, hB7⟩
                case measure => simp [intOf]; omega
              · go_wp2
                go_roundw
                case rel => exact ⟨i + 1, ps, by omega, by omega, by go_num, hG5, hB5⟩
                case measure => simp [intOf]; omega
          · have HSX := Lib.hid gsx
            have q0 : (sx == 0) = false := by simp [hs0]
            go_upto_region 19 with fail
            go_wp2_with fail
            refine (at_any _ _ code (HH0.out.below (show Below w.heap.size w _ from Below.trans hBw (Below.mono hBA sW))) hq1 _ (by omega) (by omega)).mono ?_
            rintro e5 w5 ⟨x, rfl, hx5, hb5⟩
            have u5 : x.tmod 2 = x % 2 := Int.tmod_eq_emod_of_nonneg hx5.1
            have hp5 : Below WA.heap.size WA w5 := hb5
            have s5 := hp5.size
            have hB5 : Below wb.heap.size wb w5 := hBA.trans (hp5.mono hBA.size)
            have z3 := oldc hp5 lz z3
            have z4 := oldc hp5 lz z4
            have hG5 := Lib.hid (hGA.out.top.below hp5).top
            have s6 := hB5.size
            clear hb5 hGA
            by_cases hp : x % 2 = 0
            · have HIT := Lib.hid ((Rd.dTPr_mk (kae := sx) (kbe := sx) HSX.out HSX.out (HFR.out.below hB5) (HTW.out.below hB5)).it)
              have hG6 := Lib.hid (hG5.out.alloc (.cells #[.int .i64 sx, .slice fao fn fcap, .int .i64 sx, .slice tao tn tcap] 55))
              have HIT6 := Lib.hid (HIT.out.keep (w' := w5.alloc (.cells #[.int .i64 sx, .slice fao fn fcap, .int .i64 sx, .slice tao tn tcap] 55)) (fun b h1 h2 => Below.heap_alloc _ _ b (by omega)))
              clear HIT
              go_wp2_with (at_builtin; refine wpList_push rfl rfl slTypePair (by show (0 : Nat) < 4; omega) hG6.out rfl (ad := ⟨w5.heap.size, 0, none⟩) rfl (cs := [.int .i64 sx, .slice fao fn fcap, .int .i64 sx, .slice tao tn tcap]) (y := (((sx : Int), fr), ((sx : Int), tw))) ?c1 HIT6.out (Nat.le_refl _) (.inr ⟨Nat.le_refl _, fun h => by cases h⟩) (by unfold maxLen; omega) (by omega) (by simp; omega) ?_)
              case c1 =>
                intro j c hj
                match j, hj with
                | 0, hj => simp at hj; subst hj; simp [Addr.add, go_sem]
                | 1, hj => simp at hj; subst hj; simp [Addr.add, go_sem]
                | 2, hj => simp at hj; subst hj; simp [Addr.add, go_sem]
                | 3, hj => simp at hj; subst hj; simp [Addr.add, go_sem]
              intro v' w7 hG7 _ hb7
              have HG7 := Lib.hid hG7
              have hB7 : Below wb.heap.size wb w7 := Below.trans (hB5.alloc s6 _) hb7
              clear hG6 HIT6 hG7 hb7
              go_wp2
              go_roundw
              case rel => exact ⟨i + 1, _, by omega, by simp; omega, by go_num, HG7, hB7⟩
              case measure => simp [intOf]; omega
            · go_wp2
              go_roundw
              case rel => exact ⟨i + 1, ps, by omega, by omega, by go_num, hG5, hB5⟩
              case measure => simp [intOf]; omega
        · have hI : ¬ (i : Int) < (cat.length : Int) := by omega
          have HSM := Lib.hid (hG.out.rd (l0 := 0) (Nat.zero_le _) (Nat.zero_le _))
          have hpl : ps.length ≤ 6 := by omega
          clear hG hi hpi
          go_wp2_with fail
          refine (fresh_any _ _ code (HH0.out.below hBd) hq1 3 (by omega) (by omega)).mono ?_
          rintro ef wf ⟨fv, fs, rfl, hof, hlf, hbf⟩
          have hdf : Below wd.heap.size wd wf := hbf
          have sf := hdf.size
          have HF := Lib.hid hof.rd
          clear hof hbf
          go_wp2_with fail
          refine (makeType_any _ _ fs HF.out (by omega) 2 (by omega) (by omega)).mono ?_
          rintro eg wg ⟨va, ta, rfl, hot1, -, hbg⟩
          obtain ⟨-, hIa, hsa⟩ := hot1.rd.kin
          obtain ⟨aao, an, acap, rfl, han, -⟩ := hsa.shape
          have hdg : Below wd.heap.size wd wg := hdf.trans (hbg.mono sf)
          have sg := hdg.size
          have HTA := Lib.hid hsa
          have HIA := Lib.hid hIa
          clear HF hot1 hbg hsa hIa han
          go_wp2_with fail
          refine (fresh_any _ _ code (HH0.out.below (hBd.trans (hdg.mono hBd.size))) hq1 5 (by omega) (by omega)).mono ?_
          rintro eh wh ⟨hv, hs, rfl, hoh, hlh, hbh⟩
          have hdh : Below wd.heap.size wd wh := hdg.trans (hbh.mono sg)
          have sh := hdh.size
          have HTA2 := Lib.hid (HTA.out.below hbh)
          have HF := Lib.hid hoh.rd
          clear hoh hbh HTA
          go_wp2_with fail
          refine (makeType_any _ _ hs HF.out (by omega) 2 (by omega) (by omega)).mono ?_
          rintro ek wk ⟨vb, tb, rfl, hot2, -, hbk⟩
          obtain ⟨-, hIb, hsb⟩ := hot2.rd.kin
          obtain ⟨bao, bn, bcap, rfl, hbn, -⟩ := hsb.shape
          have hdk : Below wd.heap.size wd wk := hdh.trans (hbk.mono sh)
          have sk := hdk.size
          have HTB := Lib.hid (hsb.top.mono (Nat.zero_le _) (Nat.le_refl _))
          have HTA := Lib.hid ((HTA2.out.below hbk).top.mono (Nat.zero_le _) (Nat.le_refl _))
          obtain ⟨wA, hwA⟩ : ∃ W : World, W = wk.alloc (.cells #[.int .i64 ta.1, .slice aao an acap, .int .i64 tb.1, .slice bao bn bcap] 55) := ⟨_, rfl⟩
          obtain ⟨ap, hap⟩ : ∃ ap : List TPr, ap = [((ta.1, ta.2), (tb.1, tb.2))] := ⟨_, rfl⟩
          have hapl : ap.length = 1 := by rw [hap]; rfl
          have HAP := Lib.hid (show Rd false 0 wA.heap.size wA [.slice (some ⟨wk.heap.size, 0, none⟩) 1 1] ap by rw [hwA, hap]; exact ((GL.litn 0 wk 55 (Nat.zero_le _) (by simp [maxLen]) (Rd.dTPr_mk HIA.out hIb HTA.out HTB.out)).top).rd (l0 := 0) (Nat.le_refl _) (Nat.le_refl _))
          have hdA : Below wd.heap.size wd wA := by rw [hwA]; exact hdk.alloc sk _
          have lwk : wk.heap.size < wA.heap.size := by rw [hwA]; simp
          clear hot2 hbk hsb hIb hbn HF HTA HTA2 HTB HIA hap
          go_upto_region 23 with fail
          rw [← hwA]
          clear hwA
          have sA := hdA.size
          have hBwA : Below w.heap.size w wA := hBd.trans (hdA.mono hBd.size)
          have HCA := Lib.hid ((HC.out.below hbd).below hdA)
          have HSMA := Lib.hid (HSM.out.below hdA)
          obtain ⟨V, hV⟩ : ∃ V, V = (findO cat ps ap).isSome := ⟨_, rfl⟩
          have HV := Lib.hid hV
          obtain ⟨L, hL⟩ : ∃ L, L = findX cat ps ap := ⟨_, rfl⟩
          have HX := Lib.hid hL
          clear hV hL HC HSM HH0
          go_wp2_with fail
          refine (findI_any _ _ _ _ cat ps ap HCA.out HSMA.out HAP.out (by omega) (by omega) V HV.out).mono ?_
          rintro e7 w7 ⟨lv, rfl, hol, hb7⟩
          rw [← HX.out] at hol
          obtain ⟨lao, ln, lcap, rfl, hln, -⟩ := hol.rd.shape
          subst hln
          have hA7 : Below wA.heap.size wA w7 := hb7
          have s7 := hA7.size
          have HL7 := Lib.hid hol.rd
          clear hol hb7
          go_wp2_with fail
          refine (findS_any _ _ _ _ cat ps ap (HCA.out.below hA7) (HSMA.out.below hA7) (HAP.out.below hA7) (by omega) (by omega) V HV.out).mono ?_
          rintro e8 w8 ⟨lv2, rfl, -, hb8⟩
          have hA8 : Below wA.heap.size wA w8 := hA7.trans (hb8.mono s7)
          have hBw8 : Below w.heap.size w w8 := hBwA.trans (hA8.mono hBwA.size)
          have HL := Lib.hid (HL7.out.below hb8)
          have HC8 := Lib.hid (HCA.out.below hA8)
          have HSM8 := Lib.hid (HSMA.out.below hA8)
          have HAP8 := Lib.hid (HAP.out.below hA8)
          clear hb8 HL7 HCA HSMA HAP
          cases V
          · obtain rfl : L = [] := by
              have h := HV.out
              rw [HX.out, findX]
              cases e : findO cat ps ap with
              | none => rfl
              | some l => rw [e] at h; cases h
            go_wp2
            go_ret
            exact ⟨rfl, hBw8⟩
          have HLW := Lib.hid (show findV cat ps ap = true ∧ AscF 0 cat.length L ∧ solvB (pickR cat L) ps ap = true ∧ ∀ i, i < L.length → solvB (pickR cat (L.eraseIdx i)) ps ap = false by
            have h := HV.out
            rw [HX.out, findX]
            cases e : findO cat ps ap with
            | none => rw [e] at h; cases h
            | some l => exact find_law e)
          have hLl : L.length ≤ 6 := by have := HLW.out.2.1.len; omega
          clear HV HX
          go_wp2
          go_loopw [15, 16, 17, 18, 19, 21, 23, 126, 165, 184] (fun s15 _ _ _ _ _ _ _ _ _ wr => ∃ (k : Nat) (K : Int), k ≤ L.length + 1 ∧ Hid (K = (k : Int) - 1) ∧ s15 = .int .i64 K ∧ Below w8.heap.size w8 wr) (fun s15 _ _ _ _ _ _ _ _ _ _ => L.length + 1 - (intOf s15 + 1).toNat)
          case atStart => exact ⟨0, -1, by omega, Lib.hid (by omega), rfl, Below.refl _ _⟩
          case round =>
            obtain ⟨wl, hwl⟩ : ∃ wm : World, wm = wr := ⟨_, rfl⟩
            subst hwl
            obtain ⟨k, K, hk, HK, rfl, hbl⟩ := hrel
            have sL := hbl.size
            by_cases hkl : k ≤ L.length
            · have hKI : K < (L.length : Int) := by have := HK.out; omega
              have hK1 : -1 ≤ K := by have := HK.out; omega
              go_wp2
              go_loopw [16, 17, 18, 126] (fun s16 _ _ sc wr => ∃ j : Nat, j ≤ L.length ∧ sc = .int .i64 j ∧ Hid (GL false wl.heap.size 0 wr.heap.size wr 37 s16 (pickR cat (skipL (L.take j) k))) ∧ Below wl.heap.size wl wr) (fun _ _ _ sc _ => L.length - (intOf sc).toNat)
              case atStart => exact ⟨0, Nat.zero_le _, rfl, Lib.hid (by rw [skip_nil]; exact (GL.lit0 _ _ _ _ _ (Nat.le_refl _)).top), (Below.refl _ _).alloc (Nat.le_refl _) _⟩
              case round =>
                obtain ⟨wn, hwn⟩ : ∃ wm : World, wm = wr := ⟨_, rfl⟩
                subst hwn
                obtain ⟨j, hj, rfl, hG, hbn⟩ := hrel
                have sN := hbn.size
                have hB8n : Below w8.heap.size w8 wn := hbl.trans (hbn.mono sL)
                by_cases hjl : j < L.length
                · have hjI : (j : Int) < (L.length : Int) := by omega
                  obtain ⟨lb, loff, x, rfl, hlx, lc, -, -, -, -, ll, -⟩ := HL.out.int_at hjl
                  have hxr := HLW.out.2.1.1 x (List.mem_of_getElem? hlx.out)
                  obtain ⟨xn, rfl⟩ := Int.eq_ofNat_of_zero_le hxr.1
                  have hxc : xn < cat.length := by omega
                  have hxI : (xn : Int) < (cat.length : Int) := by omega
                  have hx0 : ¬ (xn : Int) < 0 := by omega
                  have hx1 : ¬ (cat.length : Int) ≤ (xn : Int) := by omega
                  obtain ⟨rb, roff, nm, sx, pl, fr, tw, vfr, vtw, rfl, hx, c0, c1, c2, c3, c4, -, -, -, hfr, htw, hri, -, -, rbl⟩ := HC8.out.dRul_at hxc
                  obtain ⟨x1, x2, x3, rfl, -⟩ := hfr.shape
                  obtain ⟨t1, t2, t3, rfl, -⟩ := htw.shape
                  have g0 := oldc hB8n ll lc
                  have k0 := oldc hB8n rbl c0
                  have k1 := oldc hB8n rbl c1
                  have k2 := oldc hB8n rbl c2
                  have k3 := oldc hB8n rbl c3
                  have k4 := oldc hB8n rbl c4
                  have HLX := Lib.hid hlx.out
                  have HRX := Lib.hid hx.out
                  have HRI := Lib.hid hri
                  have HGN := Lib.hid hG.out
                  clear hx hlx lc c0 c1 c2 c3 c4 hfr htw hri hG hxr
                  go_upto_region 34 with fail
                  go_cut [17, 18, 151] (fun s17 s18 s151 wx => s17 = .int .i64 j ∧ s18 = .int .i64 xn ∧ s151 = .bool false ∧ wn = wx)
                  case first =>
                    rcases Nat.eq_zero_or_pos j with hj0 | hj0
                    · subst hj0
                      clear k0 k1 k2 k3 k4
                      go_wp2_with fail
                      go_meet
                      exact ⟨rfl, rfl, rfl, rfl⟩
                    · obtain ⟨j', hj'⟩ : ∃ j', j = j' + 1 := ⟨j - 1, by omega⟩
                      have HJ := Lib.hid hj'
                      have hjm : (j : Int) - 1 = (j' : Int) := by omega
                      have hj0I : (0 : Int) < (j : Int) := by omega
                      obtain ⟨lb2, loff2, y, e2, hly, lc2, -, -, -, -, ll2, -⟩ := HL.out.int_at (show j' < L.length by omega)
                      simp only [Option.some.injEq, Addr.mk.injEq, and_true] at e2
                      obtain ⟨rfl, rfl⟩ := e2
                      have g1 := oldc hB8n ll2 lc2
                      have hjl' : (j' : Int) < (L.length : Int) := by omega
                      have hyx : ¬ (xn : Int) ≤ y := by
                        have h := pair_lt HLW.out.2.1.2 (show j' < j by omega) hly.out HLX.out
                        omega
                      clear hly lc2 hj' k0 k1 k2 k3 k4
                      go_wp2_with fail
                      go_meet
                      exact ⟨rfl, rfl, rfl, rfl⟩
                  case rest =>
                    obtain ⟨rfl, rfl, rfl, hwx⟩ := hcut
                    subst hwx
                    by_cases hjk : k = j + 1
                    · obtain rfl : K = (j : Int) := by have := HK.out; omega
                      have HG2 := Lib.hid (show GL false wl.heap.size 0 wn.heap.size wn 37 _ (pickR cat (skipL (L.take (j + 1)) k)) by rw [skipL_same HLX.out hjk]; exact HGN.out)
                      clear HGN k0 k1 k2 k3 k4
                      go_wp2
                      go_roundw
                      case rel => exact ⟨j + 1, by omega, by go_num, HG2, hbn⟩
                      case measure => simp [intOf]; omega
                    · have q0 : ((j : Int) == K) = false := by have := HK.out; simp; omega
                      have HNX := Lib.hid (show pickR cat (skipL (L.take j) k) ++ [(nm, sx, pl, fr, tw)] = pickR cat (skipL (L.take (j + 1)) k) by rw [skipL_step HLX.out hjk, pickR_snoc (r := (nm, sx, pl, fr, tw)) (by simpa using HRX.out)])
                      have hpl2 : (pickR cat (skipL (L.take j) k)).length ≤ 20 := by
                        have h1 := pickR_len cat (skipL (L.take j) k)
                        have h2 := (skipL_sub (L.take j) k).length_le
                        rw [List.length_take] at h2; omega
                      obtain ⟨PR, hPR⟩ : ∃ P, P = pickR cat (skipL (L.take j) k) := ⟨_, rfl⟩
                      rw [← hPR] at HNX HGN hpl2
                      have HIT := Lib.hid (((HRI.out.top.mono (Nat.zero_le _) sL).below hB8n).it)
                      have hG2 := Lib.hid (HGN.out.alloc (.cells #[.string nm, .int .i64 sx, .int .i64 pl, .slice x1 x2 x3, .slice t1 t2 t3] 37))
                      have HIT2 := Lib.hid (HIT.out.keep (w' := wn.alloc (.cells #[.string nm, .int .i64 sx, .int .i64 pl, .slice x1 x2 x3, .slice t1 t2 t3] 37)) (fun b h1 h2 => Below.heap_alloc _ _ b (by omega)))
                      clear HGN HIT hPR
                      go_wp2_with (at_builtin; refine wpList_push rfl rfl slRule (by show (0 : Nat) < 5; omega) hG2.out rfl (ad := ⟨wn.heap.size, 0, none⟩) rfl (cs := [.string nm, .int .i64 sx, .int .i64 pl, .slice x1 x2 x3, .slice t1 t2 t3]) (y := ((nm, sx, pl, fr, tw) : Rul)) ?c1 HIT2.out (Nat.le_refl _) (.inr ⟨Nat.le_refl _, fun h => by cases h⟩) (by unfold maxLen; omega) (by omega) (by simp; omega) ?_)
                      intro v1 w3 hL3 _ hb3
                      have HN := Lib.hid hL3
                      rw [HNX.out] at HN
                      have hbb3 : Below wl.heap.size wl w3 := Below.trans bwT hb3
                      clear hL3 hb3 hG2 HIT2 HNX k0 k1 k2 k3 k4
                      go_wp2
                      go_roundw
                      case rel => exact ⟨j + 1, by omega, by go_num, HN, hbb3⟩
                      case measure => simp [intOf]; omega
                · obtain rfl : j = L.length := by omega
                  have nI : ¬ (L.length : Int) < (L.length : Int) := by omega
                  have hG2 := hG.out
                  rw [List.take_length] at hG2
                  obtain ⟨RS, hRS⟩ : ∃ RS, RS = pickR cat (skipL L k) := ⟨_, rfl⟩
                  rw [← hRS] at hG2
                  have HRS := Lib.hid (hG2.rd (l0 := 0) (Nat.zero_le _) (Nat.zero_le _))
                  have HARE := Lib.hid (show areRules RS = true by rw [hRS]; exact pickR_ok HCR.out (HLW.out.2.1.sub (skipL_sub _ _)))
                  have HRE := Lib.hid hRS
                  obtain ⟨rao, rcap, rfl, -, -⟩ := hG2.len
                  have HSN := Lib.hid (HSM8.out.below hB8n)
                  have HAN := Lib.hid (HAP8.out.below hB8n)
                  have HP1 := Lib.hid (pairsOk_mem (findV_pairs HLW.out.1).1)
                  have HP2 := Lib.hid (pairsOk_mem (findV_pairs HLW.out.1).2)
                  clear hG hG2 hRS
                  go_wp2
                  go_loopw [19, 21, 165] (fun s19 _ sc wr => ∃ (i : Nat) (b : Bool), i ≤ ps.length ∧ sc = .int .i64 i ∧ s19 = .bool b ∧ Hid (b = (ps.take i).all (sameB RS)) ∧ Below wn.heap.size wn wr) (fun _ _ sc _ => ps.length - (intOf sc).toNat)
                  case atStart => exact ⟨0, true, Nat.zero_le _, rfl, rfl, Lib.hid (by simp), Below.refl _ _⟩
                  case round =>
                    obtain ⟨wx, hwx⟩ : ∃ wm : World, wm = wr := ⟨_, rfl⟩
                    subst hwx
                    obtain ⟨i, b, hi, rfl, rfl, HI, hbwx⟩ := hrel
                    have swx := hbwx.size
                    by_cases hli : i < ps.length
                    · have hIi : (i : Int) < (ps.length : Int) := by omega
                      obtain ⟨tb, toff, kae, kal, kbe, kbl, v1, v2, rfl, hx, c0, c1, c2, c3, -, -, hv1, hv2, hpr, -, -, tlt⟩ := HSN.out.dTPr_at hli
                      obtain ⟨a1, n1, p1, rfl, -⟩ := hv1.shape
                      obtain ⟨a2, n2, p2, rfl, -⟩ := hv2.shape
                      have k0 := oldc hbwx tlt c0
                      have k1 := oldc hbwx tlt c1
                      have k2 := oldc hbwx tlt c2
                      have k3 := oldc hbwx tlt c3
                      have HA := Lib.hid hpr.part_ka
                      have HB := Lib.hid hpr.part_kb
                      have HPX := Lib.hid hx.out
                      have hpk := HP1.out _ (List.mem_of_getElem? hx.out)
                      have HK1 := Lib.hid hpk.1
                      have HK2 := Lib.hid hpk.2
                      obtain ⟨q, hlet_q⟩ : ∃ r, r = decide (nf RS (kae, kal) = nf RS (kbe, kbl)) := ⟨_, rfl⟩
                      have HQ := Lib.hid hlet_q
                      clear hlet_q
                      obtain ⟨WA, hWA⟩ : ∃ W : World, W = wx.alloc (.cells #[.int .i64 kae, .slice a1 n1 p1, .int .i64 kbe, .slice a2 n2 p2] 55) := ⟨_, rfl⟩
                      have hbA : Below wx.heap.size wx WA := by subst hWA; exact bwT
                      have e0 : WA.cell? ⟨wx.heap.size, 0, none⟩ = some (.int .i64 kae) := by subst hWA; simp [go_sem]
                      have e1 : WA.cell? ⟨wx.heap.size, 1, none⟩ = some (.slice a1 n1 p1) := by subst hWA; simp [go_sem]
                      have e2 : WA.cell? ⟨wx.heap.size, 2, none⟩ = some (.int .i64 kbe) := by subst hWA; simp [go_sem]
                      have e3 : WA.cell? ⟨wx.heap.size, 3, none⟩ = some (.slice a2 n2 p2) := by subst hWA; simp [go_sem]
                      have lA : wx.heap.size < WA.heap.size := by subst hWA; simp
                      have hBA : Below wn.heap.size wn WA := hbwx.trans (hbA.mono swx)
                      have sA := hBA.size
                      clear hx c0 c1 c2 c3 hv1 hv2 hpr hpk
                      go_upto_region 43 with fail
                      rw [← hWA]
                      clear hWA k0 k1 k2 k3
                      cases b
                      · have HI2 := Lib.hid (show false = (ps.take (i + 1)).all (sameB RS) by rw [all_next HPX.out, ← HI.out, Bool.false_and])
                        clear HI HQ HPX
                        refine wp_region_held_drew (S := (fun w' => True)) (by kernel_rfl) ?_ (fun hHeld => ?_)
                        · first | exact trivial | ((try dsimp only); go_keep)
                        refine tkR 0 (v := ?_) ?_ ?_
                        rotate_left
                        · intro w hSw; (try dsimp only at hSw); go_simp <;> with_reducible rfl
                        try simp only [Act.put, List.setIfInBounds_toArray, List.set_cons_zero, List.set_cons_succ]
                        refine tkR 1 (v := ?_) ?_ ?_
                        rotate_left
                        · intro w hSw; (try dsimp only at hSw); go_simp <;> with_reducible rfl
                        try simp only [Act.put, List.setIfInBounds_toArray, List.set_cons_zero, List.set_cons_succ]
                        refine skR 2 ?_
                        try simp only [Act.put, List.setIfInBounds_toArray, List.set_cons_zero, List.set_cons_succ]
                        refine skR 3 ?_
                        try simp only [Act.put, List.setIfInBounds_toArray, List.set_cons_zero, List.set_cons_succ]
                        refine skR 6 ?_
                        try simp only [Act.put, List.setIfInBounds_toArray, List.set_cons_zero, List.set_cons_succ]
                        refine skR 7 ?_
                        try simp only [Act.put, List.setIfInBounds_toArray, List.set_cons_zero, List.set_cons_succ]
                        refine skR 4 ?_
                        try simp only [Act.put, List.setIfInBounds_toArray, List.set_cons_zero, List.set_cons_succ]
                        refine skR 8 ?_
                        try simp only [Act.put, List.setIfInBounds_toArray, List.set_cons_zero, List.set_cons_succ]
                        refine skR 5 ?_
                        try simp only [Act.put, List.setIfInBounds_toArray, List.set_cons_zero, List.set_cons_succ]
                        refine skR 9 ?_
                        try simp only [Act.put, List.setIfInBounds_toArray, List.set_cons_zero, List.set_cons_succ]
                        refine skR 10 ?_
                        try simp only [Act.put, List.setIfInBounds_toArray, List.set_cons_zero, List.set_cons_succ]
                        refine tkR 11 (v := ?_) ?_ ?_
                        rotate_left
                        · intro w hSw; (try dsimp only at hSw); go_simp <;> with_reducible rfl
                        try simp only [Act.put, List.setIfInBounds_toArray, List.set_cons_zero, List.set_cons_succ]
                        refine tkR 12 (v := ?_) ?_ ?_
                        rotate_left
                        · intro w hSw; (try dsimp only at hSw); go_simp <;> with_reducible rfl
                        try simp only [Act.put, List.setIfInBounds_toArray, List.set_cons_zero, List.set_cons_succ]
                        refine wpAnyH_done (by kernel_rfl) ?_ _
                        go_wp2
                        go_roundw
                        case rel => exact ⟨i + 1, false, by omega, by go_num, rfl, HI2, bwT⟩
                        case measure => simp [intOf]; omega
                      · have HI2 := Lib.hid (show q = (ps.take (i + 1)).all (sameB RS) by rw [all_next HPX.out, ← HI.out, Bool.true_and, HQ.out]; rfl)
                        clear HI HPX
                        refine wp_region_held_drew (S := (fun w' => w'.cell? ⟨wx.heap.size, 0, none⟩ = some (.int .i64 kae) ∧ w'.cell? ⟨wx.heap.size, 1, none⟩ = some (.slice a1 n1 p1) ∧ w'.cell? ⟨wx.heap.size, 2, none⟩ = some (.int .i64 kbe) ∧ w'.cell? ⟨wx.heap.size, 3, none⟩ = some (.slice a2 n2 p2))) (by kernel_rfl) ?_ (fun hHeld => ?_)
                        · first | exact trivial | ((try dsimp only); go_keep)
                        refine tkR 0 (v := ?_) ?_ ?_
                        rotate_left
                        · intro w hSw; (try dsimp only at hSw); go_simp <;> with_reducible rfl
                        try simp only [Act.put, List.setIfInBounds_toArray, List.set_cons_zero, List.set_cons_succ]
                        refine tkR 1 (v := ?_) ?_ ?_
                        rotate_left
                        · intro w hSw; (try dsimp only at hSw); go_simp <;> with_reducible rfl
                        try simp only [Act.put, List.setIfInBounds_toArray, List.set_cons_zero, List.set_cons_succ]
                        refine tkR 2 (v := ?_) ?_ ?_
                        rotate_left
                        · intro w hSw; (try dsimp only at hSw); go_simp <;> with_reducible rfl
                        try simp only [Act.put, List.setIfInBounds_toArray, List.set_cons_zero, List.set_cons_succ]
                        refine tkR 3 (v := ?_) ?_ ?_
                        rotate_left
                        · intro w hSw; (try dsimp only at hSw); go_simp <;> with_reducible rfl
                        try simp only [Act.put, List.setIfInBounds_toArray, List.set_cons_zero, List.set_cons_succ]
                        refine tkR 6 (v := ?_) ?_ ?_
                        rotate_left
                        · intro w hSw; (try dsimp only at hSw); go_simp <;> with_reducible rfl
                        try simp only [Act.put, List.setIfInBounds_toArray, List.set_cons_zero, List.set_cons_succ]
                        refine tkR 7 (v := ?_) ?_ ?_
                        rotate_left
                        · intro w hSw; (try dsimp only at hSw); go_simp <;> with_reducible rfl
                        try simp only [Act.put, List.setIfInBounds_toArray, List.set_cons_zero, List.set_cons_succ]
                        refine tkR 4 (v := ?_) ?_ ?_
                        rotate_left
                        · intro w hSw; (try dsimp only at hSw); go_simp <;> with_reducible rfl
                        try simp only [Act.put, List.setIfInBounds_toArray, List.set_cons_zero, List.set_cons_succ]
                        refine tkR 8 (v := ?_) ?_ ?_
                        rotate_left
                        · intro w hSw; (try dsimp only at hSw); go_simp <;> with_reducible rfl
                        try simp only [Act.put, List.setIfInBounds_toArray, List.set_cons_zero, List.set_cons_succ]
                        refine wpAnyH_ready (rs := [5]) (by kernel_rfl) (by simp) ?_
                        refine rdR (fun K hK => ?_) ?_
                        · go_simp
                          refine (normalFormI_k _ _ _ _ RS (kae, kal) (HRS.out.below ?b0) (HA.out.below ?b1) HARE.out HK1.out).mono ?_
                          case b0 => exact Below.trans hBA (Below.mono bwT sA)
                          case b1 => exact Below.trans hBA (Below.mono bwT sA)
                          rintro e5 w5 ⟨x1, y1, rfl, ho1, hb5⟩
                          obtain ⟨rfl, -, hs1⟩ := ho1.rd.kin
                          obtain ⟨ao1, m1, cp1, rfl, -⟩ := hs1.shape
                          have hp5 : Below WA.heap.size WA w5 := Below.trans (show Below WA.heap.size WA _ from bwT) (hb5.mono szT)
                          have s5 := hp5.size
                          have hS5 := And.intro (oldc hp5 lA e0) (And.intro (oldc hp5 lA e1) (And.intro (oldc hp5 lA e2) (oldc hp5 lA e3)))
                          have HO1 := Lib.hid ho1.rd
                          clear hb5 hs1 ho1
                          refine hK.out _ _ ?_ (fun hHeld => ?_)
                          · exact kpT
                          clear hK K
                          try simp only [Act.put, List.setIfInBounds_toArray, List.set_cons_zero, List.set_cons_succ]
                          refine wpAnyH_ready (rs := [9]) (by kernel_rfl) (by simp) ?_
                          refine rdR (fun K hK => ?_) ?_
                          · go_simp
                            refine (normalFormI_k _ _ _ _ RS (kbe, kbl) (HRS.out.below ?b0) (HB.out.below ?b1) HARE.out HK2.out).mono ?_
                            case b0 => exact Below.trans hBA (Below.mono bwT sA)
                            case b1 => exact Below.trans hBA (Below.mono bwT sA)
                            rintro e6 w6 ⟨x2, y2, rfl, ho2, hb6⟩
                            obtain ⟨rfl, -, hs2⟩ := ho2.rd.kin
                            obtain ⟨ao2, m2, cp2, rfl, -⟩ := hs2.shape
                            have hp6 : Below WA.heap.size WA w6 := Below.trans (show Below WA.heap.size WA _ from bwT) (hb6.mono szT)
                            have hp56 : Below w5.heap.size w5 w6 := Below.trans (show Below w5.heap.size w5 _ from bwT) (hb6.mono szT)
                            have s6 := hp6.size
                            have hS6 := And.intro (oldc hp6 lA e0) (And.intro (oldc hp6 lA e1) (And.intro (oldc hp6 lA e2) (oldc hp6 lA e3)))
                            have HO2 := Lib.hid ho2.rd
                            replace HO1 := Lib.hid (HO1.out.below hp56)
                            clear hb6 hs2 ho2
                            refine hK.out _ _ ?_ (fun hHeld => ?_)
                            · exact kpT
                            clear hK K
                            try simp only [Act.put, List.setIfInBounds_toArray, List.set_cons_zero, List.set_cons_succ]
                            refine wpAnyH_ready (rs := [10]) (by kernel_rfl) (by simp) ?_
                            refine rdR (fun K hK => ?_) ?_
                            · go_simp
                              refine (eqTypesS_b _ _ _ _ _ (nf RS (kae, kal)) (nf RS (kbe, kbl)) (HO1.out.below ?b0) (HO2.out.below ?b1) q HQ.out).mono ?_
                              case b0 => exact bwT
                              case b1 => exact bwT
                              rintro e7 w7 ⟨rfl, hb7⟩
                              have hp7 : Below WA.heap.size WA w7 := Below.trans (show Below WA.heap.size WA _ from bwT) (hb7.mono szT)
                              have hS7 := And.intro (oldc hp7 lA e0) (And.intro (oldc hp7 lA e1) (And.intro (oldc hp7 lA e2) (oldc hp7 lA e3)))
                              clear hb7
                              refine hK.out _ _ ?_ (fun hHeld => ?_)
                              · exact kpT
                              clear hK K
                              try simp only [Act.put, List.setIfInBounds_toArray, List.set_cons_zero, List.set_cons_succ]
                              refine tkR 11 (v := ?_) ?_ ?_
                              rotate_left
                              · intro w hSw; (try dsimp only at hSw); go_simp <;> with_reducible rfl
                              try simp only [Act.put, List.setIfInBounds_toArray, List.set_cons_zero, List.set_cons_succ]
                              refine tkR 12 (v := ?_) ?_ ?_
                              rotate_left
                              · intro w hSw; (try dsimp only at hSw); go_simp <;> with_reducible rfl
                              try simp only [Act.put, List.setIfInBounds_toArray, List.set_cons_zero, List.set_cons_succ]
                              refine wpAnyH_done (by kernel_rfl) ?_ _
                              have hB7 : Below wn.heap.size wn w7 := hBA.trans (hp7.mono sA)
                              clear hHeld HQ
                              go_wp2
                              go_roundw
                              case rel => exact ⟨i + 1, q, by omega, by go_num, rfl, HI2, hB7⟩
                              case measure => simp [intOf]; omega
                            exact AllReadyH.nil
                          exact AllReadyH.nil
                        exact AllReadyH.nil
                    · obtain rfl : i = ps.length := by omega
                      have nI : ¬ ((ps.length) : Int) < ((ps.length) : Int) := by omega
                      have HB5 := Lib.hid (show b = ps.all (sameB RS) by rw [HI.out, List.take_length])
                      obtain ⟨b5, hb5⟩ : ∃ b5, b5 = b := ⟨_, rfl⟩
                      subst hb5
                      clear HI
                      go_wp2
                      go_loopw [19, 23, 184] (fun s19 _ sc wr => ∃ (i : Nat) (b : Bool), i ≤ 1 ∧ sc = .int .i64 i ∧ s19 = .bool b ∧ Hid (b = (b5 && (ap.take i).all (fun p => !sameB RS p))) ∧ Below wn.heap.size wn wr) (fun _ _ sc _ => 1 - (intOf sc).toNat)
                      case atStart => exact ⟨0, b5, Nat.zero_le _, rfl, rfl, Lib.hid (by simp), hbwx⟩
                      case round =>
                        obtain ⟨wy, hwy⟩ : ∃ wm : World, wm = wr := ⟨_, rfl⟩
                        subst hwy
                        obtain ⟨i, b, hi, rfl, rfl, HI, hbwy⟩ := hrel
                        have swy := hbwy.size
                        by_cases hli : i < 1
                        · have hIi : (i : Int) < 1 := by omega
                          obtain ⟨tb, toff, kae, kal, kbe, kbl, v1, v2, eAd, hx, c0, c1, c2, c3, -, -, hv1, hv2, hpr, -, -, tlt⟩ := HAN.out.dTPr_at hli
                          simp only [Option.some.injEq, Addr.mk.injEq, and_true] at eAd
                          obtain ⟨rfl, rfl⟩ := eAd
                          rw [Nat.zero_add] at c0 c1 c2 c3
                          obtain ⟨a1, n1, p1, rfl, -⟩ := hv1.shape
                          obtain ⟨a2, n2, p2, rfl, -⟩ := hv2.shape
                          have k0 := oldc hbwy tlt c0
                          have k1 := oldc hbwy tlt c1
                          have k2 := oldc hbwy tlt c2
                          have k3 := oldc hbwy tlt c3
                          have HA := Lib.hid hpr.part_ka
                          have HB := Lib.hid hpr.part_kb
                          have HPX := Lib.hid hx.out
                          have hpk := HP2.out _ (List.mem_of_getElem? hx.out)
                          have HK1 := Lib.hid hpk.1
                          have HK2 := Lib.hid hpk.2
                          obtain ⟨q, hlet_q⟩ : ∃ r, r = decide (nf RS (kae, kal) = nf RS (kbe, kbl)) := ⟨_, rfl⟩
                          have HQ := Lib.hid hlet_q
                          clear hlet_q
                          obtain ⟨WA, hWA⟩ : ∃ W : World, W = wy.alloc (.cells #[.int .i64 kae, .slice a1 n1 p1, .int .i64 kbe, .slice a2 n2 p2] 55) := ⟨_, rfl⟩
                          have hbA : Below wy.heap.size wy WA := by subst hWA; exact bwT
                          have e0 : WA.cell? ⟨wy.heap.size, 0, none⟩ = some (.int .i64 kae) := by subst hWA; simp [go_sem]
                          have e1 : WA.cell? ⟨wy.heap.size, 1, none⟩ = some (.slice a1 n1 p1) := by subst hWA; simp [go_sem]
                          have e2 : WA.cell? ⟨wy.heap.size, 2, none⟩ = some (.int .i64 kbe) := by subst hWA; simp [go_sem]
                          have e3 : WA.cell? ⟨wy.heap.size, 3, none⟩ = some (.slice a2 n2 p2) := by subst hWA; simp [go_sem]
                          have lA : wy.heap.size < WA.heap.size := by subst hWA; simp
                          have hBA : Below wn.heap.size wn WA := hbwy.trans (hbA.mono swy)
                          have sA := hBA.size
                          clear hx c0 c1 c2 c3 hv1 hv2 hpr hpk
                          go_upto_region 48 with fail
                          rw [← hWA]
                          clear hWA k0 k1 k2 k3
                          cases b
                          · have HI2 := Lib.hid (show false = (b5 && (ap.take (i + 1)).all (fun p => !sameB RS p)) by rw [all_next HPX.out, ← Bool.and_assoc, ← HI.out, Bool.false_and])
                            clear HI HQ HPX
                            refine wp_region_held_drew (S := (fun w' => True)) (by kernel_rfl) ?_ (fun hHeld => ?_)
                            · first | exact trivial | ((try dsimp only); go_keep)
                            refine tkR 0 (v := ?_) ?_ ?_
                            rotate_left
                            · intro w hSw; (try dsimp only at hSw); go_simp <;> with_reducible rfl
                            try simp only [Act.put, List.setIfInBounds_toArray, List.set_cons_zero, List.set_cons_succ]
                            refine tkR 1 (v := ?_) ?_ ?_
                            rotate_left
                            · intro w hSw; (try dsimp only at hSw); go_simp <;> with_reducible rfl
                            try simp only [Act.put, List.setIfInBounds_toArray, List.set_cons_zero, List.set_cons_succ]
                            refine skR 2 ?_
                            try simp only [Act.put, List.setIfInBounds_toArray, List.set_cons_zero, List.set_cons_succ]
                            refine skR 3 ?_
                            try simp only [Act.put, List.setIfInBounds_toArray, List.set_cons_zero, List.set_cons_succ]
                            refine skR 6 ?_
                            try simp only [Act.put, List.setIfInBounds_toArray, List.set_cons_zero, List.set_cons_succ]
                            refine skR 7 ?_
                            try simp only [Act.put, List.setIfInBounds_toArray, List.set_cons_zero, List.set_cons_succ]
                            refine skR 4 ?_
                            try simp only [Act.put, List.setIfInBounds_toArray, List.set_cons_zero, List.set_cons_succ]
                            refine skR 8 ?_
                            try simp only [Act.put, List.setIfInBounds_toArray, List.set_cons_zero, List.set_cons_succ]
                            refine skR 5 ?_
                            try simp only [Act.put, List.setIfInBounds_toArray, List.set_cons_zero, List.set_cons_succ]
                            refine skR 9 ?_
                            try simp only [Act.put, List.setIfInBounds_toArray, List.set_cons_zero, List.set_cons_succ]
                            refine skR 10 ?_
                            try simp only [Act.put, List.setIfInBounds_toArray, List.set_cons_zero, List.set_cons_succ]
                            refine skR 11 ?_
                            try simp only [Act.put, List.setIfInBounds_toArray, List.set_cons_zero, List.set_cons_succ]
                            refine tkR 12 (v := ?_) ?_ ?_
                            rotate_left
                            · intro w hSw; (try dsimp only at hSw); go_simp <;> with_reducible rfl
                            try simp only [Act.put, List.setIfInBounds_toArray, List.set_cons_zero, List.set_cons_succ]
                            refine tkR 13 (v := ?_) ?_ ?_
                            rotate_left
                            · intro w hSw; (try dsimp only at hSw); go_simp <;> with_reducible rfl
                            try simp only [Act.put, List.setIfInBounds_toArray, List.set_cons_zero, List.set_cons_succ]
                            refine wpAnyH_done (by kernel_rfl) ?_ _
                            go_wp2
                            go_roundw
                            case rel => exact ⟨i + 1, false, by omega, by go_num, rfl, HI2, bwT⟩
                            case measure => simp [intOf]; omega
                          · have HI2 := Lib.hid (show (!q) = (b5 && (ap.take (i + 1)).all (fun p => !sameB RS p)) by rw [all_next HPX.out, ← Bool.and_assoc, ← HI.out, Bool.true_and, HQ.out]; rfl)
                            clear HI HPX
                            refine wp_region_held_drew (S := (fun w' => w'.cell? ⟨wy.heap.size, 0, none⟩ = some (.int .i64 kae) ∧ w'.cell? ⟨wy.heap.size, 1, none⟩ = some (.slice a1 n1 p1) ∧ w'.cell? ⟨wy.heap.size, 2, none⟩ = some (.int .i64 kbe) ∧ w'.cell? ⟨wy.heap.size, 3, none⟩ = some (.slice a2 n2 p2))) (by kernel_rfl) ?_ (fun hHeld => ?_)
                            · first | exact trivial | ((try dsimp only); go_keep)
                            refine tkR 0 (v := ?_) ?_ ?_
                            rotate_left
                            · intro w hSw; (try dsimp only at hSw); go_simp <;> with_reducible rfl
                            try simp only [Act.put, List.setIfInBounds_toArray, List.set_cons_zero, List.set_cons_succ]
                            refine tkR 1 (v := ?_) ?_ ?_
                            rotate_left
                            · intro w hSw; (try dsimp only at hSw); go_simp <;> with_reducible rfl
                            try simp only [Act.put, List.setIfInBounds_toArray, List.set_cons_zero, List.set_cons_succ]
                            refine tkR 2 (v := ?_) ?_ ?_
                            rotate_left
                            · intro w hSw; (try dsimp only at hSw); go_simp <;> with_reducible rfl
                            try simp only [Act.put, List.setIfInBounds_toArray, List.set_cons_zero, List.set_cons_succ]
                            refine tkR 3 (v := ?_) ?_ ?_
                            rotate_left
                            · intro w hSw; (try dsimp only at hSw); go_simp <;> with_reducible rfl
                            try simp only [Act.put, List.setIfInBounds_toArray, List.set_cons_zero, List.set_cons_succ]
                            refine tkR 6 (v := ?_) ?_ ?_
                            rotate_left
                            · intro w hSw; (try dsimp only at hSw); go_simp <;> with_reducible rfl
                            try simp only [Act.put, List.setIfInBounds_toArray, List.set_cons_zero, List.set_cons_succ]
                            refine tkR 7 (v := ?_) ?_ ?_
                            rotate_left
                            · intro w hSw; (try dsimp only at hSw); go_simp <;> with_reducible rfl
                            try simp only [Act.put, List.setIfInBounds_toArray, List.set_cons_zero, List.set_cons_succ]
                            refine tkR 4 (v := ?_) ?_ ?_
                            rotate_left
                            · intro w hSw; (try dsimp only at hSw); go_simp <;> with_reducible rfl
                            try simp only [Act.put, List.setIfInBounds_toArray, List.set_cons_zero, List.set_cons_succ]
                            refine tkR 8 (v := ?_) ?_ ?_
                            rotate_left
                            · intro w hSw; (try dsimp only at hSw); go_simp <;> with_reducible rfl
                            try simp only [Act.put, List.setIfInBounds_toArray, List.set_cons_zero, List.set_cons_succ]
                            refine wpAnyH_ready (rs := [5]) (by kernel_rfl) (by simp) ?_
                            refine rdR (fun K hK => ?_) ?_
                            · go_simp
                              refine (normalFormI_k _ _ _ _ RS (kae, kal) (HRS.out.below ?b0) (HA.out.below ?b1) HARE.out HK1.out).mono ?_
                              case b0 => exact Below.trans hBA (Below.mono bwT sA)
                              case b1 => exact Below.trans hBA (Below.mono bwT sA)
                              rintro e5 w5 ⟨x1, y1, rfl, ho1, hb5⟩
                              obtain ⟨rfl, -, hs1⟩ := ho1.rd.kin
                              obtain ⟨ao1, m1, cp1, rfl, -⟩ := hs1.shape
                              have hp5 : Below WA.heap.size WA w5 := Below.trans (show Below WA.heap.size WA _ from bwT) (hb5.mono szT)
                              have s5 := hp5.size
                              have hS5 := And.intro (oldc hp5 lA e0) (And.intro (oldc hp5 lA e1) (And.intro (oldc hp5 lA e2) (oldc hp5 lA e3)))
                              have HO1 := Lib.hid ho1.rd
                              clear hb5 hs1 ho1
                              refine hK.out _ _ ?_ (fun hHeld => ?_)
                              · exact kpT
                              clear hK K
                              try simp only [Act.put, List.setIfInBounds_toArray, List.set_cons_zero, List.set_cons_succ]
                              refine wpAnyH_ready (rs := [9]) (by kernel_rfl) (by simp) ?_
                              refine rdR (fun K hK => ?_) ?_
                              · go_simp
                                refine (normalFormI_k _ _ _ _ RS (kbe, kbl) (HRS.out.below ?b0) (HB.out.below ?b1) HARE.out HK2.out).mono ?_
                                case b0 => exact Below.trans hBA (Below.mono bwT sA)
                                case b1 => exact Below.trans hBA (Below.mono bwT sA)
                                rintro e6 w6 ⟨x2, y2, rfl, ho2, hb6⟩
                                obtain ⟨rfl, -, hs2⟩ := ho2.rd.kin
                                obtain ⟨ao2, m2, cp2, rfl, -⟩ := hs2.shape
                                have hp6 : Below WA.heap.size WA w6 := Below.trans (show Below WA.heap.size WA _ from bwT) (hb6.mono szT)
                                have hp56 : Below w5.heap.size w5 w6 := Below.trans (show Below w5.heap.size w5 _ from bwT) (hb6.mono szT)
                                have s6 := hp6.size
                                have hS6 := And.intro (oldc hp6 lA e0) (And.intro (oldc hp6 lA e1) (And.intro (oldc hp6 lA e2) (oldc hp6 lA e3)))
                                have HO2 := Lib.hid ho2.rd
                                replace HO1 := Lib.hid (HO1.out.below hp56)
                                clear hb6 hs2 ho2
                                refine hK.out _ _ ?_ (fun hHeld => ?_)
                                · exact kpT
                                clear hK K
                                try simp only [Act.put, List.setIfInBounds_toArray, List.set_cons_zero, List.set_cons_succ]
                                refine wpAnyH_ready (rs := [10]) (by kernel_rfl) (by simp) ?_
                                refine rdR (fun K hK => ?_) ?_
                                · go_simp
                                  refine (eqTypesS_b _ _ _ _ _ (nf RS (kae, kal)) (nf RS (kbe, kbl)) (HO1.out.below ?b0) (HO2.out.below ?b1) q HQ.out).mono ?_
                                  case b0 => exact bwT
                                  case b1 => exact bwT
                                  rintro e7 w7 ⟨rfl, hb7⟩
                                  have hp7 : Below WA.heap.size WA w7 := Below.trans (show Below WA.heap.size WA _ from bwT) (hb7.mono szT)
                                  have hS7 := And.intro (oldc hp7 lA e0) (And.intro (oldc hp7 lA e1) (And.intro (oldc hp7 lA e2) (oldc hp7 lA e3)))
                                  clear hb7
                                  refine hK.out _ _ ?_ (fun hHeld => ?_)
                                  · exact kpT
                                  clear hK K
                                  try simp only [Act.put, List.setIfInBounds_toArray, List.set_cons_zero, List.set_cons_succ]
                                  refine tkR 11 (v := ?_) ?_ ?_
                                  rotate_left
                                  · intro w hSw; (try dsimp only at hSw); go_simp <;> with_reducible rfl
                                  try simp only [Act.put, List.setIfInBounds_toArray, List.set_cons_zero, List.set_cons_succ]
                                  refine tkR 12 (v := ?_) ?_ ?_
                                  rotate_left
                                  · intro w hSw; (try dsimp only at hSw); go_simp <;> with_reducible rfl
                                  try simp only [Act.put, List.setIfInBounds_toArray, List.set_cons_zero, List.set_cons_succ]
                                  refine tkR 13 (v := ?_) ?_ ?_
                                  rotate_left
                                  · intro w hSw; (try dsimp only at hSw); go_simp <;> with_reducible rfl
                                  try simp only [Act.put, List.setIfInBounds_toArray, List.set_cons_zero, List.set_cons_succ]
                                  refine wpAnyH_done (by kernel_rfl) ?_ _
                                  have hB7 : Below wn.heap.size wn w7 := hBA.trans (hp7.mono sA)
                                  clear hHeld HQ
                                  go_wp2
                                  go_roundw
                                  case rel => exact ⟨i + 1, !q, by omega, by go_num, rfl, HI2, hB7⟩
                                  case measure => simp [intOf]; omega
                                exact AllReadyH.nil
                              exact AllReadyH.nil
                            exact AllReadyH.nil
                        · obtain rfl : i = 1 := by omega
                          have nI : ¬ ((1 : Nat) : Int) < 1 := by omega
                          have HB6 := Lib.hid (show b = solvB RS ps ap by rw [HI.out, HB5.out, List.take_of_length_le (by omega)]; rfl)
                          have hB8o : Below w8.heap.size w8 wy := hB8n.trans (hbwy.mono hB8n.size)
                          clear HI HB5
                          by_cases hk0 : k = 0
                          · obtain rfl : b = true := by rw [HB6.out, HRE.out, hk0]; exact HLW.out.2.2.1
                            have hK0 : K < 0 := by have := HK.out; omega
                            clear HB6
                            go_wp2
                            go_roundw
                            case rel => exact ⟨k + 1, K + 1, by omega, Lib.hid (by have := HK.out; omega), by go_num, hB8o⟩
                            case measure => have := HK.out; simp [intOf]; omega
                          · obtain ⟨m, hm⟩ : ∃ m, k = m + 1 := ⟨k - 1, by omega⟩
                            obtain rfl : b = false := by rw [HB6.out, HRE.out, hm]; exact HLW.out.2.2.2 m (by omega)
                            have hK0 : ¬ K < 0 := by have := HK.out; omega
                            clear HB6 hm
                            go_wp2
                            go_roundw
                            case rel => exact ⟨k + 1, K + 1, by omega, Lib.hid (by have := HK.out; omega), by go_num, hB8o⟩
                            case measure => have := HK.out; simp [intOf]; omega
            · have hKI : ¬ K < (L.length : Int) := by have := HK.out; omega
              go_wp2
              go_ret
              exact ⟨rfl, hBw8.trans (hbl.mono hBw8.size)⟩
end Go.Proofs.Ytlfpnncjdoaelaa
