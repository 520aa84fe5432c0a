/- Contracts: TraceReduction of both programs. Written by tr_gen.py. -/
import Derived.Test.YtoipdgoejichbaaLtI
import Derived.Test.YtoipdgoejichbaaFmtS
import Derived.Test.YtoipdgoejichbaaNfuM
namespace Go.Proofs.Ytoipdgoejichbaa
set_option linter.unusedVariables false
set_option linter.unusedSimpArgs false
open Go.RowKit

theorem GL.lone1 {α : Type} [FlatRep α] {w' : World} (nd : Bool) (K : Nat) (w : World) (E : TypeId) (cs : List Value) (x : α) (hr : Rep.rep nd w' cs x []) (hK : K ≤ w.heap.size) : GL nd K K (w.heap.size + 1) (w.alloc (.cells cs.toArray E)) E (.slice (some ⟨w.heap.size, 0, none⟩) 1 1) [x] :=
  ⟨[cs], [[]], ⟨by simp [Rep.len hr], .inr ⟨w.heap.size, 1, cs.toArray, rfl, hK, heap_alloc_new w _, Nat.le_refl _, by simp [maxLen], by simp [Rep.len hr], by simp [← Rep.len hr]⟩⟩, ⟨(FlatRep.flat hr).2 _ _, trivial⟩, by simp, by simp [Value.ownBlock], fun _ => by simp⟩

theorem formatI_x {z : Bool} {lo hi : Nat} (w : World) (a b : Value) (t : Kin) (h : Rd z lo hi w [a, b] t) (K : ByteArray) (hK : K = kinTxt t) : Calls Try.prog 62 #[.agg #[a, b]] w (PostV w (.string K)) := by
  subst hK
  exact formatI_any w a b t h
set_option maxRecDepth 20000 in
set_option maxHeartbeats 16000000 in
theorem traceI_any {z z1 : Bool} {lo hi lo1 hi1 : Nat} (w : World) (v a b : Value) (rs : List Rul) (t : Kin) (h : Rd z lo hi w [v] rs) (h' : Rd z1 lo1 hi1 w [a, b] t) :
    Calls Try.prog 30 #[v, .agg #[a, b]] w (PostOw w (traceX rs t)) := by
  obtain ⟨ao, n, cap, rfl, rfl, hnc, hcm, -⟩ := h.shape
  unfold maxLen at hcm
  have HT := Lib.hid h'
  have HTF := Lib.hid h'.weak.top
  obtain ⟨rfl, hI, hb⟩ := h'.kin
  obtain ⟨sao, sn, scap, rfl, hsn, -⟩ := hb.shape
  subst hsn
  have HZ := Lib.hid h
  obtain ⟨r1, hlet_r1⟩ : ∃ r, r = areRules rs := ⟨_, rfl⟩
  have H1 := Lib.hid hlet_r1
  clear hlet_r1
  obtain ⟨r2, hlet_r2⟩ : ∃ r, r = isKin t := ⟨_, rfl⟩
  have H2 := Lib.hid hlet_r2
  clear hlet_r2
  obtain ⟨X, hX⟩ : ∃ X, X = traceX rs t := ⟨_, rfl⟩
  rw [← hX]
  have HX := Lib.hid (show X = if (r1 && r2) = true then kinTxt t :: trL rs t else [] by rw [hX, H1.out, H2.out]; rfl)
  clear h' hI hb hX
  go_enter Try.func30, Try.ntmps30
  go_wp2_with fail
  refine (areRulesI_b _ _ rs (HZ.out.below bwT) r1 H1.out).mono ?_
  rintro e1 w1 ⟨rfl, hbw1⟩
  have hpw1 : Below w.heap.size w w1 := Below.after bwT hbw1 szT
  have sw1 := hpw1.size
  have hBw1 : Below w.heap.size w w1 := hpw1
  have l_t : w.heap.size < w1.heap.size := by have := hbw1.size; simp at this; omega
  have q_t0 : w1.cell? ⟨w.heap.size, 0, none⟩ = some (.int .i64 t.1) := oldc hbw1 ltT (by simp [go_sem])
  have q_t1 : w1.cell? ⟨w.heap.size, 1, none⟩ = some (.slice sao t.2.length scap) := oldc hbw1 ltT (by simp [go_sem])
  have f_t : ∀ o, w1.frozen? ⟨w.heap.size, o, none⟩ = false := fun o => (hbw1.frozen (p := ⟨w.heap.size, o, none⟩) ltT).trans (by simp [go_sem])
  clear hbw1 hpw1
  cases r1
  · obtain rfl : X = [] := HX.out
    clear HX H1 H2 HT HTF HZ
    go_wp2
    go_ret
    exact ⟨_, rfl, Ow.nil _ _ _, hBw1⟩
  go_wp2_with fail
  refine (isTypeI_b _ _ _ t (HT.out.below bwT) r2 H2.out).mono ?_
  rintro e2 w2 ⟨rfl, hbw2⟩
  have hpw2 : Below w1.heap.size w1 w2 := Below.after bwT hbw2 szT
  have sw2 := hpw2.size
  have hBw2 : Below w.heap.size w w2 := Below.trans hBw1 (Below.mono hpw2 hBw1.size)
  have q_t0 := oldc hpw2 l_t q_t0
  have q_t1 := oldc hpw2 l_t q_t1
  have f_t : ∀ o, w2.frozen? ⟨w.heap.size, o, none⟩ = false := fun o => (hpw2.frozen (p := ⟨w.heap.size, o, none⟩) l_t).trans (f_t o)
  have l_t := Nat.lt_of_lt_of_le l_t sw2
  clear hbw2 hpw2
  cases r2
  · obtain rfl : X = [] := HX.out
    clear HX H1 H2 HT HTF HZ
    go_wp2
    go_ret
    exact ⟨_, rfl, Ow.nil _ _ _, hBw2⟩
  have HRS := Lib.hid (show allRules rs from (areRules_facts H1.out.symm).2.1)
  have HEX := Lib.hid (show X = kinTxt t :: trL rs t from HX.out)
  obtain ⟨K, hK⟩ : ∃ K, K = kinTxt t := ⟨_, rfl⟩
  have hKs : K.size ≤ 20 := by rw [hK]; exact kinTxt_size t
  have HKK := Lib.hid hK
  rw [← hK] at HEX
  clear hK
  go_wp2_with fail
  refine (formatI_x _ _ _ t (HT.out.below bwT) K HKK.out).mono ?_
  rintro e3 w3 ⟨rfl, hbw3⟩
  have hpw3 : Below w2.heap.size w2 w3 := Below.after bwT hbw3 szT
  have sw3 := hpw3.size
  have hBw3 : Below w.heap.size w w3 := Below.trans hBw2 (Below.mono hpw3 hBw2.size)
  have q_t0 := oldc hpw3 l_t q_t0
  have q_t1 := oldc hpw3 l_t q_t1
  have f_t : ∀ o, w3.frozen? ⟨w.heap.size, o, none⟩ = false := fun o => (hpw3.frozen (p := ⟨w.heap.size, o, none⟩) l_t).trans (f_t o)
  have l_t := Nat.lt_of_lt_of_le l_t sw3
  clear hbw3 hpw3
  obtain ⟨W1, hW1⟩ : ∃ W : World, W = w3 := ⟨_, rfl⟩
  subst hW1
  have hB1 : Below w.heap.size w W1 := hBw3
  have s1 := hB1.size
  obtain ⟨W2, hW2⟩ : ∃ W : World, W = W1.alloc (.cells #[.string K] 9) := ⟨_, rfl⟩
  have hB12 : Below W1.heap.size W1 W2 := by subst hW2; exact bwT
  have hB2 : Below w.heap.size w W2 := hB1.trans (hB12.mono s1)
  have sz2 : W2.heap.size = W1.heap.size + 1 := by subst hW2; simp
  have p0 := oldc hB12 l_t q_t0
  have p1 := oldc hB12 l_t q_t1
  have pf : ∀ o, W2.frozen? ⟨w.heap.size, o, none⟩ = false := fun o => (hB12.frozen (p := ⟨w.heap.size, o, none⟩) l_t).trans (f_t o)
  have HL0 := Lib.hid (show GL true (w.heap.size + 1) (w.heap.size + 1) W2.heap.size W2 9 (.slice (some ⟨W1.heap.size, 0, none⟩) 1 1) [K] by subst hW2; exact (GL.lone1 (w' := W1) true (w.heap.size + 1) W1 9 [.string K] K (show _ ∧ _ from ⟨rfl, by unfold maxLen; omega, rfl⟩) (by omega)).top)
  have hlt2 : w.heap.size < W2.heap.size := by omega
  have HL1 := Lib.hid (show [K] ++ trL rs t = X by rw [HEX.out]; rfl)
  have HRT := Lib.hid ((HTF.out.mono (Nat.zero_le _) (Nat.le_refl _)).below hB2)
  have hE0 := enc_kin H2.out.symm
  go_wp2
  rw [← hW2]
  clear hW2 q_t0 q_t1 f_t HT HTF HEX HX
  go_loopg [5, 6, 7, 8, 9] (enc t.2 + 1) (fun g s5 _ _ _ _ wr => ∃ (u : Kin) (uv : Value) (ul uh : Nat) (L : List ByteArray), enc u.2 < g ∧ Hid (isKin u = true) ∧ Hid (L ++ trL rs u = X) ∧ wr.cell? ⟨w.heap.size, 0, none⟩ = some (.int .i64 u.1) ∧ wr.cell? ⟨w.heap.size, 1, none⟩ = some uv ∧ (∀ o, wr.frozen? ⟨w.heap.size, o, none⟩ = false) ∧ Hid (Rd false ul uh wr [.int .i64 u.1, uv] u) ∧ (uh ≤ w.heap.size ∨ w.heap.size < ul) ∧ L.length + enc u.2 ≤ 1099511627777 ∧ Hid (GL true (w.heap.size + 1) (w.heap.size + 1) wr.heap.size wr 9 s5 L) ∧ Hid (∀ g, s5.ownBlock = some g → g < ul ∨ uh ≤ g) ∧ Below w.heap.size w wr ∧ w.heap.size < wr.heap.size)
  case atStart => exact ⟨t, _, 0, w.heap.size, [K], Nat.lt_succ_self _, Lib.hid H2.out.symm, HL1, p0, p1, pf, HRT, .inl (Nat.le_refl _), by simp; omega, HL0, Lib.hid (fun g e => by simp [Value.ownBlock] at e; omega), hB2, hlt2⟩
  case round =>
    obtain ⟨wb, hwb⟩ : ∃ wm : World, wm = wr := ⟨_, rfl⟩
    subst hwb
    obtain ⟨u, uv, ul, uh, L, hgu, hku, hnu, y0, y1, yf, hou, hdj, hLl, hG, hOB, hBb, hlb⟩ := hrel
    clear p0 p1 pf HRT HL0 HL1
    have sB := hBb.size
    obtain ⟨ou, hou2⟩ : ∃ ou, ou = rewr rs u := ⟨_, rfl⟩
    obtain ⟨-, -, hus⟩ := hou.out.kin
    obtain ⟨uao, un, ucap, rfl, -⟩ := hus.shape
    have HOU := Lib.hid hou2
    obtain ⟨lao, lcap, rfl, -, -⟩ := hG.out.len
    obtain ⟨nl, hnl⟩ : ∃ nl, nl = L.length := ⟨_, rfl⟩
    rw [← hnl] at hG hOB ⊢
    clear hnl
    have HGO := Lib.hid (fun g h => (hG.out.oltA (g := g) h).2)
    clear hus hou2
    go_wp2_with fail
    refine (rewrI_any _ _ _ _ rs u (HZ.out.below hBb) hou.out HRS.out hku.out ou HOU.out).mono ?_
    rintro e5 w5 ⟨hb5, hp5⟩
    have hB5 : Below w.heap.size w w5 := Below.after hBb hb5 sB
    have s5 := hb5.size
    have y0 := oldc hb5 hlb y0
    have y1 := oldc hb5 hlb y1
    have yf : ∀ o, w5.frozen? ⟨w.heap.size, o, none⟩ = false := fun o => (hb5.frozen (p := ⟨w.heap.size, o, none⟩) hlb).trans (yf o)
    have hl5 : w.heap.size < w5.heap.size := by omega
    have hG5 := Lib.hid (hG.out.below hb5)
    rcases ou with _ | ⟨u2, k, i⟩
    · obtain rfl := hp5
      have HLX := Lib.hid (show L = X by have := hnu.out; rw [trL_none HOU.out.symm, List.append_nil] at this; exact this)
      clear hb5 hou hnu HOU hG
      go_wp2
      go_ret
      subst HLX
      exact ⟨_, rfl, ((hG5.out.alloc _).top.ow (l0 := w.heap.size) (by omega) (by omega)), bwT⟩
    · obtain ⟨na, nb, rfl, hov⟩ := hp5
      obtain ⟨rfl, -, hns⟩ := hov.rd.kin
      obtain ⟨nao, nn, ncap, rfl, -⟩ := hns.shape
      have HNS := Lib.hid (rewr_some HRS.out hku.out HOU.out.symm)
      obtain ⟨r, hrk⟩ : ∃ r, rs[k]? = some r := by obtain ⟨r, h, -⟩ := HNS.out; exact ⟨r, h⟩
      have hkl : k < rs.length := (List.getElem?_eq_some_iff.1 hrk).1
      obtain ⟨rb, roff, nm, sx, pl, fr, tw, vfr, vtw, rfl, hx, c0, -, -, -, -, gnm, -, -, -, -, -, -, -, rbl⟩ := HZ.out.dRul_at hkl
      have c0 := oldc hB5 rbl c0
      obtain rfl : r = (nm, sx, pl, fr, tw) := Option.some.inj (hrk.symm.trans hx.out)
      have hnm : nm.size ≤ 12 := by
        have := (isRule_facts (HRS.out _ (List.mem_of_getElem? hrk))).1
        unfold nameOk at this
        simp only [Bool.and_eq_true, decide_eq_true_eq] at this
        have := this.1
        omega
      obtain ⟨K2, hK2⟩ : ∃ K, K = kinTxt u2 := ⟨_, rfl⟩
      have hK2s : K2.size ≤ 20 := by rw [hK2]; exact kinTxt_size u2
      have HK2 := Lib.hid hK2
      have HLN := Lib.hid (show (L ++ [nm ++ ⟨#[32]⟩ ++ K2]) ++ trL rs u2 = X by
        rw [← hnu.out, trL_some HRS.out hku.out HOU.out.symm, trLine, hrk, hK2, List.append_assoc]
        rfl)
      have HOV := Lib.hid hov
      have hge : enc u2.2 + 1 < gk := by obtain ⟨_, -, -, -, -, -, h6⟩ := HNS.out; omega
      have hle : enc u2.2 < enc u.2 := by obtain ⟨_, -, -, -, -, -, h6⟩ := HNS.out; exact h6
      have HKU := Lib.hid (show isKin u2 = true by obtain ⟨_, -, -, -, -, h5, -⟩ := HNS.out; exact h5)
      have hkI : (k : Int) < (rs.length : Int) := by omega
      have hz1 : (nm ++ (⟨#[32]⟩ : ByteArray)).size = nm.size + 1 := by rw [ByteArray.size_append]; rfl
      have hcc1 : ¬ 9223372036854775807 < nm.size + 1 := by omega
      have hcc2 : ¬ 9223372036854775807 < nm.size + 1 + K2.size := by omega
      have HN3 := Lib.hid (show (nm ++ ⟨#[32]⟩ ++ K2).size ≤ maxLen by rw [ByteArray.size_append, hz1]; unfold maxLen; omega)
      clear hz1 hx gnm hns hov hou hnu HOU HNS hdj hK2 hrk hG
      obtain ⟨W6, hW6⟩ : ∃ W : World, W = w5.alloc (.cells #[.int .i64 u2.1, .slice nao nn ncap] 36) := ⟨_, rfl⟩
      have hb56 : Below w5.heap.size w5 W6 := by subst hW6; exact bwT
      have sz6 : W6.heap.size = w5.heap.size + 1 := by subst hW6; simp
      have n0 : W6.cell? ⟨w5.heap.size, 0, none⟩ = some (.int .i64 u2.1) := by subst hW6; simp [go_sem]
      have n1 : W6.cell? ⟨w5.heap.size, 1, none⟩ = some (.slice nao nn ncap) := by subst hW6; simp [go_sem]
      have y0 := oldc hb56 hl5 y0
      have y1 := oldc hb56 hl5 y1
      have yf : ∀ o, W6.frozen? ⟨w.heap.size, o, none⟩ = false := fun o => (hb56.frozen (p := ⟨w.heap.size, o, none⟩) hl5).trans (yf o)
      have c0 := oldc hb56 (by omega) c0
      have l6n : w5.heap.size < W6.heap.size := by omega
      have l6t : w.heap.size < W6.heap.size := by omega
      have l6r : rb < W6.heap.size := by omega
      have hG6 := Lib.hid (hG5.out.below hb56)
      have HOV6 := Lib.hid (HOV.out.below hb56)
      go_upto_region 7 with fail
      rw [← hW6]
      clear hW6 hG5 HOV
      refine wp_region_held_drew (S := (fun w' => w'.cell? ⟨rb, roff + k * 5, none⟩ = some (.string nm) ∧ w'.cell? ⟨w5.heap.size, 0, none⟩ = some (.int .i64 u2.1) ∧ w'.cell? ⟨w5.heap.size, 1, none⟩ = some (.slice nao nn ncap))) (by kernel_rfl) ?_ (fun hHeld => ?_)
      · first | exact trivial | ((try dsimp only); go_keep)
      refine tkR 0 (v := ?_) ?_ ?_
      rotate_left
      · intro w hSw; (try dsimp only at hSw); go_simp <;> with_reducible rfl
      try simp only [Act.put, List.setIfInBounds_toArray, List.set_cons_zero, List.set_cons_succ]
      refine tkR 1 (v := ?_) ?_ ?_
      rotate_left
      · intro w hSw; (try dsimp only at hSw); go_simp <;> with_reducible rfl
      try simp only [Act.put, List.setIfInBounds_toArray, List.set_cons_zero, List.set_cons_succ]
      refine tkR 2 (v := ?_) ?_ ?_
      rotate_left
      · intro w hSw; (try dsimp only at hSw); go_simp <;> with_reducible rfl
      try simp only [Act.put, List.setIfInBounds_toArray, List.set_cons_zero, List.set_cons_succ]
      refine tkR 7 (v := ?_) ?_ ?_
      rotate_left
      · intro w hSw; (try dsimp only at hSw); go_simp <;> with_reducible rfl
      try simp only [Act.put, List.setIfInBounds_toArray, List.set_cons_zero, List.set_cons_succ]
      refine tkR 3 (v := ?_) ?_ ?_
      rotate_left
      · intro w hSw; (try dsimp only at hSw); go_simp <;> with_reducible rfl
      try simp only [Act.put, List.setIfInBounds_toArray, List.set_cons_zero, List.set_cons_succ]
      refine tkR 4 (v := ?_) ?_ ?_
      rotate_left
      · intro w hSw; (try dsimp only at hSw); go_simp <;> with_reducible rfl
      try simp only [Act.put, List.setIfInBounds_toArray, List.set_cons_zero, List.set_cons_succ]
      refine tkR 5 (v := ?_) ?_ ?_
      rotate_left
      · intro w hSw; (try dsimp only at hSw); go_simp <;> with_reducible rfl
      try simp only [Act.put, List.setIfInBounds_toArray, List.set_cons_zero, List.set_cons_succ]
      refine tkR 6 (v := ?_) ?_ ?_
      rotate_left
      · intro w hSw; (try dsimp only at hSw); go_simp <;> with_reducible rfl
      try simp only [Act.put, List.setIfInBounds_toArray, List.set_cons_zero, List.set_cons_succ]
      refine wpAnyH_ready (rs := [8]) (by kernel_rfl) (by simp) ?_
      refine rdR (fun K hK => ?_) ?_
      · go_simp
        refine (formatI_any _ _ _ u2 (HOV6.out.rd.below ?b1)).mono ?_
        case b1 => exact bwT
        rw [← HK2.out]
        rintro e7 w7 ⟨rfl, hb7⟩
        have hp7 : Below W6.heap.size W6 w7 := Below.trans (show Below W6.heap.size W6 _ from bwT) (hb7.mono szT)
        have hS7 := And.intro (oldc hp7 l6r c0) (And.intro (oldc hp7 l6n n0) (oldc hp7 l6n n1))
        have s7 := hp7.size
        have hG7 := Lib.hid (hG6.out.below hp7)
        clear hb7
        refine hK.out _ _ ?_ (fun hHeld => ?_)
        · exact kpT
        clear hK K
        try simp only [Act.put, List.setIfInBounds_toArray, List.set_cons_zero, List.set_cons_succ]
        refine tkR 9 (v := ?_) ?_ ?_
        rotate_left
        · intro w hSw; (try dsimp only at hSw); go_simp <;> with_reducible rfl
        try simp only [Act.put, List.setIfInBounds_toArray, List.set_cons_zero, List.set_cons_succ]
        refine wpAnyH_ready (rs := [10]) (by kernel_rfl) (by simp) ?_
        refine rdR (fun K hK => ?_) ?_
        · go_simp
          refine hK.out _ _ ?_ (fun hHeld => ?_)
          · exact kpT
          clear hK K
          try simp only [Act.put, List.setIfInBounds_toArray, List.set_cons_zero, List.set_cons_succ]
          refine wpAnyH_ready (rs := [11]) (by kernel_rfl) (by simp) ?_
          refine rdR (fun K hK => ?_) ?_
          · refine step_push rfl rfl slStrS (by show (0 : Nat) < 1; omega) (hG7.out.below bwT) (by simp [Act.eval, Act.put]) (ad := ⟨w7.heap.size, 0, none⟩) (c := 1) (by simp [Act.eval, Act.put]) (cs := [.string (nm ++ ⟨#[32]⟩ ++ K2)]) (y := nm ++ ⟨#[32]⟩ ++ K2) (lx := w7.heap.size) (hx' := w7.heap.size) ?c1 (It.flat (z := true) (w0 := w7) (fp := []) ⟨rfl, HN3.out, rfl⟩) (by omega) (.inl (by omega)) (by unfold maxLen; omega) (by omega) (by simp; omega) rfl rfl ?_
            case c1 => intro j c hj; match j, hj with | 0, hj => simp at hj; subst hj; simp [Addr.add, go_sem]
            rintro g8 cap8 w8 hG8 hg8 hat8 hl8 hlt8 hb8
            have hne8 : ∀ q : Nat, q < w7.heap.size → wb.heap.size ≤ q → w8.heap[q]? = (w7.alloc (.cells #[.string (nm ++ ⟨#[32]⟩ ++ K2)] 9)).heap[q]? := fun q h1 h2 => hg8.block q (by simp; omega) (fun e => by have := HGO.out _ e.symm; omega)
            have hal : ∀ q o, q < w7.heap.size → (w7.alloc (.cells #[.string (nm ++ ⟨#[32]⟩ ++ K2)] 9)).cell? ⟨q, o, none⟩ = w7.cell? ⟨q, o, none⟩ := fun q o h => ((Below.refl w7.heap.size w7).alloc (Nat.le_refl _) _).cell (p := ⟨q, o, none⟩) h
            have m0 : w8.cell? ⟨w5.heap.size, 0, none⟩ = some (.int .i64 u2.1) := ((World.cell?_of_block (a := ⟨w5.heap.size, 0, none⟩) (hne8 w5.heap.size (by omega) s5)).trans (hal _ _ (by omega))).trans hS7.2.1
            have m1 : w8.cell? ⟨w5.heap.size, 1, none⟩ = some (.slice nao nn ncap) := ((World.cell?_of_block (a := ⟨w5.heap.size, 1, none⟩) (hne8 w5.heap.size (by omega) s5)).trans (hal _ _ (by omega))).trans hS7.2.2
            have hp8 : Below (w.heap.size + 1) W6 w8 := Below.trans (Below.trans (hp7.mono (by omega)) (show Below (w.heap.size + 1) w7 _ from bwT)) hb8
            have mr : w8.cell? ⟨rb, roff + k * 5, none⟩ = some (.string nm) := oldc hp8 (by omega) c0
            have hS8 := And.intro mr (And.intro m0 m1)
            have z0 := oldc hp8 (Nat.lt_succ_self _) y0
            have z1' := oldc hp8 (Nat.lt_succ_self _) y1
            have zf : ∀ o, w8.frozen? ⟨w.heap.size, o, none⟩ = false := fun o => (hp8.frozen (p := ⟨w.heap.size, o, none⟩) (Nat.lt_succ_self _)).trans (yf o)
            have s8 := hp8.size
            have HOV8 := Lib.hid (Rd.keep (HOV6.out.rd.below hp7) (fun b h1 h2 => (hne8 b (by omega) h1).trans (((Below.refl w7.heap.size w7).alloc (Nat.le_refl _) _).block b (by omega))))
            have HOB8 := Lib.hid (fun g (e : some g8 = some g) => (show g < wb.heap.size ∨ w5.heap.size ≤ g by
              obtain rfl : g8 = g := Option.some.inj e
              rcases hat8 with h | h
              · left; exact HGO.out _ h
              · right; simp at h; omega))
            have HG8 := Lib.hid hG8
            clear hG8 hg8 hat8 hb8 hne8 hal
            refine hK.out _ _ ?_ (fun hHeld => ?_)
            · exact kpT
            clear hK K
            try simp only [Act.put, List.setIfInBounds_toArray, List.set_cons_zero, List.set_cons_succ]
            refine tkR 12 (v := ?_) ?_ ?_
            rotate_left
            · intro w hSw; (try dsimp only at hSw); go_simp <;> with_reducible rfl
            try simp only [Act.put, List.setIfInBounds_toArray, List.set_cons_zero, List.set_cons_succ]
            refine wpAnyH_done (by kernel_rfl) ?_ _
            have hBw8 : Below w.heap.size w w8 := (hB5.trans (hb56.mono hB5.size)).trans (hp8.mono (by omega))
            have l8 : w.heap.size < w8.heap.size := by omega
            clear hHeld hS8 hS7
            go_wp2
            go_roundg (enc u2.2 + 1)
            case measure => exact hge
            case rel => exact ⟨u2, _, _, _, _, Nat.lt_succ_self _, HKU, HLN, by simp [go_sem, *], by simp [go_sem, *], by intro o; simp [go_sem, *], Lib.hid ((HOV8.out.weak).keep zmT), .inr hlb, by simp; omega, Lib.hid (HG8.out.keep znT znT).top, Lib.hid (fun g e => HOB8.out g e), bwT, by simp; omega⟩
          exact AllReadyH.nil
        exact AllReadyH.nil
      exact AllReadyH.nil

end Go.Proofs.Ytoipdgoejichbaa
