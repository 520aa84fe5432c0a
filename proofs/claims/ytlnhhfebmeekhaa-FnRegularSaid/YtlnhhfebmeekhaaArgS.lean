/- Contracts of the reference: l6Lay, AllRegular. -/
import Derived.Test.YtlnhhfebmeekhaaDClasses
import Derived.Test.YtlnhhfebmeekhaaArg
import Derived.Test.YtlnhhfebmeekhaaAllS
import Derived.Test.YtlnhhfebmeekhaaCanS
import Derived.Test.YtlnhhfebmeekhaaRegS
namespace Go.Proofs.Ytlnhhfebmeekhaa
set_option linter.unusedVariables false
set_option linter.unusedSimpArgs false
open Go.RowKit

theorem cins_none {c : Cls} : ∀ {l : List Cls}, l.any (lexC c) = false → cins c l = l ++ [c]
  | [], _ => rfl
  | y :: l, h => by
    rw [List.any_cons, Bool.or_eq_false_iff] at h
    rw [cins, if_neg (by rw [h.1]; simp), cins_none h.2]; rfl
theorem cins_any {c y : Cls} : ∀ {l : List Cls}, l.any (lexC c) = true → cins c (l ++ [y]) = cins c l ++ [y]
  | [], h => by cases h
  | x :: l, h => by
    rw [List.cons_append, cins, cins]
    split
    · rfl
    · rename_i hx
      rw [List.any_cons, Bool.or_eq_true] at h
      rw [cins_any (h.resolve_left hx)]; rfl
theorem cins_first {c y : Cls} (hy : lexC c y = true) : ∀ {l : List Cls}, l.any (lexC c) = false → cins c (l ++ [y]) = l ++ [c] ++ [y]
  | [], _ => by rw [List.nil_append, cins, if_pos hy]; rfl
  | x :: l, h => by
    rw [List.any_cons, Bool.or_eq_false_iff] at h
    rw [List.cons_append, cins, if_neg (by rw [h.1]; simp), cins_first hy h.2]; rfl
/-- What l6Lay holds on the way. -/
def layO (c : Cls) (l : List Cls) : List Cls := if l.any (lexC c) = true then cins c l else l
theorem layO_step {c y : Cls} {s : List Cls} {i : Nat} (h : s[i]? = some y) (d b : Bool) (hd : d = (s.take i).any (lexC c)) (hb : b = lexC c y) :
    (d || b) = (s.take (i + 1)).any (lexC c) ∧ layO c (s.take (i + 1)) = (if (!d && b) = true then layO c (s.take i) ++ [c] else layO c (s.take i)) ++ [y] := by
  have ha : (s.take (i + 1)).any (lexC c) = (d || b) := by rw [take_snoc h, List.any_append, hd, hb]; simp
  refine ⟨ha.symm, ?_⟩
  unfold layO
  rw [ha, ← hd, take_snoc h]
  cases d with
  | true => simp only [Bool.true_or, Bool.not_true, Bool.false_and]; exact cins_any hd.symm
  | false =>
    cases b with
    | true => simp only [Bool.false_or, Bool.not_false, Bool.true_and]; exact cins_first hb.symm hd.symm
    | false => rfl
theorem layO_end {c : Cls} {s : List Cls} (hn : c ∉ s) (d : Bool) (hd : d = s.any (lexC c)) : lay s c = if d = true then layO c s else layO c s ++ [c] := by
  unfold lay layO
  rw [if_neg hn, ← hd]
  cases d with
  | true => rfl
  | false => exact cins_none hd.symm
theorem layO_len (c : Cls) (l : List Cls) : (layO c l).length ≤ l.length + 1 := by
  unfold layO
  split
  · rw [cins_len]; exact Nat.le_refl _
  · omega
/-- A list comes back that can be read. -/
def PostRdL {α : Type} [Rep α] (w : World) (x : α) (e : Ending) (w' : World) : Prop := ∃ u, e = .returned u ∧ Rd false 0 w'.heap.size w' [u] x ∧ Below w.heap.size w w'
theorem GL.own_lt {α : Type} [Rep α] {nd : Bool} {lo lo' hi : Nat} {w : World} {E : TypeId} {v : Value} {xs : List α} (h : GL nd lo lo' hi w E v xs) {g : Nat} (e : v.ownBlock = some g) : g < w.heap.size := by
  obtain ⟨css, fps, ho, _⟩ := h
  exact (ho.lt g e).2
theorem lay_d1 : ∀ {d b : Bool}, false = (!d && b) → (d || b) = d := by decide
theorem lay_d2 : ∀ {d b : Bool}, true = (!d && b) → (d || b) = true := by decide
theorem cells_new2 (w : World) (u v : Value) (t : TypeId) : ∀ (j : Nat) (c : Value), [u, v][j]? = some c → (w.alloc (.cells #[u, v] t)).cell? ((⟨w.heap.size, 0, none⟩ : Addr).add j) = some c := by
  intro j c hj
  match j, hj with
  | 0, hj => simp at hj; subst hj; simp [Addr.add]
  | 1, hj => simp at hj; subst hj; simp [Addr.add]
set_option maxRecDepth 20000 in
set_option maxHeartbeats 8000000 in
theorem l6Lay_any {z z' : Bool} {lo hi lo' hi' : Nat} (w : World) (v u1 u2 : Value) (s : List Cls) (c : Cls) (h : Rd z lo hi w [v] s) (h' : Rd z' lo' hi' w [u1, u2] c) (hl : s.length ≤ 1000) :
    Calls Try.prog 37 #[v, .agg #[u1, u2]] w (PostRdL w (lay s c)) := by
  obtain ⟨ao, n, cap, rfl, hn, -⟩ := h.shape
  subst hn
  obtain ⟨c1, c2⟩ := c
  obtain ⟨g1, g2⟩ := h'.two rfl
  dsimp only at g1 g2
  obtain ⟨ua, un, ucap, rfl, -⟩ := g1.shape
  obtain ⟨ub, um, ucap2, rfl, -⟩ := g2.shape
  have HS := Lib.hid h
  have HC := Lib.hid h'
  clear h h' g1 g2
  go_enter Try.func37, Try.ntmps37
  go_wp2
  obtain ⟨wq, hwc⟩ : ∃ W : World, W = w.alloc (.cells #[.slice ua un ucap, .slice ub um ucap2] 30) := ⟨_, rfl⟩
  have hBc : Below w.heap.size w wq := by rw [hwc]; exact (Below.refl _ _).alloc (Nat.le_refl _) _
  have lc : w.heap.size < wq.heap.size := by rw [hwc]; simp
  have y0 : wq.cell? ⟨w.heap.size, 0, none⟩ = some (.slice ua un ucap) := by rw [hwc]; simp [go_sem]
  have y1 : wq.cell? ⟨w.heap.size, 1, none⟩ = some (.slice ub um ucap2) := by rw [hwc]; simp [go_sem]
  have szc : wq.heap.size = w.heap.size + 1 := by rw [hwc]; simp
  rw [← hwc]
  clear hwc
  have HG0 := Lib.hid (show GL false wq.heap.size 0 (wq.alloc (.cells #[] 30)).heap.size (wq.alloc (.cells #[] 30)) 30 (.slice (some ⟨w.heap.size + 1, 0, none⟩) 0 0) (layO (c1, c2) (s.take 0)) by
    have e := (GL.lit0 (α := Cls) false wq.heap.size 0 wq 30 (Nat.le_refl _)).top
    rw [show (some (⟨wq.heap.size, 0, none⟩ : Addr)) = some ⟨w.heap.size + 1, 0, none⟩ by rw [szc]] at e
    exact e)
  clear szc
  have HSc := Lib.hid (HS.out.below hBc)
  have HCc := Lib.hid (HC.out.below hBc)
  have sc := hBc.size
  go_loopw [5, 6, 8, 12] (fun s5 s6 _ s12 wr => ∃ (i : Nat) (d : Bool), i ≤ s.length ∧ s12 = .int .i64 i ∧ s6 = .bool d ∧ Hid (d = (s.take i).any (lexC (c1, c2))) ∧ Hid ((c1, c2) ∉ s.take i) ∧ Hid (GL false wq.heap.size 0 wr.heap.size wr 30 s5 (layO (c1, c2) (s.take i))) ∧ Below wq.heap.size wq wr) (fun _ _ _ s12 _ => s.length - (intOf s12).toNat)
  case atStart => exact ⟨0, false, Nat.zero_le _, rfl, rfl, Lib.hid rfl, Lib.hid (by simp), HG0, (Below.refl _ _).alloc (Nat.le_refl _) _⟩
  case round =>
    obtain ⟨wb, hwb⟩ : ∃ wm : World, wm = wr := ⟨_, rfl⟩
    subst hwb
    obtain ⟨i, d, hi, rfl, rfl, hd, hno, hG, hbb⟩ := hrel
    have sB := hbb.size
    have hBb : Below w.heap.size w wb := hBc.trans (hbb.mono sc)
    have z0 := oldc hbb lc y0
    have z1 := oldc hbb lc y1
    by_cases hlt : i < s.length
    · have hI : (i : Int) < (s.length : Int) := by omega
      obtain ⟨b, off, xa, ya, vx, vy, rfl, hx, k0, k1, hvx, hvy, hR1, -, -, hbl⟩ := HSc.out.dCls_at hlt
      obtain ⟨a1, n1, p1, rfl, -⟩ := hvx.shape
      obtain ⟨a2, n2, p2, rfl, -⟩ := hvy.shape
      have q0 := oldc hbb hbl k0
      have q1 := oldc hbb hbl k1
      have HX := Lib.hid hx.out
      have H1 := Lib.hid hR1
      have HSL := layO_len (c1, c2) (s.take i)
      rw [List.length_take] at HSL
      obtain ⟨O, hO⟩ : ∃ O, O = layO (c1, c2) (s.take i) := ⟨_, rfl⟩
      have hOl : O.length ≤ 1001 := by rw [hO]; omega
      obtain ⟨b1, hlet_b1⟩ : ∃ r, r = lexC (xa, ya) (c1, c2) := ⟨_, rfl⟩
      have HB1 := Lib.hid hlet_b1
      clear hlet_b1
      obtain ⟨b2, hlet_b2⟩ : ∃ r, r = lexC (c1, c2) (xa, ya) := ⟨_, rfl⟩
      have HB2 := Lib.hid hlet_b2
      clear hlet_b2
      have HST := Lib.hid (layO_step HX.out d b2 hd.out HB2.out)
      rw [← hO] at hG HST
      obtain ⟨eao, ecap, rfl, -, -⟩ := hG.out.len
      obtain ⟨WA, hWA⟩ : ∃ W : World, W = wb.alloc (.cells #[.slice a1 n1 p1, .slice a2 n2 p2] 30) := ⟨_, rfl⟩
      have hbA : Below wq.heap.size wq WA := by rw [hWA]; exact hbb.alloc sB _
      have x0 : WA.cell? ⟨wb.heap.size, 0, none⟩ = some (.slice a1 n1 p1) := by rw [hWA]; simp [go_sem]
      have x1 : WA.cell? ⟨wb.heap.size, 1, none⟩ = some (.slice a2 n2 p2) := by rw [hWA]; simp [go_sem]
      have z0 := oldc hbA lc y0
      have z1 := oldc hbA lc y1
      have lb : wb.heap.size < WA.heap.size := by rw [hWA]; simp
      have lw : w.heap.size < WA.heap.size := by omega
      have sA := hbA.size
      have HOB := Lib.hid (fun g (e : (Value.slice eao O.length ecap).ownBlock = some g) => hG.out.own_lt e)
      have hGA := Lib.hid (show GL false wq.heap.size 0 WA.heap.size WA 30 _ O by rw [hWA]; exact (hG.out.alloc _).top)
      clear hx k0 k1 hvx hvy hR1 hG hO HSL
      go_upto_region 6 with fail
      rw [← hWA]
      clear hWA q0 q1
      go_cut [25] (fun s25 wx => s25 = .bool (!b1 && !b2) ∧ Below WA.heap.size WA wx)
      case first =>
        go_wp2_with fail
        refine (l6Before_b _ _ _ _ _ (xa, ya) (c1, c2) (H1.out.below hbA) (HCc.out.below hbA) b1 HB1.out).mono ?_
        rintro e3 w3 ⟨rfl, hb3⟩
        have s3 := hb3.size
        have x0 := oldc hb3 lb x0
        have x1 := oldc hb3 lb x1
        have z0 := oldc hb3 lw z0
        have z1 := oldc hb3 lw z1
        have hb3c : Below wq.heap.size wq w3 := hbA.trans (hb3.mono sA)
        have hp3 : Below WA.heap.size WA w3 := hb3
        clear hb3 hGA hd hno HST HX
        cases b1
        · go_wp2_with fail
          refine (l6Before_b _ _ _ _ _ (c1, c2) (xa, ya) (HCc.out.below hb3c) (H1.out.below hb3c) b2 HB2.out).mono ?_
          rintro e4 w4 ⟨rfl, hb4⟩
          have hp4 : Below WA.heap.size WA w4 := hp3.trans (hb4.mono s3)
          clear hb4
          go_wp2_with fail
          go_meet
          exact ⟨rfl, hp4⟩
        · go_wp2_with fail
          go_meet
          exact ⟨rfl, hp3⟩
      case rest =>
        obtain ⟨rfl, hbX⟩ := hcut
        obtain ⟨w3, hw3⟩ : ∃ W : World, W = wc := ⟨_, rfl⟩
        subst hw3
        have s3 := hbX.size
        have x0 := oldc hbX lb x0
        have x1 := oldc hbX lb x1
        have z0 := oldc hbX lw z0
        have z1 := oldc hbX lw z1
        have hb3c : Below wq.heap.size wq w3 := hbA.trans (hbX.mono sA)
        have hG3 := Lib.hid (hGA.out.below hbX).top
        have lb3 := Nat.lt_of_lt_of_le lb s3
        have lw3 := Nat.lt_of_lt_of_le lw s3
        clear hGA
        cases hE : (!b1 && !b2) with
        | true =>
          have HE := Lib.hid (show lay s (c1, c2) = s by
            rw [Bool.and_eq_true, Bool.not_eq_true', Bool.not_eq_true'] at hE
            have e : (xa, ya) = (c1, c2) := lexC_tri (HB1.out.symm.trans hE.1) (HB2.out.symm.trans hE.2)
            exact if_pos (e ▸ List.mem_of_getElem? HX.out))
          have HSF := Lib.hid ((HSc.out.below hb3c).top.mono (Nat.zero_le _) (Nat.le_refl _))
          clear hE hG3 HST
          go_wp2
          go_ret
          rw [HE.out]
          exact ⟨_, rfl, Rd.weak HSF.out, hBc.trans (hb3c.mono sc)⟩
        | false =>
          have HNE := Lib.hid (show (c1, c2) ∉ s.take (i + 1) by
            rw [take_snoc HX.out, List.mem_append, List.mem_singleton]
            rintro (h | h)
            · exact hno.out h
            · rw [HB1.out, HB2.out, h, lexC_self] at hE; cases hE)
          clear hE HB1
          obtain ⟨M, hM⟩ : ∃ M, M = (!d && b2) := ⟨_, rfl⟩
          have HM := Lib.hid hM
          rw [← hM] at HST
          clear hM
          go_upto_region 8 with fail
          go_cut [33] (fun s33 wx => s33 = .bool M ∧ Below w3.heap.size w3 wx)
          case first =>
            have HCy := HCc.out.below hb3c
            have HXy := H1.out.below hb3c
            clear hG3 HST hd hno
            cases d
            · go_wp2_with fail
              refine (l6Before_b _ _ _ _ _ (c1, c2) (xa, ya) HCy HXy b2 HB2.out).mono ?_
              rintro e4 w4 ⟨rfl, hb4⟩
              have hp4 : Below w3.heap.size w3 w4 := hb4
              clear hb4
              go_wp2_with fail
              go_meet
              exact ⟨by rw [HM.out]; rfl, hp4⟩
            · go_wp2_with fail
              go_meet
              exact ⟨by rw [HM.out]; rfl, Below.refl _ _⟩
          case rest =>
            obtain ⟨rfl, hbY⟩ := hcut
            obtain ⟨w5, hw5⟩ : ∃ W : World, W = wc := ⟨_, rfl⟩
            subst hw5
            have s5 := hbY.size
            have x0 := oldc hbY lb3 x0
            have x1 := oldc hbY lb3 x1
            have z0 := oldc hbY lw3 z0
            have z1 := oldc hbY lw3 z1
            have hb5c : Below wq.heap.size wq w5 := hb3c.trans (hbY.mono hb3c.size)
            have s5c := hb5c.size
            have hG5 := Lib.hid (hG3.out.below hbY).top
            have HCI := Lib.hid ((HCc.out.top.mono (Nat.zero_le _) (Nat.le_refl _)).below hb5c).it
            have HXI := Lib.hid ((H1.out.top.mono (Nat.zero_le _) (Nat.le_refl _)).below hb5c).it
            have lb5 := Nat.lt_of_lt_of_le lb3 s5
            clear hG3
            cases M
            · have HD := Lib.hid (show d = (s.take (i + 1)).any (lexC (c1, c2)) from (lay_d1 HM.out).symm.trans HST.out.1)
              have HO := Lib.hid (show O ++ [(xa, ya)] = layO (c1, c2) (s.take (i + 1)) from HST.out.2.symm)
              have hGa := Lib.hid (hG5.out.alloc (.cells #[.slice a1 n1 p1, .slice a2 n2 p2] 30))
              have HITa := Lib.hid (HXI.out.keep (w' := w5.alloc (.cells #[.slice a1 n1 p1, .slice a2 n2 p2] 30)) (fun b h1 h2 => Below.heap_alloc _ _ b (by omega)))
              clear hG5 HXI HCI HST HM
              go_wp2_with (at_builtin; refine wpList_push rfl rfl slClasses (by show (0 : Nat) < 2; omega) hGa.out rfl (ad := ⟨w5.heap.size, 0, none⟩) rfl (cs := [.slice a1 n1 p1, .slice a2 n2 p2]) (y := ((xa, ya) : Cls)) (cells_new2 w5 _ _ _) HITa.out (Nat.le_refl _) (.inr ⟨Nat.le_refl _, fun h => by cases h⟩) (by unfold maxLen; omega) (by omega) (by simp; omega) ?_)
              intro v1 w6 hG6 _ hb6
              have HG6 := Lib.hid hG6
              rw [HO.out] at HG6
              have hbb6 : Below wq.heap.size wq w6 := Below.trans (show Below wq.heap.size wq _ from bwT) hb6
              clear hG6 hb6 hGa HITa
              go_wp2
              go_roundw
              case rel => exact ⟨i + 1, d, by omega, by go_num, rfl, HD, HNE, HG6, hbb6⟩
              case measure => simp [intOf]; omega
            · have HD := Lib.hid (show true = (s.take (i + 1)).any (lexC (c1, c2)) from (lay_d2 HM.out).symm.trans HST.out.1)
              have HO := Lib.hid (show O ++ [(c1, c2), (xa, ya)] = layO (c1, c2) (s.take (i + 1)) from (show O ++ [(c1, c2), (xa, ya)] = O ++ [(c1, c2)] ++ [(xa, ya)] by simp).trans HST.out.2.symm)
              have hGa := Lib.hid (hG5.out.alloc (.cells #[.slice ua un ucap, .slice ub um ucap2] 30))
              have HITa := Lib.hid (HCI.out.keep (w' := w5.alloc (.cells #[.slice ua un ucap, .slice ub um ucap2] 30)) (fun b h1 h2 => Below.heap_alloc _ _ b (by omega)))
              clear hG5 HCI HST HM
              go_wp2_with (at_builtin; refine wpList_push rfl rfl slClasses (by show (0 : Nat) < 2; omega) hGa.out rfl (ad := ⟨w5.heap.size, 0, none⟩) rfl (cs := [.slice ua un ucap, .slice ub um ucap2]) (y := ((c1, c2) : Cls)) (cells_new2 w5 _ _ _) HITa.out (Nat.le_refl _) (.inr ⟨Nat.le_refl _, fun h => by cases h⟩) (by unfold maxLen; omega) (by omega) (by simp; omega) ?_)
              intro v1 w6 hG6 hg6 hb6
              have HG6 := Lib.hid hG6
              have hp6 : Below wq.heap.size wq w6 := Below.trans (show Below wq.heap.size wq _ from bwT) hb6
              have s6 : w5.heap.size + 1 ≤ w6.heap.size := by have := hg6.size; simpa using this
              have hwb : some wb.heap.size ≠ (Value.slice eao O.length ecap).ownBlock := fun e => by have := HOB.out _ e.symm; omega
              have xk : ∀ (o : Nat) (u : Value), w5.cell? ⟨wb.heap.size, o, none⟩ = some u → w6.cell? ⟨wb.heap.size, o, none⟩ = some u := fun o u hu => by
                have h1 := World.cell?_of_block (w := w5) (a := ⟨wb.heap.size, o, none⟩) ((hg6.block wb.heap.size (by simp; omega) hwb).trans (Below.heap_alloc w5 _ _ (by omega)))
                exact h1.trans hu
              have x0 := xk _ _ x0
              have x1 := xk _ _ x1
              have hG6b := Lib.hid (HG6.out.alloc (.cells #[.slice a1 n1 p1, .slice a2 n2 p2] 30))
              have hp6s := hp6.size
              have HXI6 := Lib.hid (((H1.out.top.mono (Nat.zero_le _) (Nat.le_refl _)).below hp6).it.keep (w' := w6.alloc (.cells #[.slice a1 n1 p1, .slice a2 n2 p2] 30)) (fun b h1 h2 => Below.heap_alloc _ _ b (by omega)))
              clear hG6 hb6 hGa HITa hg6 xk HXI HG6
              go_wp2_with (at_builtin; refine wpList_push rfl rfl slClasses (by show (0 : Nat) < 2; omega) hG6b.out rfl (ad := ⟨w6.heap.size, 0, none⟩) rfl (cs := [.slice a1 n1 p1, .slice a2 n2 p2]) (y := ((xa, ya) : Cls)) (cells_new2 w6 _ _ _) HXI6.out (Nat.le_refl _) (.inr ⟨Nat.le_refl _, fun h => by cases h⟩) (by simp; unfold maxLen; omega) (by simp; omega) (by simp; omega) ?_)
              intro v2 w7 hG7 _ hb7
              have HG7 := Lib.hid hG7
              rw [HO.out] at HG7
              have hbb7 : Below wq.heap.size wq w7 := Below.trans (show Below wq.heap.size wq _ from bwT) hb7
              clear hG7 hb7 hG6b HXI6
              go_wp2
              go_roundw
              case rel => exact ⟨i + 1, true, by omega, by go_num, rfl, HD, HNE, HG7, hbb7⟩
              case measure => simp [intOf]; omega
    · obtain rfl : i = s.length := by omega
      have hI : ¬ (s.length : Int) < (s.length : Int) := by omega
      rw [List.take_length] at hd hno hG
      have HL := Lib.hid (layO_end hno.out d hd.out)
      have HSL := layO_len (c1, c2) s
      obtain ⟨O, hO⟩ : ∃ O, O = layO (c1, c2) s := ⟨_, rfl⟩
      have hOl : O.length ≤ 1001 := by rw [hO]; omega
      rw [← hO] at hG HL
      obtain ⟨eao, ecap, rfl, -, -⟩ := hG.out.len
      have HCI := Lib.hid ((HCc.out.top.mono (Nat.zero_le _) (Nat.le_refl _)).below hbb).it
      clear hd hno hO HSL
      cases d
      · have hGa := Lib.hid (hG.out.alloc (.cells #[.slice ua un ucap, .slice ub um ucap2] 30))
        have HITa := Lib.hid (HCI.out.keep (w' := wb.alloc (.cells #[.slice ua un ucap, .slice ub um ucap2] 30)) (fun b h1 h2 => Below.heap_alloc _ _ b (by omega)))
        clear hG HCI
        go_wp2_with (at_builtin; refine wpList_push rfl rfl slClasses (by show (0 : Nat) < 2; omega) hGa.out rfl (ad := ⟨wb.heap.size, 0, none⟩) rfl (cs := [.slice ua un ucap, .slice ub um ucap2]) (y := ((c1, c2) : Cls)) (cells_new2 wb _ _ _) HITa.out (Nat.le_refl _) (.inr ⟨Nat.le_refl _, fun h => by cases h⟩) (by unfold maxLen; omega) (by omega) (by simp; omega) ?_)
        intro v1 w6 hG6 _ hb6
        have HG6 := Lib.hid (hG6.rd (l0 := 0) (Nat.zero_le _) (Nat.zero_le _))
        have hp6 : Below wq.heap.size wq w6 := Below.trans (show Below wq.heap.size wq _ from bwT) hb6
        clear hG6 hb6 hGa HITa
        go_wp2
        go_ret
        rw [HL.out]
        exact ⟨_, rfl, HG6.out, hBc.trans (hp6.mono sc)⟩
      · have HG6 := Lib.hid (hG.out.rd (l0 := 0) (Nat.zero_le _) (Nat.zero_le _))
        clear hG HCI
        go_wp2
        go_ret
        rw [HL.out]
        exact ⟨_, rfl, HG6.out, hBb⟩
theorem perms_small {n : Nat} (h : n ≤ 4) : (perms n n).length ≤ 24 ∧ ∀ p ∈ perms n n, p.length ≤ 4 := by
  have : n = 0 ∨ n = 1 ∨ n = 2 ∨ n = 3 ∨ n = 4 := by omega
  rcases this with rfl | rfl | rfl | rfl | rfl <;> decide +kernel
theorem sOut_step {P : Pms} {o F : List Cls} {i : Nat} {x : List Int} (h : P[i]? = some x) (hF : sOut P o (P.drop i) = F) : sOut P (sIn x o P) (P.drop (i + 1)) = F := by
  rw [drop_cons h] at hF; exact hF
theorem sIn_step {P Q : Pms} {x q : List Int} {o : List Cls} {j : Nat} (h : P[j]? = some q) : sIn x o (P.drop j) = sIn x (sAdd o (x, q)) (P.drop (j + 1)) := by
  rw [drop_cons h]; rfl
set_option maxRecDepth 20000 in
set_option maxHeartbeats 8000000 in
theorem aregS_any (w : World) (n : Int) (X : List Cls) (hX : X = if 1 ≤ n ∧ n ≤ 4 then sAll n.toNat else []) :
    Calls Try.prog 7 #[.int .i64 n] w (PostRdL w X) := by
  obtain ⟨r, hr⟩ : ∃ r, r = decide (1 ≤ n ∧ n ≤ 4) := ⟨_, rfl⟩
  have HR := Lib.hid hr
  have HX := Lib.hid hX
  clear hr hX
  go_enter Try.func7, Try.ntmps7
  go_wp2_with fail
  refine (l1In_b n 1 4 _ r HR.out).mono ?_
  rintro e1 w1 ⟨rfl, hb1⟩
  have hB1 : Below w.heap.size w w1 := hb1
  clear hb1
  cases r
  · obtain rfl : X = [] := by rw [HX.out, if_neg (of_decide_eq_false HR.out.symm)]
    clear HX HR
    go_wp2
    go_ret
    exact ⟨_, rfl, ((Ow.nil 0 _ _).rd).weak, hB1⟩
  have hn := of_decide_eq_true HR.out.symm
  obtain ⟨N, rfl⟩ := Int.eq_ofNat_of_zero_le (show 0 ≤ n by omega)
  have hN : N ≤ 4 := by omega
  obtain ⟨P, hP⟩ : ∃ P, P = perms N N := ⟨_, rfl⟩
  have HPS := Lib.hid (perms_small hN)
  rw [← hP] at HPS
  have HPE := Lib.hid hP
  have hPl : P.length ≤ 24 := HPS.out.1
  have HXF := Lib.hid (show sOut P [] P = X by rw [HX.out, if_pos hn, hP]; rfl)
  have hXl : X.length ≤ 12 := by
    have h := (aAll_facts hN).2.1.length_eq
    have h2 := (aAll_facts hN).1
    have h3 : X = sAll N := by rw [HX.out, if_pos hn]; rfl
    rw [h3]; omega
  clear HX HR hP hn
  have s1 := hB1.size
  go_wp2_with fail
  refine (permsS_any _ N (by omega)).mono ?_
  rw [← HPE.out]
  rintro e2 w2 ⟨u2, rfl, ho2, hb2⟩
  have hb2' : Below w1.heap.size w1 w2 := Below.trans (show Below w1.heap.size w1 _ from bwT) (hb2.mono (by simp))
  have HL0 := Lib.hid (show Rd false 0 w2.heap.size w2 [.slice (some ⟨w1.heap.size, 0, none⟩) 0 0] ([] : List Cls) from ((((GL.lit0 (α := Cls) false w1.heap.size 0 w1 30 (Nat.le_refl _)).top).rd (l0 := 0) (Nat.zero_le _) (Nat.zero_le _)).below hb2).top)
  have hB2 : Below w.heap.size w w2 := hB1.trans (hb2'.mono s1)
  obtain ⟨a2, n2, cap2, rfl, hn2, -⟩ := ho2.rd.shape
  subst hn2
  have HP := Lib.hid ho2.rd
  have s2 := hB2.size
  clear ho2 hb2 hb2' hB1 s1
  go_wp2
  go_loopw [3, 5, 7, 8, 16] (fun s3 _ _ _ s16 wr => ∃ (i : Nat) (o : List Cls), i ≤ P.length ∧ s16 = .int .i64 i ∧ Hid (sOut P o (P.drop i) = X) ∧ Hid (Rd false 0 wr.heap.size wr [s3] o) ∧ Below w2.heap.size w2 wr) (fun _ _ _ _ s16 _ => P.length - (intOf s16).toNat)
  case atStart => exact ⟨0, [], Nat.zero_le _, rfl, HXF, HL0, Below.refl _ _⟩
  case round =>
    clear HL0
    obtain ⟨wb, hwb⟩ : ∃ wm : World, wm = wr := ⟨_, rfl⟩
    subst hwb
    obtain ⟨i, o, hi, rfl, HO, hL, hbb⟩ := hrel
    have sB := hbb.size
    by_cases hlt : i < P.length
    · have hI : (i : Int) < (P.length : Int) := by omega
      obtain ⟨b, off, x, vx, rfl, hx, cx, hrx, -, -, hbl⟩ := HP.out.lists_at hlt
      obtain ⟨xa, xn, xcap, rfl, -⟩ := hrx.shape
      have qx := oldc hbb hbl cx
      have HXX := Lib.hid hx.out
      have HRX := Lib.hid hrx
      have HO2 := Lib.hid (sOut_step hx.out HO.out)
      have hLs := hL
      clear hx cx hrx HO hL
      go_wp2_with fail
      refine (permsS_any _ N (by omega)).mono ?_
      rw [← HPE.out]
      rintro e3 w3 ⟨u3, rfl, ho3, hb3⟩
      have hb3c : Below w2.heap.size w2 w3 := hbb.trans (hb3.mono sB)
      obtain ⟨a3, n3, cap3, rfl, hn3, -⟩ := ho3.rd.shape
      subst hn3
      have HP3 := Lib.hid ho3.rd
      have HL3 := Lib.hid (hLs.out.below hb3).top
      have s3 := hb3c.size
      have HR3 := Lib.hid (HRX.out.below hb3c)
      clear ho3 hb3 hLs qx HRX
      go_wp2
      go_loopw [3, 7, 8, 23] (fun s3 _ _ s23 wr => ∃ (j : Nat) (o : List Cls), j ≤ P.length ∧ s23 = .int .i64 j ∧ Hid (sOut P (sIn x o (P.drop j)) (P.drop (i + 1)) = X) ∧ Hid (Rd false 0 wr.heap.size wr [s3] o) ∧ Below w3.heap.size w3 wr) (fun _ _ _ s23 _ => P.length - (intOf s23).toNat)
      case atStart => exact ⟨0, o, Nat.zero_le _, rfl, HO2, HL3, Below.refl _ _⟩
      case round =>
        clear HL3 HO2
        obtain ⟨wd, hwd⟩ : ∃ wm : World, wm = wr := ⟨_, rfl⟩
        subst hwd
        obtain ⟨j, o, hj, rfl, HO, hL, hbd⟩ := hrel
        have sD := hbd.size
        have hB2d : Below w2.heap.size w2 wd := hb3c.trans (hbd.mono s3)
        obtain ⟨oa, on, ocap, rfl, hon, -⟩ := hL.out.shape
        subst hon
        by_cases hlj : j < P.length
        · have hJ : (j : Int) < (P.length : Int) := by omega
          obtain ⟨b', off', q, vq, rfl, hq, cq, hrq, -, -, hbl'⟩ := HP3.out.lists_at hlj
          obtain ⟨qa, qn, qcap, rfl, -⟩ := hrq.shape
          have kq := oldc hbd hbl' cq
          have hxl := HPS.out.2 x (List.mem_of_getElem? HXX.out)
          have HOS := Lib.hid (show sOut P (sIn x (sAdd o (x, q)) (P.drop (j + 1))) (P.drop (i + 1)) = X by rw [← sIn_step (Q := P) hq.out]; exact HO.out)
          have hol : (sAdd o (x, q)).length ≤ 12 := by
            have h1 := sOut_mono P (P.drop (i + 1)) (sIn x (sAdd o (x, q)) (P.drop (j + 1)))
            have h2 := sIn_mono x (P.drop (j + 1)) (sAdd o (x, q))
            rw [HOS.out] at h1; omega
          have hol0 : o.length ≤ 12 := by have := sAdd_mono o (x, q); omega
          have HC := Lib.hid (Rd.cls_mk ((HR3.out.below hbd).top.mono (Nat.zero_le _) (Nat.le_refl _)) ((hrq.below hbd).top.mono (Nat.zero_le _) (Nat.le_refl _)))
          obtain ⟨WA, hWA⟩ : ∃ W : World, W = wd.alloc (.cells #[.slice xa xn xcap, .slice qa qn qcap] 30) := ⟨_, rfl⟩
          have hbA : Below wd.heap.size wd WA := by rw [hWA]; exact (Below.refl _ _).alloc (Nat.le_refl _) _
          have x0 : WA.cell? ⟨wd.heap.size, 0, none⟩ = some (.slice xa xn xcap) := by rw [hWA]; simp [go_sem]
          have x1 : WA.cell? ⟨wd.heap.size, 1, none⟩ = some (.slice qa qn qcap) := by rw [hWA]; simp [go_sem]
          have lA : wd.heap.size < WA.heap.size := by rw [hWA]; simp
          have sA := hbA.size
          have HLA := Lib.hid (hL.out.below hbA).top
          obtain ⟨g, hg⟩ : ∃ g, g = isReg (x, q) := ⟨_, rfl⟩
          have HG := Lib.hid hg
          clear hq cq hrq hL HO hg
          go_upto_region 11 with fail
          rw [← hWA]
          clear hWA kq
          go_wp2_with fail
          refine (isRegS_b _ _ _ (x, q) (HC.out.below hbA) (by dsimp only; omega) g HG.out).mono ?_
          rintro e4 w4 ⟨rfl, hb4⟩
          have s4 := hb4.size
          have x0 := oldc hb4 lA x0
          have x1 := oldc hb4 lA x1
          have hb4d : Below wd.heap.size wd w4 := hbA.trans (hb4.mono sA)
          have HL4 := Lib.hid (HLA.out.below hb4).top
          clear hb4 HLA
          cases g
          · have HE := Lib.hid (show sAdd o (x, q) = o by unfold sAdd; rw [← HG.out]; rfl)
            rw [HE.out] at HOS
            go_wp2
            go_roundw
            case rel => exact ⟨j + 1, o, by omega, by go_num, HOS, HL4, hbd.trans (hb4d.mono sD)⟩
            case measure => simp [intOf]; omega
          · have HE := Lib.hid (show sAdd o (x, q) = lay o (canonC (x, q)) by unfold sAdd; rw [← HG.out]; rfl)
            rw [HE.out] at HOS
            have hcls := isReg_cls HG.out.symm
            have HCL := Lib.hid hcls
            clear hcls
            have s4d := hb4d.size
            go_wp2_with fail
            refine (canonS_any _ _ _ (x, q) (HC.out.below hb4d) HCL.out (by dsimp only; omega)).mono ?_
            rintro e5 w5 ⟨ca, cb, rfl, ho5, hb5⟩
            obtain ⟨h51, h52⟩ := ho5.rd.two rfl
            obtain ⟨ya, yn, ycap, rfl, -⟩ := h51.shape
            obtain ⟨za, zn, zcap, rfl, -⟩ := h52.shape
            have HC5 := Lib.hid ho5.rd
            have HL5 := Lib.hid (HL4.out.below hb5).top
            have hb5d : Below wd.heap.size wd w5 := hb4d.trans (hb5.mono s4d)
            have s5 := hb5d.size
            clear ho5 h51 h52 hb5 HL4
            go_wp2_with fail
            refine (l6Lay_any _ _ _ _ o (canonC (x, q)) HL5.out HC5.out (by omega)).mono ?_
            rintro e6 w6 ⟨u6, rfl, hr6, hb6⟩
            have HL6 := Lib.hid hr6
            have hb6d : Below wd.heap.size wd w6 := hb5d.trans (hb6.mono s5)
            clear hr6 hb6 HL5 HC5
            go_wp2
            go_roundw
            case rel => exact ⟨j + 1, lay o (canonC (x, q)), by omega, by go_num, HOS, HL6, hbd.trans (hb6d.mono sD)⟩
            case measure => simp [intOf]; omega
        · obtain rfl : j = P.length := by omega
          have hJ : ¬ (P.length : Int) < (P.length : Int) := by omega
          have HOE := Lib.hid (show sOut P o (P.drop (i + 1)) = X by
            have h := HO.out
            rw [List.drop_length] at h; exact h)
          clear HO
          go_wp2
          go_roundw
          case rel => exact ⟨i + 1, o, by omega, by go_num, HOE, hL, hB2d⟩
          case measure => simp [intOf]; omega
    · obtain rfl : i = P.length := by omega
      have hI : ¬ (P.length : Int) < (P.length : Int) := by omega
      obtain rfl : o = X := by
        have h := HO.out
        rw [List.drop_length] at h; exact h
      have HLF := Lib.hid hL.out
      clear hL HO
      go_wp2
      go_ret
      exact ⟨_, rfl, HLF.out, hB2.trans (hbb.mono s2)⟩
end Go.Proofs.Ytlnhhfebmeekhaa
