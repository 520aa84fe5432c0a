/- Contract of l6Group. -/
import Derived.Test.YtlnhhfebmeekhaaZ10E
namespace Go.Proofs.Ytlnhhfebmeekhaa
set_option linter.unusedVariables false
set_option linter.unusedSimpArgs false
open Go.RowKit

/-- What is met behind j of the two. -/
def gJ (c : Cls) (o : Pms) (q : List Int) : Nat → Pms
  | 0 => o
  | 1 => gAdd o (comp q c.1)
  | _ => gRound c o q
def gOf (c : Cls) : Nat → List Int
  | 0 => c.1
  | _ => c.2
theorem gJ_succ {c : Cls} {o : Pms} {q : List Int} {j : Nat} (h : j < 2) : gJ c o q (j + 1) = gAdd (gJ c o q j) (comp q (gOf c j)) := by
  match j, h with
  | 0, _ => rfl
  | 1, _ => rfl
theorem gAdd_at {o : Pms} {p q : List Int} {i : Nat} (h : o[i]? = some q) : (gAdd o p)[i]? = some q := by
  unfold gAdd
  split
  · exact h
  · rw [List.getElem?_append_left (List.getElem?_eq_some_iff.1 h).1]; exact h
theorem gJ_at {c : Cls} {o : Pms} {q : List Int} {i : Nat} (h : o[i]? = some q) : ∀ j, (gJ c o q j)[i]? = some q
  | 0 => h
  | 1 => gAdd_at h
  | _ + 2 => gAdd_at (gAdd_at h)
theorem gJ_len (c : Cls) (o : Pms) (q : List Int) : ∀ j, (gJ c o q j).length ≤ o.length + 2
  | 0 => by simp [gJ]
  | 1 => by have := (gAdd_len o (comp q c.1)).2; simp only [gJ]; omega
  | _ + 2 => (gRound_len c o q).2
/-- The group, or that it is too big. -/
def PostGr (w : World) (R : Option Pms) (e : Ending) (w' : World) : Prop :=
  Below w.heap.size w w' ∧ match R with
    | none => e = .returned (.tuple #[.slice none 0 0, .bool false])
    | some o => ∃ u, e = .returned (.tuple #[u, .bool true]) ∧ Rd false 0 w'.heap.size w' [u] (lsrt o)

set_option maxRecDepth 20000 in
set_option maxHeartbeats 4000000 in
theorem l6Group_any {z : Bool} {lo hi : Nat} (w : World) (u v : Value) (c : Cls) (hu : Rd z lo hi w [u, v] c) (hc : isCls c = true) (most : Nat) (hm : 1 ≤ most ∧ most ≤ 100000) (R : Option Pms) (hR : R = gLoop c most (most + 2) 0 [idL c.1.length]) :
    Calls Try.prog 71 #[.agg #[u, v], .int .i64 most] w (PostGr w R) := by
  obtain ⟨xs, ys⟩ := c
  have HOK := Lib.hid (isCls_ok hc)
  have HR := Lib.hid hR
  obtain ⟨hn1, hn8⟩ := HOK.out.1
  dsimp only at hn1 hn8
  clear hc hR
  obtain ⟨ao, n, cap, bo, m, dap, rfl, rfl⟩ := shapeCls hu
  obtain ⟨hp, hq⟩ := hu.two rfl
  dsimp only at hp hq
  obtain ⟨ao', n', cap', e, hn, hnc, hcm, hnone⟩ := hp.shape
  simp only [Value.slice.injEq] at e
  obtain ⟨rfl, rfl, rfl⟩ := e
  subst hn
  have HP := Lib.hid hp.all0
  have HQ := Lib.hid hq.all0
  clear hu hp hq
  go_enter Try.func71, Try.ntmps71
  go_wp2
  obtain ⟨w0, hw0⟩ : ∃ w0 : World, w0 = w.alloc (.cells #[.slice ao xs.length cap, .slice bo m dap] 30) := ⟨_, rfl⟩
  have hB0 : Below w.heap.size w w0 := by rw [hw0]; exact bwT
  have HS0 := Lib.hid (show w0.heap.size = w.heap.size + 1 by rw [hw0]; simp)
  have s0 := hB0.size
  have s0' : w.heap.size < w0.heap.size := by have := HS0.out; omega
  have c00 : w0.cell? ⟨w.heap.size, 0, none⟩ = some (.slice ao xs.length cap) := by rw [hw0]; simp [go_sem]
  have c01 : w0.cell? ⟨w.heap.size, 1, none⟩ = some (.slice bo m dap) := by rw [hw0]; simp [go_sem]
  rw [← hw0]
  clear hw0
  go_loopw [6, 7, 19] (fun o r i wr => ∃ k : Nat, k ≤ xs.length ∧ i = .int .i64 k ∧ GL true w0.heap.size w0.heap.size wr.heap.size wr 3 o (idL k) ∧ Below w0.heap.size w0 wr) (fun _ _ i _ => xs.length - (intOf i).toNat)
  case atStart => exact ⟨0, Nat.zero_le _, rfl, by rw [← HS0.out]; exact (GL.lit0 _ _ _ _ _ (Nat.le_refl _)).top, (Below.refl _ _).alloc (Nat.le_refl _) _⟩
  case round =>
    obtain ⟨k, hk, rfl, hG, hb⟩ := hrel
    have sW := hb.size
    by_cases hlt : k < xs.length
    · have hI : (k : Int) < (xs.length : Int) := by omega
      have hlc : (idL k).length ≤ 1048576 := by rw [idL_len]; omega
      go_wp2_with (at_builtin; refine wpList_push rfl rfl slInt (by show (0 : Nat) < 1; omega) (hG.alloc _) rfl (ad := ⟨wr.heap.size, 0, none⟩) rfl (cs := [.int .i64 k]) (y := (k : Int)) (lx := wr.heap.size) (hx' := wr.heap.size) ?c1 (It.flat (z := true) (w0 := wr) (fp := []) ⟨rfl, ⟨by omega, by omega⟩, rfl⟩) sW (.inl (Nat.le_refl _)) (by unfold maxLen; omega) (by omega) ?c2 ?_)
      case c1 =>
        intro j c hj
        match j, hj with
        | 0, hj => simp at hj; subst hj; simp [Addr.add]
      case c2 => simp; omega
      intro v' w1 hG1 _ hb1
      rw [← idL_succ] at hG1
      have HG := Lib.hid hG1
      have hB1 : Below w0.heap.size w0 w1 := Below.trans (hb.alloc sW _) hb1
      clear hG hG1 hb1
      go_wp2
      go_roundw
      case rel => exact ⟨k + 1, by omega, by go_num, HG.out, hB1⟩
      case measure => simp [intOf]; omega
    · have hkn : k = xs.length := by omega
      subst hkn
      have HU := Lib.hid ((hG.ow (l0 := w0.heap.size) (Nat.le_refl _) (Nat.le_refl _)).rd.all0)
      obtain ⟨ao6, cap6, rfl, -, -⟩ := hG.len
      clear hG
      rw [idL_len]
      go_wp2
      obtain ⟨w2, hw2⟩ : ∃ w2 : World, w2 = (wr.alloc (.cells #[.slice ao6 xs.length cap6] 28)).alloc (.cells #[.slice ao6 xs.length cap6] 28) := ⟨_, rfl⟩
      have s2 : w2.heap.size = wr.heap.size + 1 + 1 := by rw [hw2]; simp
      have hB2 : Below w0.heap.size w0 w2 := by rw [hw2]; exact bwT
      have HM := Lib.hid (show GL false w0.heap.size 0 w2.heap.size w2 28 (.slice (some ⟨wr.heap.size, 0, none⟩) 1 1) [idL xs.length] by
        rw [hw2]
        have := HU.out
        rw [idL_len] at this
        obtain ⟨fp, g1, g2⟩ := this
        exact ((GL.litr w0.heap.size wr _ sW ⟨fp, Rep.weak g1, g2⟩).alloc _).top)
      have HT := Lib.hid (show RdS (fun b => some b ≠ (Value.slice (some ⟨wr.heap.size, 0, none⟩) 1 1).ownBlock) w2 [.slice (some ⟨wr.heap.size + 1, 0, none⟩) 1 1] (lsrt [idL xs.length]) by
        rw [hw2]
        have := HU.out
        rw [idL_len] at this
        obtain ⟨fp, g1, g2⟩ := this
        have g := RdS.litr (S := fun b => some b ≠ (Value.slice (some ⟨wr.heap.size, 0, none⟩) 1 1).ownBlock) (wr.alloc (.cells #[.slice ao6 xs.length cap6] 28)) 28 ((show RdS (fun b => some b ≠ (Value.slice (some ⟨wr.heap.size, 0, none⟩) 1 1).ownBlock) wr _ (idL xs.length) from ⟨fp, Rep.weak g1, fun b hb => ⟨(g2 b hb).2, by have := (g2 b hb).2; simp [Value.ownBlock]; omega⟩⟩).below (show Below wr.heap.size wr (wr.alloc (.cells #[.slice ao6 xs.length cap6] 28)) from bwT)) (by simp [Value.ownBlock])
        rw [show (wr.alloc (.cells #[.slice ao6 xs.length cap6] 28)).heap.size = wr.heap.size + 1 from by simp] at g
        exact g)
      rw [← hw2]
      clear hw2 HU
      go_loopw [4, 5, 8, 9, 10, 12, 13, 14] (fun _ _ s8 s9 s10 _ _ _ wl => ∃ (i : Nat) (o : Pms), i ≤ o.length ∧ o.length ≤ most ∧ s10 = .int .i64 i ∧ Hid (gLoop (xs, ys) most (most + 2 - i) i o = R) ∧ Hid (GOk xs.length o) ∧ Hid (GL false w0.heap.size 0 wl.heap.size wl 28 s8 o) ∧ Hid (RdS (fun b => some b ≠ s8.ownBlock) wl [s9] (lsrt o)) ∧ Below w0.heap.size w0 wl) (fun _ _ _ _ s10 _ _ _ _ => most + 2 - (intOf s10).toNat)
      case atStart => exact ⟨0, [idL xs.length], Nat.zero_le _, hm.1, rfl, Lib.hid HR.out.symm, Lib.hid (fun q hq => by rw [List.mem_singleton] at hq; subst hq; exact idL_ok _), HM, HT, hB2⟩
      case round =>
        obtain ⟨wl, hwl⟩ : ∃ x : World, x = wr := ⟨_, rfl⟩
        subst hwl
        obtain ⟨i, o, hi, ho, rfl, hgl, hok, hM, hT, hbl⟩ := hrel
        have sl := hbl.size
        obtain ⟨aom, capm, rfl, -, -⟩ := hM.out.len
        obtain ⟨aot, nt, capt, rfl, hn9, -⟩ := hT.out.rd.shape
        subst hn9
        have HLS := Lib.hid (lsrt_len o)
        by_cases hlt2 : i < o.length
        · have hI : (i : Int) < (o.length : Int) := by omega
          obtain ⟨q, hq⟩ : ∃ q, o[i]? = some q := ⟨_, List.getElem?_eq_getElem hlt2⟩
          have HQi := Lib.hid hq
          clear hq
          have d00 := oldc hbl s0' c00
          have d01 := oldc hbl s0' c01
          go_wp2
          go_loopw [8, 9, 12, 13, 14, 43] (fun s8 s9 _ _ _ s43 wi => ∃ j : Nat, j ≤ 2 ∧ s43 = .int .i64 j ∧ Hid (GOk xs.length (gJ (xs, ys) o q j)) ∧ Hid (GL false w0.heap.size 0 wi.heap.size wi 28 s8 (gJ (xs, ys) o q j)) ∧ Hid (∀ g, s8.ownBlock = some g → g ≠ wl.heap.size) ∧ Hid (RdS (fun b => some b ≠ s8.ownBlock) wi [s9] (lsrt (gJ (xs, ys) o q j))) ∧ Below w0.heap.size w0 wi ∧ wl.heap.size < wi.heap.size ∧ wi.cell? ⟨wl.heap.size, 0, none⟩ = some (.slice ao xs.length cap) ∧ wi.cell? ⟨wl.heap.size, 1, none⟩ = some (.slice bo m dap)) (fun _ _ _ _ _ s43 _ => 2 - (intOf s43).toNat)
          case atStart =>
            refine ⟨0, Nat.zero_le _, rfl, hok, Lib.hid (hM.out.alloc _).top, Lib.hid ?_, Lib.hid ?_, hbl.alloc sl _, by simp, by simp [go_sem], by simp [go_sem]⟩
            · intro g hg
              obtain ⟨_, _, _, _, _, h9, _⟩ := hM.out
              have := h9 g hg
              omega
            · exact hT.out.below bwT
          case round =>
            obtain ⟨wi, hwi⟩ : ∃ x : World, x = wr := ⟨_, rfl⟩
            subst hwi
            obtain ⟨j, hj2, rfl, hokj, hMj, hown, hTj, hbi, hli, e0, e1⟩ := hrel
            have si := hbi.size
            obtain ⟨aon, capn, rfl, -, -⟩ := hMj.out.len
            obtain ⟨aou, nu, capu, rfl, hn10, -⟩ := hTj.out.rd.shape
            subst hn10
            have HLJ := Lib.hid (gJ_len (xs, ys) o q j)
            by_cases hj : j < 2
            · have hJ : (j : Int) < 2 := by omega
              obtain ⟨ag, ng, cg, gc, hgr⟩ : ∃ ag ng cg, wi.cell? ⟨wl.heap.size, j, none⟩ = some (.slice ag ng cg) ∧ Hid (∃ zz, Rd zz 0 wi.heap.size wi [.slice ag ng cg] (gOf (xs, ys) j)) := by
                match j, hj with
                | 0, _ => exact ⟨_, _, _, e0, Lib.hid ⟨_, (HP.out.below (hB0.trans (hbi.mono hB0.size))).all0⟩⟩
                | 1, _ => exact ⟨_, _, _, e1, Lib.hid ⟨_, (HQ.out.below (hB0.trans (hbi.mono hB0.size))).all0⟩⟩
              have hji := gJ_at (c := (xs, ys)) HQi.out j
              have hil : i < (gJ (xs, ys) o q j).length := (List.getElem?_eq_some_iff.1 hji).1
              have hilI : (i : Int) < ((gJ (xs, ys) o q j).length : Int) := by omega
              obtain ⟨bm, offm, q', vq, e8, hq', cq, hrq, -, -, hbq⟩ := (hMj.out.rd (l0 := 0) (Nat.zero_le _) (Nat.zero_le _)).lists_at hil
              subst e8
              have eq' := Option.some.inj (hq'.out.symm.trans hji)
              subst eq'
              obtain ⟨aq, nq, capq, rfl, hnq, -⟩ := hrq.shape
              subst hnq
              have HRQ := Lib.hid hrq
              obtain ⟨zz, hgz⟩ := hgr.out
              have HGZ := Lib.hid hgz
              have hqok := hok.out q' (List.mem_of_getElem? HQi.out)
              have HGO := Lib.hid (show (gOf (xs, ys) j).length = xs.length ∧ InRange xs.length (gOf (xs, ys) j) by
                match j, hj with
                | 0, _ => exact ⟨rfl, HOK.out.2.1⟩
                | 1, _ => exact HOK.out.2.2)
              have HQO := Lib.hid hqok
              have HJS := Lib.hid (gJ_succ (c := (xs, ys)) (o := o) (q := q') hj)
              have hql : q'.length ≤ 1048576 := by rw [hqok.1]; omega
              clear hqok hgr hgz hrq hji hq'
              go_wp2_with (go_at_call 100; refine (composedS_any _ _ _ q' (gOf (xs, ys) j) (HRQ.out.below bwT) (HGZ.out.below bwT) hql (by rw [HGO.out.1]; exact HQO.out.2)).mono ?_)
              rintro e w4 ⟨u4, rfl, how4, hb4⟩
              have s4 := hb4.size
              have hB4 : Below w0.heap.size w0 w4 := Below.after hbi hb4 si
              obtain ⟨a4, n4, cap4, rfl, hn4, -⟩ := how4.rd.shape
              subst hn4
              have HO4 := Lib.hid how4
              have HM4 := Lib.hid (hMj.out.below hb4)
              have HT4 := Lib.hid (hTj.out.below hb4)
              have f0 := oldc hb4 hli e0
              have f1 := oldc hb4 hli e1
              have HOB := Lib.hid (show ∀ g, (Value.slice (some ⟨bm, offm, none⟩) (gJ (xs, ys) o q' j).length capn).ownBlock = some g → g < wi.heap.size by
                obtain ⟨_, _, _, _, _, h9, _⟩ := hMj.out
                exact h9)
              have HP4 := Lib.hid (show RdS (fun b => some b ≠ (Value.slice (some ⟨bm, offm, none⟩) (gJ (xs, ys) o q' j).length capn).ownBlock) w4 _ (comp q' (gOf (xs, ys) j)) by
                obtain ⟨fp, g1, g2⟩ := how4.rd
                exact ⟨fp, Rep.weak g1, fun b hb => ⟨(g2 b hb).2, fun e => by have := HOB.out b e.symm; have := (g2 b hb).1; omega⟩⟩)
              clear how4 hMj hTj
              go_wp2_with (go_at_call 101; refine (l6Put_any (fun b => some b ≠ (Value.slice (some ⟨bm, offm, none⟩) (gJ (xs, ys) o q' j).length capn).ownBlock) _ _ _ _ _ (HT4.out.below bwT) (HP4.out.below bwT) (by rw [lsrt_len]; have := HLJ.out; omega)).mono ?_)
              rintro e w5 ⟨u5, rfl, hrd5, hb5⟩
              rw [lput_lsrt, ← HJS.out] at hrd5
              have hrd5 := hrd5.mono (S' := fun b => some b ≠ (Value.slice (some ⟨bm, offm, none⟩) (gJ (xs, ys) o q' j).length capn).ownBlock) fun b _ h => h.elim id fun h e => by have := HOB.out b e.symm; omega
              have s5 := hb5.size
              have hB5 : Below w0.heap.size w0 w5 := Below.after hB4 hb5 (by omega)
              obtain ⟨a5, n5, cap5, rfl, hn5, -⟩ := hrd5.rd.shape
              have HM5 := Lib.hid (HM4.out.below hb5)
              have HO5 := Lib.hid (HO4.out.rd.below hb5)
              have HT5 := Lib.hid hrd5
              have g0 := oldc hb5 (by omega) f0
              have g1 := oldc hb5 (by omega) f1
              have HOKJ := Lib.hid (show GOk xs.length (gJ (xs, ys) o q' (j + 1)) by rw [HJS.out]; exact hokj.out.add (comp_ok HQO.out HGO.out))
              clear HM4 HT4 HO4 hrd5
              by_cases hin : comp q' (gOf (xs, ys) j) ∈ gJ (xs, ys) o q' j
              · have HGA := Lib.hid (show gJ (xs, ys) o q' (j + 1) = gJ (xs, ys) o q' j by rw [HJS.out]; exact if_pos hin)
                have hnn : ¬ ((lsrt (gJ (xs, ys) o q' j)).length : Int) < (n5 : Int) := by rw [← hn5, HGA.out]; omega
                clear hin
                go_wp2
                go_roundw
                case rel => exact ⟨j + 1, by omega, by go_num, HOKJ, Lib.hid (by rw [HGA.out]; exact HM5.out.top), hown, HT5, hB5, by omega, g0, g1⟩
                case measure => simp [intOf]; omega
              · have HGA := Lib.hid (show gJ (xs, ys) o q' (j + 1) = gJ (xs, ys) o q' j ++ [comp q' (gOf (xs, ys) j)] by rw [HJS.out]; exact if_neg hin)
                have hnn : ((lsrt (gJ (xs, ys) o q' j)).length : Int) < (n5 : Int) := by rw [← hn5, HGA.out, lsrt_len, lsrt_len, List.length_append]; simp; omega
                clear hin
                go_wp2_with (at_builtin; refine wpList_push_o rfl rfl slInts (by show (0 : Nat) < 1; omega) (HM5.out.alloc _) rfl (ad := ⟨w5.heap.size, 0, none⟩) rfl (cs := [.slice a4 (comp q' (gOf (xs, ys) j)).length cap4]) (y := comp q' (gOf (xs, ys) j)) (lx := wi.heap.size) (hx' := w4.heap.size) ?c1 (HO5.out.below bwT).it (Nat.zero_le _) (.inl (Nat.le_refl _)) (by have := HLJ.out; unfold maxLen; omega) (by have := HLJ.out; omega) ?c2 ?_)
                case c1 =>
                  intro j c hj
                  match j, hj with
                  | 0, hj => simp at hj; subst hj; simp [Addr.add]
                case c2 => simp; omega
                intro v6 w6 hG6 hgb6 hb6 hv6
                rw [← HGA.out] at hG6
                have HG6 := Lib.hid hG6
                clear hG6
                have hkb : ∀ k, k < w5.heap.size → some k ≠ (Value.slice (some ⟨bm, offm, none⟩) (gJ (xs, ys) o q' j).length capn).ownBlock → w6.heap[k]? = w5.heap[k]? := fun k h1 h2 => (hgb6.block k (by simp; omega) h2).trans (Below.heap_alloc w5 _ k h1)
                have hlw : some wl.heap.size ≠ (Value.slice (some ⟨bm, offm, none⟩) (gJ (xs, ys) o q' j).length capn).ownBlock := fun e => hown.out _ e.symm rfl
                have i0 : w6.cell? ⟨wl.heap.size, 0, none⟩ = some (.slice ao xs.length cap) := (World.cell?_of_block (w := w5) (a := ⟨wl.heap.size, 0, none⟩) (hkb wl.heap.size (by omega) hlw)).trans g0
                have i1 : w6.cell? ⟨wl.heap.size, 1, none⟩ = some (.slice bo m dap) := (World.cell?_of_block (w := w5) (a := ⟨wl.heap.size, 1, none⟩) (hkb wl.heap.size (by omega) hlw)).trans g1
                have hne : ∀ k, k < w5.heap.size → some k ≠ (Value.slice (some ⟨bm, offm, none⟩) (gJ (xs, ys) o q' j).length capn).ownBlock → some k ≠ v6.ownBlock := fun k h1 h2 e => by
                  rcases hv6 with h | h
                  · exact h2 (e.trans h)
                  · rw [h] at e; simp at e; omega
                have HT6 := Lib.hid (((HT5.out.mono (S' := fun k => some k ≠ (Value.slice (some ⟨bm, offm, none⟩) (gJ (xs, ys) o q' j).length capn).ownBlock ∧ some k ≠ v6.ownBlock) fun k h1 h2 => ⟨h2, hne k h1 h2⟩).keep fun k h1 h2 => hkb k h1 h2.1).mono (S' := fun k => some k ≠ v6.ownBlock) fun _ _ h => h.2)
                have HW6 := Lib.hid (show ∀ g, v6.ownBlock = some g → g ≠ wl.heap.size from fun g hg e => hne wl.heap.size (by omega) hlw (by rw [hg, e]))
                have hB6 : Below w0.heap.size w0 w6 := Below.trans bwT hb6
                have s6 := hgb6.size
                simp only [World.size_alloc] at s6
                clear hgb6 hb6 hv6 hkb hlw hne hown HM5 HO5 HT5
                go_wp2
                go_roundw
                case rel => exact ⟨j + 1, by omega, by go_num, HOKJ, Lib.hid HG6.out, HW6, HT6, hB6, by omega, i0, i1⟩
                case measure => simp [intOf]; omega
            · obtain rfl : j = 2 := by omega
              clear hj hj2
              have hbA : Below w.heap.size w wi := Below.after hB0 hbi (by omega)
              have HLN := Lib.hid (lsrt_len (gJ (xs, ys) o q 2))
              by_cases hbig : most < (gRound (xs, ys) o q).length
              · have hbI : (most : Int) < ((lsrt (gJ (xs, ys) o q 2)).length : Int) := by have := HLN.out; have : (gJ (xs, ys) o q 2).length = (gRound (xs, ys) o q).length := rfl; omega
                have HRn := Lib.hid (show R = none by
                  rw [← hgl.out]
                  obtain ⟨f, hf⟩ : ∃ f, most + 2 - i = f + 1 := ⟨most + 1 - i, by omega⟩
                  rw [hf]
                  exact gLoop_big HQi.out hbig)
                clear hgl hMj hTj hokj hbig
                go_wp2
                go_ret2
                exact ⟨hbA, by rw [HRn.out]; exact rfl⟩
              · have hbI : ¬ (most : Int) < ((lsrt (gJ (xs, ys) o q 2)).length : Int) := by have := HLN.out; have : (gJ (xs, ys) o q 2).length = (gRound (xs, ys) o q).length := rfl; omega
                have HGL := Lib.hid (show gLoop (xs, ys) most (most + 2 - (i + 1)) (i + 1) (gJ (xs, ys) o q 2) = R by
                  rw [← hgl.out]
                  obtain ⟨f, hf⟩ : ∃ f, most + 2 - i = f + 1 := ⟨most + 1 - i, by omega⟩
                  rw [hf, gLoop_go HQi.out hbig, show most + 2 - (i + 1) = f by omega]
                  rfl)
                have HLE := Lib.hid (show i + 1 ≤ (gJ (xs, ys) o q 2).length ∧ (gJ (xs, ys) o q 2).length ≤ most by
                  have h1 := (gRound_len (xs, ys) o q).1
                  have h2 : (gJ (xs, ys) o q 2).length = (gRound (xs, ys) o q).length := rfl
                  omega)
                clear hgl hbig hM hT hok
                go_wp2
                go_roundw
                case rel => exact ⟨i + 1, gJ (xs, ys) o q 2, HLE.out.1, HLE.out.2, by go_num, HGL, hokj, hMj, hTj, hbi⟩
                case measure => simp [intOf]; have := HLE.out; omega
        · obtain rfl : i = o.length := by omega
          have nI : ¬ (o.length : Int) < (o.length : Int) := by omega
          have HRs := Lib.hid (show R = some o by
            rw [← hgl.out]
            obtain ⟨f, hf⟩ : ∃ f, most + 2 - o.length = f + 1 := ⟨most + 1 - o.length, by omega⟩
            rw [hf]
            exact gLoop_none (List.getElem?_eq_none (Nat.le_refl _)))
          have hbA : Below w.heap.size w wl := Below.after hB0 hbl (by omega)
          clear hgl hM hok
          go_wp2
          go_ret2
          refine ⟨hbA, ?_⟩
          rw [HRs.out]
          exact ⟨_, rfl, hT.out.rd⟩
end Go.Proofs.Ytlnhhfebmeekhaa
