/- Contract of impl.group: the permutations that are composed, sorted; none if they are too many. -/
import Derived.Test.YtlnhhfebmeekhaaZ10F
import Derived.Test.YtlnhhfebmeekhaaZ10G
import Derived.Test.YtlnhhfebmeekhaaGrpS
namespace Go.Proofs.Ytlnhhfebmeekhaa
set_option linter.unusedVariables false
set_option linter.unusedSimpArgs false
open Go.RowKit

/-- The group, owned, or that it is too big. -/
def PostGo (w : World) (R : Option Pms) (e : Ending) (w' : World) : Prop :=
  Below w.heap.size w w' ∧ match R with
    | none => e = .returned (.tuple #[.slice none 0 0, .bool false])
    | some o => ∃ u, e = .returned (.tuple #[u, .bool true]) ∧ Ow w.heap.size w'.heap.size w' [u] (lsrt o)

set_option maxRecDepth 20000 in
set_option maxHeartbeats 4000000 in
theorem group_any {z : Bool} {lo hi : Nat} (w : World) (u v : Value) (c : Cls) (hu : Rd z lo hi w [u, v] c) (hc : isCls c = true) (most : Nat) (hm : 1 ≤ most ∧ most ≤ 100000) (R : Option Pms) (hR : R = gLoop c most (most + 2) 0 [idL c.1.length]) :
    Calls Try.prog 51 #[.agg #[u, v], .int .i64 most] w (PostGo w R) := by
  obtain ⟨xs, ys⟩ := c
  have HOK := Lib.hid (isCls_ok hc)
  have HR := Lib.hid hR
  obtain ⟨hn1, hn8⟩ := HOK.out.1
  dsimp only at hn1 hn8
  clear hc hR
  obtain ⟨ao, n, cap, bo, m, dap, rfl, rfl⟩ := shapeCls hu
  obtain ⟨hp, hq⟩ := hu.two rfl
  dsimp only at hp hq
  obtain ⟨ao', n', cap', e, hn, hnc, hcm, hnone⟩ := hp.shape
  simp only [Value.slice.injEq] at e
  obtain ⟨rfl, rfl, rfl⟩ := e
  subst hn
  have HP := Lib.hid hp.all0
  have HQ := Lib.hid hq.all0
  clear hu hp hq hnc hcm hnone
  have hmm := @run_makeMap Try.prog
  go_enter Try.func51, Try.ntmps51
  go_wp2_with fail
  refine (identity_any _ xs.length (by omega)).mono ?_
  rintro e1 w1 ⟨u1, rfl, how1, hb1⟩
  have hB1 : Below w.heap.size w w1 := Below.after bwT hb1 (by simp)
  have s1 : w.heap.size + 1 ≤ w1.heap.size := by have := hb1.size; simpa using this
  have c00 : w1.cell? ⟨w.heap.size, 0, none⟩ = some (.slice ao xs.length cap) := oldc hb1 (by simp) (by simp [go_sem])
  have c01 : w1.cell? ⟨w.heap.size, 1, none⟩ = some (.slice bo m dap) := oldc hb1 (by simp) (by simp [go_sem])
  have HO1 := Lib.hid (show Ow (w.heap.size + 1) w1.heap.size w1 [u1] (idL xs.length) by simpa using how1)
  obtain ⟨a1, n1, cap1, rfl, hn1', -⟩ := how1.rd.shape
  rw [idL_len] at hn1'
  subst hn1'
  clear how1 hb1
  have HI0 := Lib.hid (idL_ok xs.length)
  obtain ⟨B, hBd⟩ : ∃ B, B = w1.heap.size + 1 := ⟨_, rfl⟩
  obtain ⟨bm, hbm⟩ : ∃ b, b = w1.heap.size + 1 + 1 := ⟨_, rfl⟩
  obtain ⟨S, hS⟩ : ∃ S : Nat → Prop, S = fun b => w.heap.size + 1 ≤ b ∧ b ≠ B ∧ b ≠ bm := ⟨_, rfl⟩
  have HS := Lib.hid (show ∀ b, S b ↔ (w.heap.size + 1 ≤ b ∧ b ≠ B ∧ b ≠ bm) by intro b; rw [hS])
  clear hS
  obtain ⟨K0, hK0⟩ : ∃ K, K = keyB (idL xs.length) := ⟨_, rfl⟩
  have HK0 := Lib.hid hK0
  clear hK0
  have hk0s : K0.size ≤ maxLen := by rw [HK0.out, keyB_size, idL_len]; unfold maxLen; omega
  go_wp2_with (go_at_call 89; refine (key_any _ _ (idL xs.length) (HO1.out.rd.below bwT) (fun x hx => by have := HI0.out.2 x hx; omega) (by rw [idL_len]; omega) K0 HK0.out).mono ?_)
  rintro e2 w2 ⟨rfl, hb2⟩
  have hS2 : SSet w2 bm 0 [] := by
    have := SSet.made ((w1.alloc (.cells #[.slice a1 xs.length cap1] 28)).alloc (.cells #[.slice (some ⟨w1.heap.size, 0, none⟩) 1 1] 39))
    rw [show ((w1.alloc (.cells #[.slice a1 xs.length cap1] 28)).alloc (.cells #[.slice (some ⟨w1.heap.size, 0, none⟩) 1 1] 39)).heap.size = bm by rw [hbm]; simp] at this
    exact this.below hb2
  have hM2 : GX S w2 28 (.slice (some ⟨w1.heap.size, 0, none⟩) 1 1) [idL xs.length] :=
    ((((GX.lit1 S w1 28 HO1.out (fun b h1 h2 => (HS.out b).2 (by omega)) ((HS.out _).2 (by omega))).alloc _).alloc _).below hb2)
  have hx2 : w2.cell? ⟨B, 0, none⟩ = some (.slice (some ⟨w1.heap.size, 0, none⟩) 1 1) := oldc hb2 (by rw [hBd]; simp) (by rw [hBd]; simp [go_sem])
  have hf2 : ∀ o, w2.frozen? ⟨B, o, none⟩ = false := fun o => (hb2.frozen (p := ⟨B, o, none⟩) (by show B < _; rw [hBd]; simp)).trans (by rw [hBd]; simp [go_sem])
  have hB2 : Below (w.heap.size + 1) w1 w2 := Below.after bwT hb2 (by simp; omega)
  have s2 : bm < w2.heap.size := by have := hb2.size; simp at this; omega
  clear hb2
  go_wp2_with (refine wpList_sset_ins rfl rfl Try.underlying109 (by rw [hbm]; rfl) hS2 (by unfold maxLen; omega) rfl rfl hk0s ?_; intro w3 hS3 hg3)
  rw [← hbm, ← hBd]
  have hB3 : Below (w.heap.size + 1) w1 w3 := hB2.grown hg3 (by have := hB2.size; omega) (fun k hk => by simp only [Option.some.injEq] at hk; omega)
  have hk3 : ∀ k, k < w2.heap.size → k ≠ bm → w3.heap[k]? = w2.heap[k]? := fun k h1 h2 => hg3.block k h1 (fun e => h2 (Option.some.inj e))
  have HM3 := Lib.hid (hM2.keep fun b h1 h2 => hk3 b h1 ((HS.out b).1 h2).2.2)
  have HS3 := Lib.hid (show SSet w3 bm [idL xs.length].length ([idL xs.length].map keyB) by rw [List.map_cons, List.map_nil, ← HK0.out]; exact hS3)
  have hx3 : w3.cell? ⟨B, 0, none⟩ = some (.slice (some ⟨w1.heap.size, 0, none⟩) 1 1) := (World.cell?_of_block (w := w2) (a := ⟨B, 0, none⟩) (hk3 B (by omega) (by omega))).trans hx2
  have hf3 : ∀ o, w3.frozen? ⟨B, o, none⟩ = false := fun o => (World.frozen?_of_block (w := w2) (a := ⟨B, o, none⟩) (hk3 B (by omega) (by omega))).trans (hf2 o)
  have s3 : bm < w3.heap.size := by have := hg3.size; omega
  have hB13 : B < bm := by omega
  have hw1B : w1.heap.size < B := by omega
  clear hS3 hM2 hS2 hx2 hf2 hk3 hg3 hB2 s2 HO1 hbm hBd
  go_wp2
  go_loopw [4, 5, 9, 11, 12] (fun _ _ s9 _ _ wl => ∃ (i : Nat) (o : Pms) (v : Value), i ≤ o.length ∧ o.length ≤ most ∧ s9 = .int .i64 i ∧ Hid (gLoop (xs, ys) most (most + 2 - i) i o = R) ∧ Hid (GOk xs.length o) ∧ Hid (GX S wl 28 v o) ∧ Hid (SSet wl bm o.length (o.map keyB)) ∧ Below (w.heap.size + 1) w1 wl ∧ bm < wl.heap.size ∧ wl.cell? ⟨B, 0, none⟩ = some v ∧ ∀ o, wl.frozen? ⟨B, o, none⟩ = false) (fun _ _ s9 _ _ _ => most + 2 - (intOf s9).toNat)
  case atStart => exact ⟨0, [idL xs.length], _, Nat.zero_le _, hm.1, rfl, Lib.hid HR.out.symm, Lib.hid (fun q hq => by rw [List.mem_singleton] at hq; subst hq; exact idL_ok _), HM3, HS3, hB3, s3, hx3, hf3⟩
  case round =>
    clear HM3 HS3 hB3 s3 hx3 hf3
    obtain ⟨wl, hwl⟩ : ∃ x : World, x = wr := ⟨_, rfl⟩
    subst hwl
    obtain ⟨i, o, v, hi, ho, rfl, hgl, hok, hM, hSS, hbl, sl, hx, hf⟩ := hrel
    obtain ⟨aom, capm, rfl, -, -⟩ := hM.out.len
    have hbA : Below w.heap.size w wl := hB1.trans (hbl.mono (by omega))
    by_cases hlt2 : i < o.length
    · have hI : (i : Int) < (o.length : Int) := by omega
      obtain ⟨q, hq⟩ : ∃ q, o[i]? = some q := ⟨_, List.getElem?_eq_getElem hlt2⟩
      have HQi := Lib.hid hq
      clear hq
      have d00 := oldc hbl (by omega) c00
      have d01 := oldc hbl (by omega) c01
      go_wp2
      go_loopw [11, 12, 37] (fun _ _ s37 wi => ∃ (j : Nat) (v : Value), j ≤ 2 ∧ s37 = .int .i64 j ∧ Hid (GOk xs.length (gJ (xs, ys) o q j)) ∧ Hid (GX S wi 28 v (gJ (xs, ys) o q j)) ∧ Hid (SSet wi bm (gJ (xs, ys) o q j).length ((gJ (xs, ys) o q j).map keyB)) ∧ Hid (v.ownBlock ≠ some wl.heap.size) ∧ Below (w.heap.size + 1) w1 wi ∧ wl.heap.size < wi.heap.size ∧ wi.cell? ⟨wl.heap.size, 0, none⟩ = some (.slice ao xs.length cap) ∧ wi.cell? ⟨wl.heap.size, 1, none⟩ = some (.slice bo m dap) ∧ wi.cell? ⟨B, 0, none⟩ = some v ∧ ∀ o, wi.frozen? ⟨B, o, none⟩ = false) (fun _ _ s37 _ => 2 - (intOf s37).toNat)
      case atStart =>
        have ab := (show Below wl.heap.size wl (wl.alloc (.cells #[.slice ao xs.length cap, .slice bo m dap] 28)) from bwT)
        refine ⟨0, _, Nat.zero_le _, rfl, hok, Lib.hid (hM.out.alloc _), Lib.hid (hSS.out.below ab), Lib.hid ?_, Below.after hbl ab (by have := hbl.size; omega), by simp, by simp [go_sem], by simp [go_sem], oldc ab (by omega) hx, fun o => (ab.frozen (p := ⟨B, o, none⟩) (by show B < _; omega)).trans (hf o)⟩
        intro e
        have := (hM.out.lt e).1
        omega
      case round =>
        obtain ⟨wi, hwi⟩ : ∃ x : World, x = wr := ⟨_, rfl⟩
        subst hwi
        obtain ⟨j, v, hj2, rfl, hokj, hMj, hSj, hown, hbi, hli, e0, e1, hxi, hfi⟩ := hrel
        have si := hbi.size
        obtain ⟨aon, capn, rfl, -, -⟩ := hMj.out.len
        have HLJ := Lib.hid (gJ_len (xs, ys) o q j)
        by_cases hj : j < 2
        · have hJ : (j : Int) < 2 := by omega
          obtain ⟨ag, ng, cg, gc, hgr⟩ : ∃ ag ng cg, wi.cell? ⟨wl.heap.size, j, none⟩ = some (.slice ag ng cg) ∧ Hid (∃ zz, Rd zz 0 wi.heap.size wi [.slice ag ng cg] (gOf (xs, ys) j)) := by
            have hBi : Below w.heap.size w wi := hB1.trans (hbi.mono (by omega))
            match j, hj with
            | 0, _ => exact ⟨_, _, _, e0, Lib.hid ⟨_, (HP.out.below hBi).all0⟩⟩
            | 1, _ => exact ⟨_, _, _, e1, Lib.hid ⟨_, (HQ.out.below hBi).all0⟩⟩
          have hji := gJ_at (c := (xs, ys)) HQi.out j
          have hil : i < (gJ (xs, ys) o q j).length := (List.getElem?_eq_some_iff.1 hji).1
          have hilI : (i : Int) < ((gJ (xs, ys) o q j).length : Int) := by omega
          obtain ⟨bi, offi, q', vq, e8, hq', cq, hrq, -, -, hbq⟩ := hMj.out.rd.lists_at hil
          subst e8
          have eq' := Option.some.inj (hq'.out.symm.trans hji)
          subst eq'
          obtain ⟨aq, nq, capq, rfl, hnq, -⟩ := hrq.shape
          subst hnq
          have HRQ := Lib.hid hrq
          obtain ⟨zz, hgz⟩ := hgr.out
          have HGZ := Lib.hid hgz
          have hqok := hok.out q' (List.mem_of_getElem? HQi.out)
          have HGO := Lib.hid (show (gOf (xs, ys) j).length = xs.length ∧ InRange xs.length (gOf (xs, ys) j) by
            match j, hj with
            | 0, _ => exact ⟨rfl, HOK.out.2.1⟩
            | 1, _ => exact HOK.out.2.2)
          have HQO := Lib.hid hqok
          have HJS := Lib.hid (gJ_succ (c := (xs, ys)) (o := o) (q := q') hj)
          have HPO := Lib.hid (comp_ok HQO.out HGO.out)
          have hql : q'.length ≤ 1048576 := by rw [hqok.1]; omega
          clear hqok hgr hgz hrq hji hq'
          go_wp2_with (go_at_call 53; refine (composedI_any _ _ _ q' (gOf (xs, ys) j) (HRQ.out.below bwT) (HGZ.out.below bwT) hql (by rw [HGO.out.1]; exact HQO.out.2)).mono ?_)
          rintro e w4 ⟨u4, rfl, how4, hb4⟩
          have s4 := hb4.size
          obtain ⟨p, hp⟩ : ∃ p, p = comp q' (gOf (xs, ys) j) := ⟨_, rfl⟩
          rw [← hp] at how4 HJS HPO
          obtain ⟨a4, n4, cap4, rfl, hn4, -⟩ := how4.rd.shape
          subst hn4
          have HO4 := Lib.hid how4
          obtain ⟨K, hK⟩ : ∃ K, K = keyB p := ⟨_, rfl⟩
          have HK := Lib.hid hK
          have hks : K.size ≤ maxLen := by rw [hK, keyB_size, HPO.out.1]; unfold maxLen; omega
          have HOKJ := Lib.hid (show GOk xs.length (gJ (xs, ys) o q' (j + 1)) by rw [HJS.out]; exact hokj.out.add HPO.out)
          obtain ⟨r, hr⟩ : ∃ r, r = decide (p ∈ gJ (xs, ys) o q' j) := ⟨_, rfl⟩
          have HRD := Lib.hid hr
          have HRK := Lib.hid (show r = decide (K ∈ (gJ (xs, ys) o q' j).map keyB) by
            rw [hr]
            apply decide_eq_decide.2
            rw [hK]
            refine ⟨fun h => List.mem_map_of_mem h, fun h => ?_⟩
            obtain ⟨p', h1, h2⟩ := List.mem_map.1 h
            have := keyB_inj (p := p') (q := p) (fun x hx => by have := (hokj.out p' h1).2 x hx; omega) (fun x hx => by have := HPO.out.2 x hx; omega) h2
            rwa [← this])
          have k0 := oldc hb4 hli e0
          have k1 := oldc hb4 hli e1
          have x4 := oldc hb4 (show B < wi.heap.size by omega) hxi
          have f4 : ∀ o, w4.frozen? ⟨B, o, none⟩ = false := fun o => (hb4.frozen (p := ⟨B, o, none⟩) (by show B < _; omega)).trans (hfi o)
          clear how4 hK hr hp
          go_wp2_with (go_at_call 89; refine (key_any _ _ p (HO4.out.rd.below bwT) (fun x hx => by have := HPO.out.2 x hx; omega) (by rw [HPO.out.1]; omega) K HK.out).mono ?_)
          rintro e w5 ⟨rfl, hb5⟩
          have s5 := hb5.size
          have HS5 := Lib.hid ((hSj.out.below hb4).below hb5)
          have hk5 : ∀ k, k < wi.heap.size → w5.heap[k]? = wi.heap[k]? := fun k h => (hb5.block k (by omega)).trans (hb4.block k h)
          have m0 := oldc hb5 (by omega) k0
          have m1 := oldc hb5 (by omega) k1
          have x5 := oldc hb5 (by omega) x4
          have f5 : ∀ o, w5.frozen? ⟨B, o, none⟩ = false := fun o => (hb5.frozen (p := ⟨B, o, none⟩) (by show B < _; omega)).trans (f4 o)
          have hB5 : Below (w.heap.size + 1) w1 w5 := (hbi.trans (hb4.mono (by omega))).trans (hb5.mono (by omega))
          have HO5 := Lib.hid (HO4.out.below hb5)
          clear HO4 k0 k1 x4 f4 hb5
          cases r
          · have HGA := Lib.hid (show gJ (xs, ys) o q' (j + 1) = gJ (xs, ys) o q' j ++ [p] by rw [HJS.out]; exact if_neg (of_decide_eq_false HRD.out.symm))
            go_wp2_with (at_lookup; refine wpList_sset_lookg (by rfl) rfl Try.underlying109 rfl HS5.out rfl hks false HRK.out ?_)
            refine (key_any _ _ p (HO5.out.rd.below bwT) (fun x hx => by have := HPO.out.2 x hx; omega) (by rw [HPO.out.1]; omega) K HK.out).mono ?_
            rintro e w6 ⟨rfl, hb6⟩
            have s6 := hb6.size
            have HS6 := Lib.hid (HS5.out.below hb6)
            have n0 := oldc hb6 (by omega) m0
            have n1 := oldc hb6 (by omega) m1
            have x6 := oldc hb6 (by omega) x5
            have f6 : ∀ o, w6.frozen? ⟨B, o, none⟩ = false := fun o => (hb6.frozen (p := ⟨B, o, none⟩) (by show B < _; omega)).trans (f5 o)
            have hB6 : Below (w.heap.size + 1) w1 w6 := hB5.trans (hb6.mono (by omega))
            have hk6 : ∀ k, k < wi.heap.size → w6.heap[k]? = wi.heap[k]? := fun k h => (hb6.block k (by omega)).trans (hk5 k h)
            have HO6 := Lib.hid (HO5.out.below hb6)
            clear HS5 HO5 m0 m1 x5 f5 hB5 hk5 hb6
            go_upto_region 13 with (at_mapUpdate; refine wpList_sset_put rfl rfl Try.underlying109 rfl HS6.out (by have := HLJ.out; unfold maxLen; omega) rfl rfl hks ?_; intro w7 hS7 hg7)
            have s7 := hg7.size
            have hk67 : ∀ k, k < w6.heap.size → k ≠ bm → w7.heap[k]? = w6.heap[k]? := fun k h1 h2 => hg7.block k h1 (fun e => h2 (Option.some.inj e))
            have n0 : w7.cell? ⟨wl.heap.size, 0, none⟩ = _ := (World.cell?_of_block (w := w6) (a := ⟨wl.heap.size, 0, none⟩) (hk67 wl.heap.size (by omega) (by omega))).trans n0
            have n1 : w7.cell? ⟨wl.heap.size, 1, none⟩ = _ := (World.cell?_of_block (w := w6) (a := ⟨wl.heap.size, 1, none⟩) (hk67 wl.heap.size (by omega) (by omega))).trans n1
            have x7 : w7.cell? ⟨B, 0, none⟩ = _ := (World.cell?_of_block (w := w6) (a := ⟨B, 0, none⟩) (hk67 B (by omega) (by omega))).trans x6
            have f7 : ∀ o, w7.frozen? ⟨B, o, none⟩ = false := fun o => (World.frozen?_of_block (w := w6) (a := ⟨B, o, none⟩) (hk67 B (by omega) (by omega))).trans (f6 o)
            have hk7 : ∀ k, k < wi.heap.size → k ≠ bm → w7.heap[k]? = wi.heap[k]? := fun k h1 h2 => (hk67 k (by omega) h2).trans (hk6 k h1)
            have hB7 : Below (w.heap.size + 1) w1 w7 := hB6.grown hg7 (by omega) (fun k hk => by simp only [Option.some.injEq] at hk; omega)
            have HO7 := Lib.hid (HO6.out.keep (show Zone wi.heap.size w4.heap.size w6 w7 from fun b h1 h2 => hk67 b (by omega) (by omega)))
            have HS7 := Lib.hid hS7
            have hSge : ∀ b, wi.heap.size ≤ b → S b := fun b h => (HS.out b).2 (by omega)
            clear HS6 HO6 x6 f6 hB6 hk6 hk67 hg7 hS7
            go_wp2_with (at_builtin; refine wpList_push_x (w0 := wi) rfl rfl slInts (by show (0 : Nat) < 1; omega) rfl (ad := ⟨w7.heap.size, 0, none⟩) rfl (cs := [.slice a4 p.length cap4]) (y := p) (lx := wi.heap.size) (hx' := w4.heap.size) (cells_new w7 _ _) hMj.out (Nat.le_refl _) (fun b h1 h2 => (Below.heap_alloc w7 _ b (by omega)).trans (hk7 b h1 ((HS.out b).1 h2).2.2)) (HO7.out.below bwT) (fun b h1 _ => hSge b h1) (hSge _ (by simp; omega)) (by have := HLJ.out; unfold maxLen; omega) (by have := HLJ.out; omega) ?_; intro v8 w8 hG8 hgb8 hv8; rw [← HGA.out] at hG8; obtain ⟨a8, cap8, rfl, -, -⟩ := hG8.len; have s8 : w7.heap.size < w8.heap.size := (by have := hgb8.size; simp at this; omega); have hk8 : ∀ k, k < w7.heap.size → some k ≠ (Value.slice (some ⟨bi, offi, none⟩) (gJ (xs, ys) o q' j).length capn).ownBlock → w8.heap[k]? = w7.heap[k]? := (fun k h1 h2 => (hgb8.block k (by simp; omega) h2).trans (Below.heap_alloc w7 _ k h1)); have hBo : some B ≠ (Value.slice (some ⟨bi, offi, none⟩) (gJ (xs, ys) o q' j).length capn).ownBlock := (fun e => ((HS.out B).1 (hMj.out.lt e.symm).2).2.1 rfl); have x8 : w8.cell? ⟨B, 0, none⟩ = _ := (World.cell?_of_block (w := w7) (a := ⟨B, 0, none⟩) (hk8 B (by omega) hBo)).trans x7; have f8 : ∀ o, w8.frozen? ⟨B, o, none⟩ = false := (fun o => (World.frozen?_of_block (w := w7) (a := ⟨B, o, none⟩) (hk8 B (by omega) hBo)).trans (f7 o)))
            have hk9 : ∀ k, k < w8.heap.size → k ≠ B → (w8.setCell ⟨B, 0, none⟩ (.slice a8 (gJ (xs, ys) o q' (j + 1)).length cap8)).heap[k]? = w8.heap[k]? := fun k _ h => Below.heap_setCell w8 ⟨B, 0, none⟩ _ k (by first | exact h | exact Ne.symm h)
            have hwo : some wl.heap.size ≠ (Value.slice (some ⟨bi, offi, none⟩) (gJ (xs, ys) o q' j).length capn).ownBlock := fun e => hown.out e.symm
            have hbo : some bm ≠ (Value.slice (some ⟨bi, offi, none⟩) (gJ (xs, ys) o q' j).length capn).ownBlock := fun e => ((HS.out bm).1 (hMj.out.lt e.symm).2).2.2 rfl
            have HM9 := Lib.hid (hG8.keep fun b h1 h2 => hk9 b h1 ((HS.out b).1 h2).2.1)
            have HS9 := Lib.hid (show SSet (w8.setCell ⟨B, 0, none⟩ (.slice a8 (gJ (xs, ys) o q' (j + 1)).length cap8)) bm (gJ (xs, ys) o q' (j + 1)).length ((gJ (xs, ys) o q' (j + 1)).map keyB) by
              rw [HGA.out, List.length_append, List.map_append]
              refine (HS7.out.keepb ?_).perm fun s => ?_
              · have := (hk9 bm (by omega) (by omega)).trans (hk8 bm (by omega) hbo)
                rw [HGA.out, List.length_append] at this; exact this
              · rw [HK.out]; simp [or_comm])
            have HW9 := Lib.hid (show (Value.slice a8 (gJ (xs, ys) o q' (j + 1)).length cap8).ownBlock ≠ some wl.heap.size from fun e => by
              rcases hv8 with h | h
              · exact hwo (e.symm.trans h)
              · rw [h] at e; simp at e; omega)
            have hB9 := Below.setCell ((hB7.alloc (by omega) (.cells #[.slice a4 p.length cap4] 28)).grown hgb8 (by simp; omega) (fun k hk => ((HS.out k).1 (hMj.out.lt hk).2).1)) (p := ⟨B, 0, none⟩) (by show w.heap.size + 1 ≤ B; omega) (.slice a8 (gJ (xs, ys) o q' (j + 1)).length cap8)
            have i0 : (w8.setCell ⟨B, 0, none⟩ (.slice a8 (gJ (xs, ys) o q' (j + 1)).length cap8)).cell? ⟨wl.heap.size, 0, none⟩ = _ := (World.cell?_of_block (w := w7) (a := ⟨wl.heap.size, 0, none⟩) ((hk9 wl.heap.size (by omega) (by omega)).trans (hk8 wl.heap.size (by omega) hwo))).trans n0
            have i1 : (w8.setCell ⟨B, 0, none⟩ (.slice a8 (gJ (xs, ys) o q' (j + 1)).length cap8)).cell? ⟨wl.heap.size, 1, none⟩ = _ := (World.cell?_of_block (w := w7) (a := ⟨wl.heap.size, 1, none⟩) ((hk9 wl.heap.size (by omega) (by omega)).trans (hk8 wl.heap.size (by omega) hwo))).trans n1
            have y9 : (w8.setCell ⟨B, 0, none⟩ (.slice a8 (gJ (xs, ys) o q' (j + 1)).length cap8)).cell? ⟨B, 0, none⟩ = some (.slice a8 (gJ (xs, ys) o q' (j + 1)).length cap8) := by have := cell_setCell w8 B 0 0 (.slice a8 (gJ (xs, ys) o q' (j + 1)).length cap8) _ x8; simpa using this
            have f9 := fun o2 => frozen_setCell w8 B 0 o2 (.slice a8 (gJ (xs, ys) o q' (j + 1)).length cap8) (f8 o2)
            go_roundw
            case rel => exact ⟨j + 1, _, by omega, by go_num, HOKJ, HM9, HS9, HW9, hB9, by simp; omega, i0, i1, y9, f9⟩
            case measure => simp [intOf]; omega
          · have HGA := Lib.hid (show gJ (xs, ys) o q' (j + 1) = gJ (xs, ys) o q' j by rw [HJS.out]; exact if_pos (of_decide_eq_true HRD.out.symm))
            go_wp2_with (at_lookup; refine wpList_sset_lookg (by rfl) rfl Try.underlying109 rfl HS5.out rfl hks true HRK.out ?_)
            go_roundw
            case rel => exact ⟨j + 1, _, by omega, by go_num, HOKJ, Lib.hid (by rw [HGA.out]; exact hMj.out.keep fun b h1 _ => hk5 b h1), Lib.hid (by rw [HGA.out]; exact HS5.out), hown, hB5, by omega, m0, m1, x5, f5⟩
            case measure => simp [intOf]; omega
        · obtain rfl : j = 2 := by omega
          clear hj hj2
          have hbW : Below w.heap.size w wi := hB1.trans (hbi.mono (by omega))
          by_cases hbig : most < (gRound (xs, ys) o q).length
          · have hbI : (most : Int) < ((gJ (xs, ys) o q 2).length : Int) := by have : (gJ (xs, ys) o q 2).length = (gRound (xs, ys) o q).length := rfl; omega
            have HRn := Lib.hid (show R = none by
              rw [← hgl.out]
              obtain ⟨f, hf⟩ : ∃ f, most + 2 - i = f + 1 := ⟨most + 1 - i, by omega⟩
              rw [hf]
              exact gLoop_big HQi.out hbig)
            clear hgl hMj hSj hokj hbig
            go_wp2
            go_ret2
            exact ⟨hbW, by rw [HRn.out]; exact rfl⟩
          · have hbI : ¬ (most : Int) < ((gJ (xs, ys) o q 2).length : Int) := by have : (gJ (xs, ys) o q 2).length = (gRound (xs, ys) o q).length := rfl; omega
            have HGL := Lib.hid (show gLoop (xs, ys) most (most + 2 - (i + 1)) (i + 1) (gJ (xs, ys) o q 2) = R by
              rw [← hgl.out]
              obtain ⟨f, hf⟩ : ∃ f, most + 2 - i = f + 1 := ⟨most + 1 - i, by omega⟩
              rw [hf, gLoop_go HQi.out hbig, show most + 2 - (i + 1) = f by omega]
              rfl)
            have HLE := Lib.hid (show i + 1 ≤ (gJ (xs, ys) o q 2).length ∧ (gJ (xs, ys) o q 2).length ≤ most by
              have h1 := (gRound_len (xs, ys) o q).1
              have h2 : (gJ (xs, ys) o q 2).length = (gRound (xs, ys) o q).length := rfl
              omega)
            clear hgl hbig hM hSS hok
            go_wp2
            go_roundw
            case rel => exact ⟨i + 1, gJ (xs, ys) o q 2, _, HLE.out.1, HLE.out.2, by go_num, HGL, hokj, hMj, hSj, hbi, by omega, hxi, hfi⟩
            case measure => simp [intOf]; have := HLE.out; omega
    · obtain rfl : i = o.length := by omega
      have nI : ¬ (o.length : Int) < (o.length : Int) := by omega
      have HRs := Lib.hid (show R = some o by
        rw [← hgl.out]
        obtain ⟨f, hf⟩ : ∃ f, most + 2 - o.length = f + 1 := ⟨most + 1 - o.length, by omega⟩
        rw [hf]
        exact gLoop_none (List.getElem?_eq_none (Nat.le_refl _)))
      have hBo : some B ≠ (Value.slice aom o.length capm).ownBlock := fun e => ((HS.out B).1 (hM.out.lt e.symm).2).2.1 rfl
      have hge : ∀ b ∈ (Value.slice aom o.length capm).ownBlock.toList, w.heap.size + 1 ≤ b := fun b hb => ((HS.out b).1 (hM.out.lt (Option.mem_toList.1 hb)).2).1
      have HOW := Lib.hid (hM.out.ow (lo := w.heap.size) (hi := wl.heap.size) fun b h1 h2 => ⟨by have := (HS.out b).1 h2; omega, h1⟩)
      clear hgl hM hok hSS
      go_wp2_with (go_at_call 42; refine (sortG_any _ B _ o hx (by omega) hBo HOW.out (by omega)).mono ?_)
      rintro e w4 ⟨rfl, l, hl1, hl2, how, hoff⟩
      obtain rfl : l = lsrt o := asc_eq (hl1.trans (lsrt_perm o).symm) (asc_of hl2) (lsrt_asc o)
      have hx4 : w4.cell? ⟨B, 0, none⟩ = _ := (World.cell?_of_block (w := wl) (a := ⟨B, 0, none⟩) (hoff.block B (by omega) (fun h => hBo (Option.mem_toList.1 h).symm))).trans hx
      have hB4 : Below w.heap.size w w4 := hbA.trans (hoff.toBelow hbA.size fun b hb => by have := hge b hb; omega)
      have HO4 := Lib.hid how.top
      clear how hoff hl1 hl2
      go_wp2
      go_ret2
      refine ⟨hB4, ?_⟩
      rw [HRs.out]
      exact ⟨_, rfl, HO4.out⟩
end Go.Proofs.Ytlnhhfebmeekhaa
