/- Texts laid one behind the other (merge.py): TypsI, Sub, AllwI, AllwL, TTabI, TypsS, TTabS. -/
import Derived.Test.YtcbhdmmohdnjbaaGreatBase
import Derived.Test.YtcbhdmmohdnjbaaGreatTrmB
import Derived.Test.YtcbhdmmohdnjbaaGreatTypS
namespace Go.Proofs.YtcbhdmmohdnjbaaGreat
set_option linter.unusedVariables false
set_option linter.unusedSimpArgs false
open Go.RowKit
set_option maxHeartbeats 100000000
theorem lit_kin {w : World} {e : Int} (he : I64 e) (E : TypeId) : Rd false 0 (w.heap.size + 1) (w.alloc (.cells #[.int .i64 e, .slice none 0 0] E)) [.slice (some ⟨w.heap.size, 0, none⟩) 1 1] ([(e, [])] : List Kin) := by
 refine ⟨[w.heap.size], ⟨_, rfl, some ⟨w.heap.size, 0, none⟩, 1, 1, rfl, rfl, Nat.le_refl _, by simp [maxLen], (fun h => by cases h), .inr ⟨w.heap.size, 0, [[.int .i64 e, .slice none 0 0]], [[]], rfl, by simp, rfl, ⟨repKin_mk he ⟨_, rfl, none, 0, 0, rfl, rfl, Nat.le_refl _, by simp [maxLen], fun _ => rfl, .inl ⟨rfl, rfl⟩⟩, trivial⟩, fun j c hj => ?_, fun h => by cases h⟩⟩, fun b hb => ?_⟩
 ·match j, hj with
  | 0, hj => simp at hj; subst hj; simp [go_sem]
  | 1, hj => simp at hj; subst hj; simp [go_sem]
 ·simp at hb; omega
theorem GL.own_lo {α : Type} [Rep α] {nd : Bool} {lo lo' hi : Nat} {w : World} {E : TypeId} {v : Value} {xs : List α} (h : GL nd lo lo' hi w E v xs) {g : Nat} (e : v.ownBlock = some g) : lo ≤ g := by
 obtain ⟨css, fps, ho, _⟩ := h
 exact (ho.lt g e).1
theorem GL.own_hi {α : Type} [Rep α] {nd : Bool} {lo lo' hi : Nat} {w : World} {E : TypeId} {v : Value} {xs : List α} (h : GL nd lo lo' hi w E v xs) {g : Nat} (e : v.ownBlock = some g) : g < hi := by
 obtain ⟨css, fps, ho, hz, hf, hg, _⟩ := h
 exact hg g e
theorem GL.own_at {α : Type} [FlatRep α] {lo lo' hi : Nat} {w : World} {E : TypeId} {g n cap : Nat} {xs : List α} (h : GL true lo lo' hi w E (.slice (some ⟨g, 0, none⟩) n cap) xs) : Ow g (g + 1) w [.slice (some ⟨g, 0, none⟩) n cap] xs := by
 obtain ⟨css, fps, ho, hz, hf, hgg, hnd⟩ := h
 obtain ⟨hfl, hall⟩ := flats hz
 refine GL.ow (lo := g) (lo' := g) (hi := g + 1) (E := E) ⟨css, fps, ⟨ho.1, ?_⟩, hz, (fun b (hb : b ∈ fps.flatten) => by rw [hfl] at hb; cases hb), (fun k hk => by simp [Value.ownBlock] at hk; omega), hnd⟩ (Nat.le_refl _) (Nat.le_refl _)
 rcases ho.2 with ⟨e, _⟩ | ⟨g', cap', cur, e, hb, hh, r⟩
 ·cases e
 ·simp only [Value.slice.injEq, Option.some.injEq, Addr.mk.injEq, and_true, true_and] at e
  obtain ⟨rfl, e1, rfl⟩ := e
  exact .inr ⟨g, cap, cur, by rw [e1], Nat.le_refl _, hh, r⟩
theorem GL.own_ne {α : Type} [Rep α] {nd : Bool} {lo lo' hi : Nat} {w : World} {E : TypeId} {v : Value} {xs : List α} (h : GL nd lo lo' hi w E v xs) : v.ownBlock ≠ some w.heap.size := fun e => by
 obtain ⟨css, fps, ho, _⟩ := h
 have := (ho.lt _ e).2
 omega
set_option maxRecDepth 20000 in
theorem typesFromI_1 (w : World) (N : Nat) (hN1 : 1 ≤ N) (hN3 : N ≤ 3) : Calls Tryz.prog 66 #[.int .i64 (1 : Int), .int .i64 N] w (PostOw w (outT (1 : Int) N)) := by
 obtain ⟨ego, hego⟩ : ∃ e : Int, e = (1 : Int) := ⟨_, rfl⟩
 have he : ego = 1 ∨ ego = 2 := by omega
 have HOK := Hd (show ∀ k, k ≤ 8 → ∀ t ∈ lastT ego k, TOk ego k t from lastT_ok he)
 have HLL := Hd (show ∀ k, k ≤ 3 → (lastT ego k).length ≤ 512 from fun k hk => by
  have := lastT_len ego k
  have h2 : 8 ^ k ≤ 8 ^ 3 := Nat.pow_le_pow_right omT hk
  omega)
 have HLO := Hd (show ∀ k, k ≤ 3 → (outT ego k).length ≤ 4096 from fun k hk => by
  have h1 := lastT_len ego (0 + 1)
  have h2 := lastT_len ego (1 + 1)
  have h3 := lastT_len ego (2 + 1)
  obtain rfl | rfl | rfl | rfl : k = 0 ∨ k = 1 ∨ k = 2 ∨ k = 3 := by omega
  all_goals simp only [outT, List.length_append, List.length_nil]; omega)
 have hNI1 : ¬ (N : Int) < 1 := by omega
 have hNI3 : ¬ (3 : Int) < (N : Int) := by omega
 have hE64 : I64 ego := by unfold I64; omega
 have HE := Hd hE64
 clear hE64 he
 subst hego
 go_enter Tryz.func66, Tryz.ntmps66
 have hlast := Hd (lit_kin (w := w) HE.out 68)
 go_wp2
 go_loopw [5, 6, 30] (fun s5 s6 s30 wr => ∃ k : Nat, k ≤ N ∧ s30 = .int .i64 k ∧ Hid (GL true w.heap.size w.heap.size wr.heap.size wr 68 s5 (outT (1 : Int) k)) ∧ (∃ ao cap, s6 = .slice ao (lastT (1 : Int) k).length cap) ∧ Hid (Rd false 0 wr.heap.size wr [s6] (lastT (1 : Int) k)) ∧ Below w.heap.size w wr) (fun _ _ s30 _ => N - (intOf s30).toNat)
 case atStart => exact ⟨0, Nat.zero_le _, rfl, Hd (GL.start _ _ _ _ _ _), ⟨_, _, rfl⟩, Hd hlast.out.all, bwT⟩
 case round =>
  clear hlast
  obtain ⟨wb, hwb⟩ : ∃ wm : World, wm = wr := ⟨_, rfl⟩
  subst hwb
  obtain ⟨k, hk, rfl, hG, ⟨la, lc, rfl⟩, hL, hbb⟩ := hrel
  have sB := hbb.size
  by_cases hlt : k < N
  ·have hI : (k : Int) < (N : Int) := by omega
   obtain ⟨A, hA⟩ : ∃ A, A = lastT (1 : Int) k := ⟨_, rfl⟩
   rw [← hA] at hL
   rw [← hA]
   have HA := Hd hA
   have hA512 : A.length ≤ 512 := by rw [hA]; exact HLL.out k omT
   have HAK := Hd (show ∀ t ∈ A, isKin t = true ∧ t.2.length < 8 from fun t ht => by
    have := HOK.out k omT t (by rw [← HA.out]; exact ht)
    exact ⟨this.kin, by have := this.len; omega⟩)
   clear hA
   go_wp2
   go_loopw [7, 9, 10, 11, 34] (fun s7 _ _ _ s34 wr => ∃ i : Nat, i ≤ A.length ∧ s34 = .int .i64 i ∧ Hid (GL true wb.heap.size wb.heap.size wr.heap.size wr 68 s7 ((A.take i).flatMap more)) ∧ Below wb.heap.size wb wr) (fun _ _ _ _ s34 _ => A.length - (intOf s34).toNat)
   case atStart => exact ⟨0, Nat.zero_le _, rfl, Hd (GL.start _ _ _ _ _ _), Below.refl _ _⟩
   case round =>
    obtain ⟨wc, hwc⟩ : ∃ wm : World, wm = wr := ⟨_, rfl⟩
    subst hwc
    obtain ⟨i, hi1, rfl, hM, hcc⟩ := hrel
    have sC := hcc.size
    by_cases hli : i < A.length
    ·have hIi : (i : Int) < (A.length : Int) := by omega
     obtain ⟨tb, toff, t, tv, rfl, ht, c0, c1, ti, ht2, htk, -, -, tbl⟩ := (hL.out.below hcc).kin_at hli
     obtain ⟨tao, tn, tcap, rfl, htn, htc, htm, -⟩ := ht2.shape
     subst htn
     obtain ⟨htk1, ht8⟩ := HAK.out t (List.mem_of_getElem? ht.out)
     have HTK := Hd htk1
     have HT := Hd (show (A.take (i + 1)).flatMap more = (A.take i).flatMap more ++ moreTo t 8 by rw [take_snoc ht.out, List.flatMap_append]; simp [more])
     have HLE := Hd (show ((A.take i).flatMap more).length ≤ 4096 from by have := flat_more_len (A.take i); rw [List.length_take] at this; omega)
     have hZ := Hd (htk.keep (w' := wb) (fun b _ h2 => (hcc.block b h2).symm))
     have HTI := Hd ti
     have HM0 := Hd (show GL true wb.heap.size wb.heap.size (wc.alloc (.cells #[.int .i64 t.1, .slice tao t.2.length tcap] 68)).heap.size (wc.alloc (.cells #[.int .i64 t.1, .slice tao t.2.length tcap] 68)) 68 _ ((A.take i).flatMap more ++ moreTo t 0) by rw [show moreTo t 0 = [] from rfl, List.append_nil]; exact (hM.out.alloc _).top)
     have hown := Hd (GL.own_ne hM.out)
     clear ht ht2 htk htk1 ti hM
     unfold maxLen at htm
     go_wp2
     go_loopw [7, 10, 11] (fun s7 s10 _ wr => ∃ (j : Nat) (kv : Int), j ≤ 8 ∧ kv = (j : Int) + 1 ∧ s10 = .int .i64 kv ∧ Hid (GL true wb.heap.size wb.heap.size wr.heap.size wr 68 s7 ((A.take i).flatMap more ++ moreTo t j)) ∧ Hid (s7.ownBlock ≠ some wc.heap.size) ∧ wr.cell? ⟨wc.heap.size, 0, none⟩ = some (.int .i64 t.1) ∧ wr.cell? ⟨wc.heap.size, 1, none⟩ = some (.slice tao t.2.length tcap) ∧ wc.heap.size < wr.heap.size ∧ Below wb.heap.size wb wr) (fun _ s10 _ _ => 9 - (intOf s10).toNat)
     case atStart => exact ⟨0, 1, by omega, rfl, rfl, HM0, hown, by simp [go_sem], by simp [go_sem], by simp, hcc.alloc sC _⟩
     case round =>
      clear HM0 hown hcc
      obtain ⟨we, hwe⟩ : ∃ wm : World, wm = wr := ⟨_, rfl⟩
      subst hwe
      obtain ⟨j, kv, hj1, hkv, rfl, hM, hown, q_t0, q_t1, lTB, hee⟩ := hrel
      have sE := hee.size
      by_cases hlj : j < 8
      ·have hk8 : kv ≤ 8 := by omega
       have hk1 : 1 ≤ kv := by omega
       have HKV := Hd hkv
       clear hkv
       obtain ⟨sx, hlet_sx⟩ : ∃ r, r = sexOf t := ⟨_, rfl⟩
       have HS := Hd hlet_sx
       clear hlet_sx
       obtain ⟨r1, hlet_r1⟩ : ∃ r, r = stFits (kv, 0) sx := ⟨_, rfl⟩
       have HF := Hd hlet_r1
       clear hlet_r1
       go_wp2_with fail
       refine (sexOfI_any _ _ _ t (hZ.out.below hee) HTK.out sx HS.out).mono ?_
       rintro e w1 ⟨rfl, hb1⟩
       have hee1 : Below wb.heap.size wb w1 := hee.trans (hb1.mono sE)
       have hM1 := Hd (hM.out.below hb1)
       have q_t0 := oldc hb1 lTB q_t0
       have q_t1 := oldc hb1 lTB q_t1
       have s1 := hb1.size
       clear hb1 hM hee
       go_wp2_with fail
       refine (stepFitsI_b _ kv 0 sx r1 HF.out).mono ?_
       rintro e w2 ⟨rfl, hb2⟩
       have s2 := hb2.size
       have hee2 : Below wb.heap.size wb w2 := hee1.trans (hb2.mono omT)
       have hM2 := Hd (hM1.out.below hb2)
       have q_t0 := oldc hb2 omT q_t0
       have q_t1 := oldc hb2 omT q_t1
       have hKS := Hd (show moreTo t (j + 1) = moreTo t j ++ (if r1 = true then [(t.1, t.2 ++ [(kv, 0)])] else []) by rw [moreTo_succ, ← HKV.out, kinMore, ← HS.out, ← HF.out])
       have hkvn := Hd (show kv + 1 = ((j + 1 : Nat) : Int) + 1 by have := HKV.out; omega)
       have lTB2 : wc.heap.size < w2.heap.size := by omega
       clear hb2 hM1 hee1 HF HS HKV
       cases r1
       ·have HN := Hd (show GL true wb.heap.size wb.heap.size w2.heap.size w2 68 _ ((A.take i).flatMap more ++ moreTo t (j + 1)) by rw [hKS.out]; simpa using hM2.out.top)
        clear hM2 hKS
        go_wp2
        go_roundw
        case rel => exact ⟨j + 1, kv + 1, by omega, hkvn.out, rfl, HN, hown, q_t0, q_t1, lTB2, hee2⟩
        case measure => simp [intOf]; omega
       ·have hll : ((A.take i).flatMap more ++ moreTo t j).length ≤ 4200 := by rw [List.length_append]; have := HLE.out; have := moreTo_len t j; omega
        go_wp2_with fail
        refine (copyTypeI_any _ _ _ t (hZ.out.below hee2) omT).mono ?_
        rintro e w3 ⟨us, rfl, hgs, hb3⟩
        obtain ⟨uao, ucap, rfl, hu1, hu2⟩ := hgs.len
        have s3 := hb3.size
        have hown3 := Hd (GL.own_ne hgs)
        go_wp2_with (at_builtin; refine wpList_push_at rfl rfl slStep (by show (0 : Nat) < 2; omega) ((hgs.alloc _).alloc _) rfl (ad := ⟨w3.heap.size + 1, 0, none⟩) rfl (cs := [.int .i64 kv, .int .i64 0]) (y := ((kv, 0) : Stp)) (lx := w3.heap.size + 2) (hx' := w3.heap.size + 2) ?k1 (It.flat (z := true) (w0 := w3) (fp := []) (repStp_mk ⟨by omega, by omega⟩ ⟨by omega, by omega⟩)) omT (.inl omT) mxT omT ?k2 ?_)
        case k1 =>
         intro j c hj
         match j, hj with
         | 0, hj => simp at hj; subst hj; simp [Addr.add]
         | 1, hj => simp at hj; subst hj; simp [Addr.add, go_sem]
        case k2 => simp; omega
        intro g4 cap4 w4 hG4 hg4 hb4 hat4
        have s4 := hg4.size
        simp only [World.size_alloc] at s4 hat4
        have hg4lo : w2.heap.size ≤ g4 := GL.own_lo hG4 rfl
        have hg4hi : g4 < w4.heap.size := GL.own_hi hG4 rfl
        have hg4n : ¬ g4 = w3.heap.size := by
         rcases hat4 with h | h
         ·intro e; subst e; exact hown3.out h
         ·omega
        have ku : w4.heap[w3.heap.size]? = some (.cells #[.int .i64 t.1, .slice uao t.2.length ucap] 68 (0, 0)) := (hg4.block _ soT (fun e => hown3.out e.symm)).trans ((Below.heap_alloc _ _ _ spT).trans (heap_alloc_new w3 _))
        have q_u0 : w4.cell? ⟨w3.heap.size, 0, none⟩ = some (.int .i64 t.1) := by unfold World.cell?; simp [ku]
        have q_u1 : w4.cell? ⟨w3.heap.size, 1, none⟩ = some (.slice uao t.2.length ucap) := by unfold World.cell?; simp [ku]
        have f_u : ∀ o, w4.frozen? ⟨w3.heap.size, o, none⟩ = false := fun o => by simp [World.frozen?, ku]
        have hI4 := Hd (Ow.it (Ow.kin_mk HTI.out (GL.own_at hG4)))
        have hbW4 : Below w2.heap.size w2 w4 := Below.trans (show Below w2.heap.size w2 _ from (hb3.alloc omT _).alloc soT _) hb4
        clear hgs hG4 hg4 hb4 hb3 ku hown3
        go_wp2_with (at_builtin; refine wpList_push_at rfl rfl slKin (by show (0 : Nat) < 2; omega) (hM2.out.below ?k3) rfl (ad := ⟨w4.heap.size, 0, none⟩) rfl (cs := [.int .i64 t.1, .slice (some ⟨g4, 0, none⟩) (t.2.length + 1) cap4]) (y := ((t.1, t.2 ++ [(kv, 0)]) : Kin)) (lx := g4) (hx' := g4 + 1) ?k4 (hI4.out.keep ?k5) omT (.inl omT) mxT omT ?k6 ?_)
        case k3 => exact bwT
        case k4 =>
         intro j c hj
         match j, hj with
         | 0, hj => simp at hj; subst hj; simp [Addr.add, go_sem]
         | 1, hj => simp at hj; subst hj; simp [Addr.add, go_sem]
        case k5 => exact Zone.alloc (Zone.setCell (Zone.refl _ _ _) (by show w3.heap.size < g4 ∨ g4 + 1 ≤ w3.heap.size; omega) _) soT _
        case k6 => simp; omega
        intro g6 cap6 w6 hG6 hg6 hb6 hat6
        have hbW : Below w2.heap.size w2 ((w4.setCell ⟨w3.heap.size, 1, none⟩ (.slice (some ⟨g4, 0, none⟩) (t.2.length + 1) cap4)).alloc (.cells #[.int .i64 t.1, .slice (some ⟨g4, 0, none⟩) (t.2.length + 1) cap4] 68)) := bwT
        have s6 := hg6.size
        simp only [World.size_alloc, World.size_setCell] at s6 hat6
        have kT : w6.heap[wc.heap.size]? = w2.heap[wc.heap.size]? := (hg6.block _ soT (fun e => hown.out e.symm)).trans (hbW.block _ lTB2)
        have q_t0 := (World.cell?_of_block (a := ⟨wc.heap.size, 0, none⟩) kT).trans q_t0
        have q_t1 := (World.cell?_of_block (a := ⟨wc.heap.size, 1, none⟩) kT).trans q_t1
        have hg6n : ¬ g6 = wc.heap.size := by
         rcases hat6 with h | h
         ·intro e; subst e; exact hown.out h
         ·omega
        have hKS2 : (A.take i).flatMap more ++ moreTo t (j + 1) = (A.take i).flatMap more ++ (moreTo t j ++ [(t.1, t.2 ++ [(kv, 0)])]) := by rw [hKS.out]; simp
        have HN := Hd hG6
        rw [← hKS2] at HN
        have hee6 : Below wb.heap.size wb w6 := Below.trans (hee2.trans (hbW.mono omT)) hb6
        clear hKS2 hG6 hg6 hb6 hat6 kT hbW hI4 hM2 hKS hown q_u0 q_u1 f_u hbW4
        go_wp2
        go_roundw
        case rel => exact ⟨j + 1, kv + 1, by omega, hkvn.out, rfl, HN, Hd (fun e => by simp [Value.ownBlock] at e; exact hg6n e), q_t0, q_t1, by omega, hee6⟩
        case measure => simp [intOf]; omega
      ·obtain rfl : j = 8 := by omega
       have hk8 : ¬ kv ≤ 8 := by omega
       have HN := Hd (show GL true wb.heap.size wb.heap.size we.heap.size we 68 _ ((A.take (i + 1)).flatMap more) by rw [HT.out]; exact hM.out)
       clear hM hown HT
       go_wp2
       go_roundw
       case rel => exact ⟨i + 1, by omega, by go_num, HN, hee⟩
       case measure => simp [intOf]; omega
    ·obtain rfl : i = A.length := by omega
     have nIi : ¬ (A.length : Int) < (A.length : Int) := by omega
     have hLS : lastT (1 : Int) (k + 1) = (A.take A.length).flatMap more := by rw [List.take_length, lastT, ← HA.out]
     have HM := hM.out
     rw [← hLS] at HM
     obtain ⟨nao, ncap, rfl, hn1, hn2⟩ := HM.len
     have HM := Hd HM
     clear hLS
     have hGc := Hd (hG.out.below hcc)
     have hoh := Hd (fun (g : Nat) e => GL.own_hi hG.out (g := g) e)
     have hlo := HLO.out k omT
     have hll := HLL.out (k + 1) omT
     clear hM hL
     go_wp2_with (at_builtin; refine wpList_spread rfl rfl slKin (by show (0 : Nat) < 2; omega) hGc.out rfl rfl (GL.it (l0 := wb.heap.size) HM.out (Nat.le_refl _) (Nat.le_refl _)) omT (.inl (Nat.le_refl _)) mxT omT omT ?_)
     intro v7 w7 hG7 hg7 hb7
     have hL7 := Hd (((HM.out.rd (l0 := wb.heap.size) (Nat.le_refl _) (Nat.le_refl _)).weak.keep (Zone.grown (Zone.refl _ _ _) hg7 (Nat.le_refl _) (fun k' e => .inl (hoh.out k' e)))).all)
     have HG7 := Hd hG7
     have hb7' : Below w.heap.size w w7 := Below.trans (hbb.trans (hcc.mono sB)) hb7
     clear hG hGc hG7 hg7 hb7 HM hoh hn1 hn2
     go_wp2
     go_roundw
     case rel => exact ⟨k + 1, by omega, by go_num, HG7, ⟨nao, ncap, rfl⟩, hL7, hb7'⟩
     case measure => simp [intOf]; omega
  ·obtain rfl : k = N := by omega
   have nI : ¬ (k : Int) < (k : Int) := by omega
   have HW := Hd (hG.out.ow (l0 := w.heap.size) (Nat.le_refl _) (Nat.le_refl _))
   clear hG hL
   go_wp2
   go_ret
   exact ⟨_, rfl, HW.out, hbb⟩
set_option maxRecDepth 20000 in
theorem typesFromI_2 (w : World) (N : Nat) (hN1 : 1 ≤ N) (hN3 : N ≤ 3) : Calls Tryz.prog 66 #[.int .i64 (2 : Int), .int .i64 N] w (PostOw w (outT (2 : Int) N)) := by
 obtain ⟨ego, hego⟩ : ∃ e : Int, e = (2 : Int) := ⟨_, rfl⟩
 have he : ego = 1 ∨ ego = 2 := by omega
 have HOK := Hd (show ∀ k, k ≤ 8 → ∀ t ∈ lastT ego k, TOk ego k t from lastT_ok he)
 have HLL := Hd (show ∀ k, k ≤ 3 → (lastT ego k).length ≤ 512 from fun k hk => by
  have := lastT_len ego k
  have h2 : 8 ^ k ≤ 8 ^ 3 := Nat.pow_le_pow_right omT hk
  omega)
 have HLO := Hd (show ∀ k, k ≤ 3 → (outT ego k).length ≤ 4096 from fun k hk => by
  have h1 := lastT_len ego (0 + 1)
  have h2 := lastT_len ego (1 + 1)
  have h3 := lastT_len ego (2 + 1)
  obtain rfl | rfl | rfl | rfl : k = 0 ∨ k = 1 ∨ k = 2 ∨ k = 3 := by omega
  all_goals simp only [outT, List.length_append, List.length_nil]; omega)
 have hNI1 : ¬ (N : Int) < 1 := by omega
 have hNI3 : ¬ (3 : Int) < (N : Int) := by omega
 have hE64 : I64 ego := by unfold I64; omega
 have HE := Hd hE64
 clear hE64 he
 subst hego
 go_enter Tryz.func66, Tryz.ntmps66
 have hlast := Hd (lit_kin (w := w) HE.out 68)
 go_wp2
 go_loopw [5, 6, 30] (fun s5 s6 s30 wr => ∃ k : Nat, k ≤ N ∧ s30 = .int .i64 k ∧ Hid (GL true w.heap.size w.heap.size wr.heap.size wr 68 s5 (outT (2 : Int) k)) ∧ (∃ ao cap, s6 = .slice ao (lastT (2 : Int) k).length cap) ∧ Hid (Rd false 0 wr.heap.size wr [s6] (lastT (2 : Int) k)) ∧ Below w.heap.size w wr) (fun _ _ s30 _ => N - (intOf s30).toNat)
 case atStart => exact ⟨0, Nat.zero_le _, rfl, Hd (GL.start _ _ _ _ _ _), ⟨_, _, rfl⟩, Hd hlast.out.all, bwT⟩
 case round =>
  clear hlast
  obtain ⟨wb, hwb⟩ : ∃ wm : World, wm = wr := ⟨_, rfl⟩
  subst hwb
  obtain ⟨k, hk, rfl, hG, ⟨la, lc, rfl⟩, hL, hbb⟩ := hrel
  have sB := hbb.size
  by_cases hlt : k < N
  ·have hI : (k : Int) < (N : Int) := by omega
   obtain ⟨A, hA⟩ : ∃ A, A = lastT (2 : Int) k := ⟨_, rfl⟩
   rw [← hA] at hL
   rw [← hA]
   have HA := Hd hA
   have hA512 : A.length ≤ 512 := by rw [hA]; exact HLL.out k omT
   have HAK := Hd (show ∀ t ∈ A, isKin t = true ∧ t.2.length < 8 from fun t ht => by
    have := HOK.out k omT t (by rw [← HA.out]; exact ht)
    exact ⟨this.kin, by have := this.len; omega⟩)
   clear hA
   go_wp2
   go_loopw [7, 9, 10, 11, 34] (fun s7 _ _ _ s34 wr => ∃ i : Nat, i ≤ A.length ∧ s34 = .int .i64 i ∧ Hid (GL true wb.heap.size wb.heap.size wr.heap.size wr 68 s7 ((A.take i).flatMap more)) ∧ Below wb.heap.size wb wr) (fun _ _ _ _ s34 _ => A.length - (intOf s34).toNat)
   case atStart => exact ⟨0, Nat.zero_le _, rfl, Hd (GL.start _ _ _ _ _ _), Below.refl _ _⟩
   case round =>
    obtain ⟨wc, hwc⟩ : ∃ wm : World, wm = wr := ⟨_, rfl⟩
    subst hwc
    obtain ⟨i, hi1, rfl, hM, hcc⟩ := hrel
    have sC := hcc.size
    by_cases hli : i < A.length
    ·have hIi : (i : Int) < (A.length : Int) := by omega
     obtain ⟨tb, toff, t, tv, rfl, ht, c0, c1, ti, ht2, htk, -, -, tbl⟩ := (hL.out.below hcc).kin_at hli
     obtain ⟨tao, tn, tcap, rfl, htn, htc, htm, -⟩ := ht2.shape
     subst htn
     obtain ⟨htk1, ht8⟩ := HAK.out t (List.mem_of_getElem? ht.out)
     have HTK := Hd htk1
     have HT := Hd (show (A.take (i + 1)).flatMap more = (A.take i).flatMap more ++ moreTo t 8 by rw [take_snoc ht.out, List.flatMap_append]; simp [more])
     have HLE := Hd (show ((A.take i).flatMap more).length ≤ 4096 from by have := flat_more_len (A.take i); rw [List.length_take] at this; omega)
     have hZ := Hd (htk.keep (w' := wb) (fun b _ h2 => (hcc.block b h2).symm))
     have HTI := Hd ti
     have HM0 := Hd (show GL true wb.heap.size wb.heap.size (wc.alloc (.cells #[.int .i64 t.1, .slice tao t.2.length tcap] 68)).heap.size (wc.alloc (.cells #[.int .i64 t.1, .slice tao t.2.length tcap] 68)) 68 _ ((A.take i).flatMap more ++ moreTo t 0) by rw [show moreTo t 0 = [] from rfl, List.append_nil]; exact (hM.out.alloc _).top)
     have hown := Hd (GL.own_ne hM.out)
     clear ht ht2 htk htk1 ti hM
     unfold maxLen at htm
     go_wp2
     go_loopw [7, 10, 11] (fun s7 s10 _ wr => ∃ (j : Nat) (kv : Int), j ≤ 8 ∧ kv = (j : Int) + 1 ∧ s10 = .int .i64 kv ∧ Hid (GL true wb.heap.size wb.heap.size wr.heap.size wr 68 s7 ((A.take i).flatMap more ++ moreTo t j)) ∧ Hid (s7.ownBlock ≠ some wc.heap.size) ∧ wr.cell? ⟨wc.heap.size, 0, none⟩ = some (.int .i64 t.1) ∧ wr.cell? ⟨wc.heap.size, 1, none⟩ = some (.slice tao t.2.length tcap) ∧ wc.heap.size < wr.heap.size ∧ Below wb.heap.size wb wr) (fun _ s10 _ _ => 9 - (intOf s10).toNat)
     case atStart => exact ⟨0, 1, by omega, rfl, rfl, HM0, hown, by simp [go_sem], by simp [go_sem], by simp, hcc.alloc sC _⟩
     case round =>
      clear HM0 hown hcc
      obtain ⟨we, hwe⟩ : ∃ wm : World, wm = wr := ⟨_, rfl⟩
      subst hwe
      obtain ⟨j, kv, hj1, hkv, rfl, hM, hown, q_t0, q_t1, lTB, hee⟩ := hrel
      have sE := hee.size
      by_cases hlj : j < 8
      ·have hk8 : kv ≤ 8 := by omega
       have hk1 : 1 ≤ kv := by omega
       have HKV := Hd hkv
       clear hkv
       obtain ⟨sx, hlet_sx⟩ : ∃ r, r = sexOf t := ⟨_, rfl⟩
       have HS := Hd hlet_sx
       clear hlet_sx
       obtain ⟨r1, hlet_r1⟩ : ∃ r, r = stFits (kv, 0) sx := ⟨_, rfl⟩
       have HF := Hd hlet_r1
       clear hlet_r1
       go_wp2_with fail
       refine (sexOfI_any _ _ _ t (hZ.out.below hee) HTK.out sx HS.out).mono ?_
       rintro e w1 ⟨rfl, hb1⟩
       have hee1 : Below wb.heap.size wb w1 := hee.trans (hb1.mono sE)
       have hM1 := Hd (hM.out.below hb1)
       have q_t0 := oldc hb1 lTB q_t0
       have q_t1 := oldc hb1 lTB q_t1
       have s1 := hb1.size
       clear hb1 hM hee
       go_wp2_with fail
       refine (stepFitsI_b _ kv 0 sx r1 HF.out).mono ?_
       rintro e w2 ⟨rfl, hb2⟩
       have s2 := hb2.size
       have hee2 : Below wb.heap.size wb w2 := hee1.trans (hb2.mono omT)
       have hM2 := Hd (hM1.out.below hb2)
       have q_t0 := oldc hb2 omT q_t0
       have q_t1 := oldc hb2 omT q_t1
       have hKS := Hd (show moreTo t (j + 1) = moreTo t j ++ (if r1 = true then [(t.1, t.2 ++ [(kv, 0)])] else []) by rw [moreTo_succ, ← HKV.out, kinMore, ← HS.out, ← HF.out])
       have hkvn := Hd (show kv + 1 = ((j + 1 : Nat) : Int) + 1 by have := HKV.out; omega)
       have lTB2 : wc.heap.size < w2.heap.size := by omega
       clear hb2 hM1 hee1 HF HS HKV
       cases r1
       ·have HN := Hd (show GL true wb.heap.size wb.heap.size w2.heap.size w2 68 _ ((A.take i).flatMap more ++ moreTo t (j + 1)) by rw [hKS.out]; simpa using hM2.out.top)
        clear hM2 hKS
        go_wp2
        go_roundw
        case rel => exact ⟨j + 1, kv + 1, by omega, hkvn.out, rfl, HN, hown, q_t0, q_t1, lTB2, hee2⟩
        case measure => simp [intOf]; omega
       ·have hll : ((A.take i).flatMap more ++ moreTo t j).length ≤ 4200 := by rw [List.length_append]; have := HLE.out; have := moreTo_len t j; omega
        go_wp2_with fail
        refine (copyTypeI_any _ _ _ t (hZ.out.below hee2) omT).mono ?_
        rintro e w3 ⟨us, rfl, hgs, hb3⟩
        obtain ⟨uao, ucap, rfl, hu1, hu2⟩ := hgs.len
        have s3 := hb3.size
        have hown3 := Hd (GL.own_ne hgs)
        go_wp2_with (at_builtin; refine wpList_push_at rfl rfl slStep (by show (0 : Nat) < 2; omega) ((hgs.alloc _).alloc _) rfl (ad := ⟨w3.heap.size + 1, 0, none⟩) rfl (cs := [.int .i64 kv, .int .i64 0]) (y := ((kv, 0) : Stp)) (lx := w3.heap.size + 2) (hx' := w3.heap.size + 2) ?k1 (It.flat (z := true) (w0 := w3) (fp := []) (repStp_mk ⟨by omega, by omega⟩ ⟨by omega, by omega⟩)) omT (.inl omT) mxT omT ?k2 ?_)
        case k1 =>
         intro j c hj
         match j, hj with
         | 0, hj => simp at hj; subst hj; simp [Addr.add]
         | 1, hj => simp at hj; subst hj; simp [Addr.add, go_sem]
        case k2 => simp; omega
        intro g4 cap4 w4 hG4 hg4 hb4 hat4
        have s4 := hg4.size
        simp only [World.size_alloc] at s4 hat4
        have hg4lo : w2.heap.size ≤ g4 := GL.own_lo hG4 rfl
        have hg4hi : g4 < w4.heap.size := GL.own_hi hG4 rfl
        have hg4n : ¬ g4 = w3.heap.size := by
         rcases hat4 with h | h
         ·intro e; subst e; exact hown3.out h
         ·omega
        have ku : w4.heap[w3.heap.size]? = some (.cells #[.int .i64 t.1, .slice uao t.2.length ucap] 68 (0, 0)) := (hg4.block _ soT (fun e => hown3.out e.symm)).trans ((Below.heap_alloc _ _ _ spT).trans (heap_alloc_new w3 _))
        have q_u0 : w4.cell? ⟨w3.heap.size, 0, none⟩ = some (.int .i64 t.1) := by unfold World.cell?; simp [ku]
        have q_u1 : w4.cell? ⟨w3.heap.size, 1, none⟩ = some (.slice uao t.2.length ucap) := by unfold World.cell?; simp [ku]
        have f_u : ∀ o, w4.frozen? ⟨w3.heap.size, o, none⟩ = false := fun o => by simp [World.frozen?, ku]
        have hI4 := Hd (Ow.it (Ow.kin_mk HTI.out (GL.own_at hG4)))
        have hbW4 : Below w2.heap.size w2 w4 := Below.trans (show Below w2.heap.size w2 _ from (hb3.alloc omT _).alloc soT _) hb4
        clear hgs hG4 hg4 hb4 hb3 ku hown3
        go_wp2_with (at_builtin; refine wpList_push_at rfl rfl slKin (by show (0 : Nat) < 2; omega) (hM2.out.below ?k3) rfl (ad := ⟨w4.heap.size, 0, none⟩) rfl (cs := [.int .i64 t.1, .slice (some ⟨g4, 0, none⟩) (t.2.length + 1) cap4]) (y := ((t.1, t.2 ++ [(kv, 0)]) : Kin)) (lx := g4) (hx' := g4 + 1) ?k4 (hI4.out.keep ?k5) omT (.inl omT) mxT omT ?k6 ?_)
        case k3 => exact bwT
        case k4 =>
         intro j c hj
         match j, hj with
         | 0, hj => simp at hj; subst hj; simp [Addr.add, go_sem]
         | 1, hj => simp at hj; subst hj; simp [Addr.add, go_sem]
        case k5 => exact Zone.alloc (Zone.setCell (Zone.refl _ _ _) (by show w3.heap.size < g4 ∨ g4 + 1 ≤ w3.heap.size; omega) _) soT _
        case k6 => simp; omega
        intro g6 cap6 w6 hG6 hg6 hb6 hat6
        have hbW : Below w2.heap.size w2 ((w4.setCell ⟨w3.heap.size, 1, none⟩ (.slice (some ⟨g4, 0, none⟩) (t.2.length + 1) cap4)).alloc (.cells #[.int .i64 t.1, .slice (some ⟨g4, 0, none⟩) (t.2.length + 1) cap4] 68)) := bwT
        have s6 := hg6.size
        simp only [World.size_alloc, World.size_setCell] at s6 hat6
        have kT : w6.heap[wc.heap.size]? = w2.heap[wc.heap.size]? := (hg6.block _ soT (fun e => hown.out e.symm)).trans (hbW.block _ lTB2)
        have q_t0 := (World.cell?_of_block (a := ⟨wc.heap.size, 0, none⟩) kT).trans q_t0
        have q_t1 := (World.cell?_of_block (a := ⟨wc.heap.size, 1, none⟩) kT).trans q_t1
        have hg6n : ¬ g6 = wc.heap.size := by
         rcases hat6 with h | h
         ·intro e; subst e; exact hown.out h
         ·omega
        have hKS2 : (A.take i).flatMap more ++ moreTo t (j + 1) = (A.take i).flatMap more ++ (moreTo t j ++ [(t.1, t.2 ++ [(kv, 0)])]) := by rw [hKS.out]; simp
        have HN := Hd hG6
        rw [← hKS2] at HN
        have hee6 : Below wb.heap.size wb w6 := Below.trans (hee2.trans (hbW.mono omT)) hb6
        clear hKS2 hG6 hg6 hb6 hat6 kT hbW hI4 hM2 hKS hown q_u0 q_u1 f_u hbW4
        go_wp2
        go_roundw
        case rel => exact ⟨j + 1, kv + 1, by omega, hkvn.out, rfl, HN, Hd (fun e => by simp [Value.ownBlock] at e; exact hg6n e), q_t0, q_t1, by omega, hee6⟩
        case measure => simp [intOf]; omega
      ·obtain rfl : j = 8 := by omega
       have hk8 : ¬ kv ≤ 8 := by omega
       have HN := Hd (show GL true wb.heap.size wb.heap.size we.heap.size we 68 _ ((A.take (i + 1)).flatMap more) by rw [HT.out]; exact hM.out)
       clear hM hown HT
       go_wp2
       go_roundw
       case rel => exact ⟨i + 1, by omega, by go_num, HN, hee⟩
       case measure => simp [intOf]; omega
    ·obtain rfl : i = A.length := by omega
     have nIi : ¬ (A.length : Int) < (A.length : Int) := by omega
     have hLS : lastT (2 : Int) (k + 1) = (A.take A.length).flatMap more := by rw [List.take_length, lastT, ← HA.out]
     have HM := hM.out
     rw [← hLS] at HM
     obtain ⟨nao, ncap, rfl, hn1, hn2⟩ := HM.len
     have HM := Hd HM
     clear hLS
     have hGc := Hd (hG.out.below hcc)
     have hoh := Hd (fun (g : Nat) e => GL.own_hi hG.out (g := g) e)
     have hlo := HLO.out k omT
     have hll := HLL.out (k + 1) omT
     clear hM hL
     go_wp2_with (at_builtin; refine wpList_spread rfl rfl slKin (by show (0 : Nat) < 2; omega) hGc.out rfl rfl (GL.it (l0 := wb.heap.size) HM.out (Nat.le_refl _) (Nat.le_refl _)) omT (.inl (Nat.le_refl _)) mxT omT omT ?_)
     intro v7 w7 hG7 hg7 hb7
     have hL7 := Hd (((HM.out.rd (l0 := wb.heap.size) (Nat.le_refl _) (Nat.le_refl _)).weak.keep (Zone.grown (Zone.refl _ _ _) hg7 (Nat.le_refl _) (fun k' e => .inl (hoh.out k' e)))).all)
     have HG7 := Hd hG7
     have hb7' : Below w.heap.size w w7 := Below.trans (hbb.trans (hcc.mono sB)) hb7
     clear hG hGc hG7 hg7 hb7 HM hoh hn1 hn2
     go_wp2
     go_roundw
     case rel => exact ⟨k + 1, by omega, by go_num, HG7, ⟨nao, ncap, rfl⟩, hL7, hb7'⟩
     case measure => simp [intOf]; omega
  ·obtain rfl : k = N := by omega
   have nI : ¬ (k : Int) < (k : Int) := by omega
   have HW := Hd (hG.out.ow (l0 := w.heap.size) (Nat.le_refl _) (Nat.le_refl _))
   clear hG hL
   go_wp2
   go_ret
   exact ⟨_, rfl, HW.out, hbb⟩
theorem typesFromI_1n (w : World) (n : Int) : Calls Tryz.prog 66 #[.int .i64 1, .int .i64 n] w (PostOw w (typesX 1 n)) := by
 by_cases h1 : n < 1
 ·have HF := Hd (show typesX 1 n = [] by unfold typesX; rw [if_neg]; simp [typesV]; omega)
  go_enter Tryz.func66, Tryz.ntmps66
  go_wp2
  go_ret
  exact ⟨_, rfl, by rw [HF.out]; exact Ow.nil _ _ _, Below.refl _ _⟩
 by_cases h2 : 3 < n
 ·have HF := Hd (show typesX 1 n = [] by unfold typesX; rw [if_neg]; simp [typesV]; omega)
  go_enter Tryz.func66, Tryz.ntmps66
  go_wp2
  go_ret
  exact ⟨_, rfl, by rw [HF.out]; exact Ow.nil _ _ _, Below.refl _ _⟩
 obtain ⟨N, rfl⟩ := Int.eq_ofNat_of_zero_le (show 0 ≤ n by omega)
 rw [show typesX 1 (N : Int) = outT 1 N by unfold typesX; rw [if_pos (by simp [typesV]; omega), Int.toNat_natCast]]
 exact typesFromI_1 w N omT omT
theorem typesFromI_2n (w : World) (n : Int) : Calls Tryz.prog 66 #[.int .i64 2, .int .i64 n] w (PostOw w (typesX 2 n)) := by
 by_cases h1 : n < 1
 ·have HF := Hd (show typesX 2 n = [] by unfold typesX; rw [if_neg]; simp [typesV]; omega)
  go_enter Tryz.func66, Tryz.ntmps66
  go_wp2
  go_ret
  exact ⟨_, rfl, by rw [HF.out]; exact Ow.nil _ _ _, Below.refl _ _⟩
 by_cases h2 : 3 < n
 ·have HF := Hd (show typesX 2 n = [] by unfold typesX; rw [if_neg]; simp [typesV]; omega)
  go_enter Tryz.func66, Tryz.ntmps66
  go_wp2
  go_ret
  exact ⟨_, rfl, by rw [HF.out]; exact Ow.nil _ _ _, Below.refl _ _⟩
 obtain ⟨N, rfl⟩ := Int.eq_ofNat_of_zero_le (show 0 ≤ n by omega)
 rw [show typesX 2 (N : Int) = outT 2 N by unfold typesX; rw [if_pos (by simp [typesV]; omega), Int.toNat_natCast]]
 exact typesFromI_2 w N omT omT
theorem typesFromI_any (w : World) (ego n : Int) : Calls Tryz.prog 66 #[.int .i64 ego, .int .i64 n] w (PostOw w (typesX ego n)) := by
 by_cases h1 : ego = 1
 ·subst h1; exact typesFromI_1n w n
 by_cases h2 : ego = 2
 ·subst h2; exact typesFromI_2n w n
 have n1 : (ego != 1) = true := by simpa using h1
 have n2 : (ego != 2) = true := by simpa using h2
 have HF := Hd (show typesX ego n = [] by unfold typesX; rw [if_neg]; simp [typesV, h1, h2])
 go_enter Tryz.func66, Tryz.ntmps66
 go_wp2
 go_ret
 exact ⟨_, rfl, by rw [HF.out]; exact Ow.nil _ _ _, Below.refl _ _⟩
theorem sub_flat {α : Type} {a b : List (List α)} (h : List.Sublist a b) : List.Sublist a.flatten b.flatten := by
 induction h with
 | slnil => exact List.Sublist.refl _
 | cons x _ ih => rw [List.flatten_cons]; exact ih.trans (List.sublist_append_right x _)
 | cons_cons x _ ih => rw [List.flatten_cons, List.flatten_cons]; exact (List.Sublist.refl x).append ih
def GS {α : Type} [Rep α] (lo : Nat) (w : World) (E : TypeId) (v : Value) (xs : List α) (FP : List (List Nat)) : Prop :=
 ∃ css fps, w.ownsRow lo E (Rep.sz α) v xs.length css.flatten ∧ Zip (Rep.rep true w) css xs fps ∧ List.Sublist fps FP ∧ ∀ b ∈ fps.flatten, b < lo
section
variable {α : Type} [Rep α] {lo : Nat} {w w' : World} {E : TypeId} {v : Value} {xs : List α} {FP : List (List Nat)}
theorem GS.start (lo : Nat) (w : World) (E : TypeId) : GS (α := α) lo w E (.slice none 0 0) [] [] :=
 ⟨[], [], by simpa using World.ownsRow_nil w lo E (Rep.sz α), trivial, List.Sublist.refl _, by simp⟩
theorem GS.skip (h : GS lo w E v xs FP) (f : List Nat) : GS lo w E v xs (FP ++ [f]) := by
 obtain ⟨css, fps, ho, hz, hs, hb⟩ := h
 exact ⟨css, fps, ho, hz, hs.trans (List.sublist_append_left _ _), hb⟩
theorem GS.below (h : GS lo w E v xs FP) (hb : Below w.heap.size w w') : GS lo w' E v xs FP := by
 obtain ⟨css, fps, ho, hz, hs, hl⟩ := h
 refine ⟨css, fps, ⟨ho.1, ?_⟩, hz.keep (fun b hb' => hb.block b (hz.lt b hb')), hs, hl⟩
 rcases ho.2 with h | ⟨g, cap, cur, rfl, hbb, hh, r⟩
 ·exact .inl h
 ·exact .inr ⟨g, cap, cur, rfl, hbb, by rw [hb.block g (ho.lt g rfl).2]; exact hh, r⟩
theorem GS.alloc (h : GS lo w E v xs FP) (o : Obj) : GS lo (w.alloc o) E v xs FP := h.below ((Below.refl _ _).alloc (Nat.le_refl _) o)
theorem GS.len (h : GS lo w E v xs FP) : ∃ ao cap, v = .slice ao xs.length cap ∧ xs.length ≤ cap ∧ cap ≤ maxLen := by
 obtain ⟨css, fps, ho, _⟩ := h
 rcases ho.2 with ⟨rfl, h⟩ | ⟨g, cap, cur, rfl, hbb, hh, h1, h2, r⟩
 ·rw [h]; exact ⟨none, 0, rfl, Nat.le_refl _, by simp [maxLen]⟩
 ·exact ⟨_, cap, rfl, h1, h2⟩
theorem GS.ow (h : GS lo w E v xs FP) (hn : FP.flatten.Nodup) {l0 : Nat} (h0 : l0 ≤ lo) (hz0 : ∀ b ∈ FP.flatten, l0 ≤ b) : Ow l0 w.heap.size w [v] xs := by
 obtain ⟨css, fps, ho, hz, hs, hl⟩ := h
 have hsub : List.Sublist fps.flatten FP.flatten := sub_flat hs
 rcases ho.2 with ⟨rfl, h⟩ | ⟨g, cap, cur, rfl, hbb, hh, h3, h4, h5, h6⟩
 ·exact ⟨[], ⟨_, rfl, none, 0, 0, rfl, h, Nat.le_refl _, by simp [maxLen], fun _ => rfl, .inl ⟨rfl, rfl⟩⟩, (fun _ h => by cases h), List.nodup_nil⟩
 ·refine ⟨g :: fps.flatten, ⟨_, rfl, some ⟨g, 0, none⟩, xs.length, cap, rfl, rfl, h3, h4, (fun h => by cases h), .inr ⟨g, 0, css, fps, rfl, (ho.lt g rfl).2, rfl, hz, ?_, ?_⟩⟩, ?_, List.nodup_cons.2 ⟨fun hm => by have := hl g hm; omega, hsub.nodup hn⟩⟩
  ·intro j c hj
   have := ho.cells (g := g) rfl j c hj
   by_cases hj0 : j = 0
   ·subst hj0; simpa [Addr.add] using this
   ·simpa [Addr.add, hj0] using this
  ·intro _ o
   simp [World.frozen?, hh]
  ·intro b hb
   rcases List.mem_cons.1 hb with rfl | hb
   ·exact ⟨Nat.le_trans h0 hbb, (ho.lt b rfl).2⟩
   ·exact ⟨hz0 b (hsub.subset hb), hz.lt b hb⟩
end
section
variable {P : Program} {α : Type} [Rep α] {lo : Nat} {w : World} {E : TypeId} {v : Value} {xs : List α} {FP : List (List Nat)}
theorem wpList_push_sub {ops : Array Oper} {rest : List Oper} {o : Oper} {a : Act} {Q : Exit → Act → World → Prop} (hgd : o.guard = none) {s x : Operand} {t : TypeId}
  (ho : o.op = .call { callee := .builtin .append, args := #[s, x], argTypes := #[t, t] })
  {z0 : Value} {bytes : Nat} (hT : SlTy P t E z0 (Rep.sz α) bytes) (hsz : 0 < Rep.sz α) (hG : GS lo w E v xs FP) (hs : a.eval s = v)
  {ad : Addr} {c : Nat} (hx : a.eval x = .slice (some ad) 1 c) {cs : List Value} {y : α} {fp : List Nat} (hcells : ∀ j u, cs[j]? = some u → w.cell? (ad.add j) = some u)
  (hr : Rep.rep true w cs y fp) (hfp : ∀ b ∈ fp, b < lo) (h63 : xs.length + 1 ≤ maxLen) (hbytes : (xs.length + 1) * bytes ≤ 140737488355328) (hlo : lo ≤ w.heap.size)
  (h : ∀ v' w', GS lo w' E v' (xs ++ [y]) (FP ++ [fp]) → Below lo w w' → wpList P ops Q rest (a.put o.dst v') w') : wpList P ops Q (o :: rest) a w := by
 obtain ⟨css, fps, hown, hz, hsub, hl⟩ := hG
 have hlen : cs.length = 1 * Rep.sz α := by rw [Nat.one_mul]; exact Rep.len hr
 obtain ⟨v', w', hrun, ho', hgr, hv⟩ := run_app (P := P) w (t := t) (ty := o.type) hT hsz hown (ao := some ad) (m := 1) (c := c) hlen (fun h => by cases h) (fun a e => by simp only [Option.some.injEq] at e; subst e; exact hcells) (Rep.one hr) h63 hbytes hlo
 have hbel : Below lo w w' := (Below.refl lo w).grown hgr hlo fun k hk => (hown.lt k hk).1
 refine wpList_plain hgd fun K hK => ?_
 unfold Oper.wp execOp
 simp only [ho, resolve, invoke, builtin, Sem.run_bind, Sem.run_pure, Result.andThen_ok, List.map_toArray, List.map_cons, List.map_nil, hs, hx]
 rw [hrun]
 refine hK _ _ (h v' w' ⟨css ++ [cs], fps ++ [fp], ?_, (hz.snoc hr).keep fun b hb => hbel.block b ?_, hsub.append (List.Sublist.refl _), ?_⟩ hbel)
 ·rw [List.length_append, List.flatten_append]; simpa using ho'
 ·rw [List.flatten_append, List.mem_append] at hb
  rcases hb with hb | hb
  ·exact hl b hb
  ·exact hfp b (by simpa using hb)
 ·intro b hb
  rw [List.flatten_append, List.mem_append] at hb
  rcases hb with hb | hb
  ·exact hl b hb
  ·exact hfp b (by simpa using hb)
end
section
variable {P : Program} (w : World)
theorem run_lit0 {t ty e : TypeId} {z0 : Value} {size bytes : Nat} (hT : SlTy P t e z0 size bytes) {a0 : Addr} {a : Addr} {m c : Nat} {news : List Value} (hl : news.length = m * size) (hnews : ∀ j u, news[j]? = some u → w.cell? (a.add j) = some u)
  (hm : 0 < m) (h63 : m ≤ maxLen) (hbytes : m * bytes ≤ 140737488355328) :
  (Builtin.append_ #[t, t] ty #[.slice (some a0) 0 0, .slice (some a) m c]).run P w = (Builtin.append_ #[t, t] ty #[.slice none 0 0, .slice (some a) m c]).run P w := by
 obtain ⟨ht, ⟨i, hi, hz, hsize, hby⟩, hzs⟩ := hT
 subst hsize hby
 simp only [maxLen] at h63
 have h1 := run_append_nil (P := P) w t ty e i z0 ht hi hz a m c news hl hnews hm omT omT
 have h2 := run_append_grow (P := P) w t ty e i z0 ht hi hz a0 0 0 [] spT spT a m c news hl hnews omT omT (by rw [Nat.zero_add, nextslicecap_zero hm]; omega)
 rw [h1, h2]
 simp
end
def GZ {α : Type} [Rep α] (lo : Nat) (w : World) (E : TypeId) (v : Value) (xs : List α) (FP : List (List Nat)) : Prop := GS lo w E v xs FP ∨ (xs = [] ∧ ∃ a0, v = .slice (some a0) 0 0)
section
variable {α : Type} [Rep α] {lo : Nat} {w w' : World} {E : TypeId} {v : Value} {xs : List α} {FP : List (List Nat)}
theorem GZ.skip (h : GZ lo w E v xs FP) (f : List Nat) : GZ lo w E v xs (FP ++ [f]) := h.imp (fun h => h.skip f) id
theorem GZ.below (h : GZ lo w E v xs FP) (hb : Below w.heap.size w w') : GZ lo w' E v xs FP := h.imp (fun h => h.below hb) id
theorem GZ.alloc (h : GZ lo w E v xs FP) (o : Obj) : GZ lo (w.alloc o) E v xs FP := h.imp (fun h => h.alloc o) id
theorem GZ.start (lo : Nat) (w : World) (E : TypeId) : GZ (α := α) lo w E (.slice none 0 0) [] [] := .inl (GS.start _ _ _)
theorem GZ.lit0 (lo : Nat) (w : World) (E : TypeId) (a0 : Addr) : GZ (α := α) lo w E (.slice (some a0) 0 0) [] [] := .inr ⟨rfl, a0, rfl⟩
theorem GZ.len (h : GZ lo w E v xs FP) : ∃ ao cap, v = .slice ao xs.length cap ∧ xs.length ≤ cap ∧ cap ≤ maxLen := by
 rcases h with h | ⟨rfl, a0, rfl⟩
 ·exact h.len
 ·exact ⟨_, 0, rfl, Nat.le_refl _, by simp [maxLen]⟩
theorem GZ.ow (h : GZ lo w E v xs FP) (hn : FP.flatten.Nodup) {l0 : Nat} (h0 : l0 ≤ lo) (hz0 : ∀ b ∈ FP.flatten, l0 ≤ b) : Ow l0 w.heap.size w [v] xs := by
 rcases h with h | ⟨rfl, a0, rfl⟩
 ·exact h.ow hn h0 hz0
 ·exact ⟨[], ⟨_, rfl, _, 0, 0, rfl, rfl, Nat.le_refl _, by simp [maxLen], (fun h => by cases h), .inl ⟨rfl, rfl⟩⟩, (fun _ h => by cases h), List.nodup_nil⟩
end
section
variable {P : Program} {α : Type} [Rep α] {lo : Nat} {w : World} {E : TypeId} {v : Value} {xs : List α} {FP : List (List Nat)}
theorem wpList_push_subz {ops : Array Oper} {rest : List Oper} {o : Oper} {a : Act} {Q : Exit → Act → World → Prop} (hgd : o.guard = none) {s x : Operand} {t : TypeId}
  (ho : o.op = .call { callee := .builtin .append, args := #[s, x], argTypes := #[t, t] })
  {z0 : Value} {bytes : Nat} (hT : SlTy P t E z0 (Rep.sz α) bytes) (hsz : 0 < Rep.sz α) (hG : GZ lo w E v xs FP) (hs : a.eval s = v)
  {ad : Addr} {c : Nat} (hx : a.eval x = .slice (some ad) 1 c) {cs : List Value} {y : α} {fp : List Nat} (hcells : ∀ j u, cs[j]? = some u → w.cell? (ad.add j) = some u)
  (hr : Rep.rep true w cs y fp) (hfp : ∀ b ∈ fp, b < lo) (h63 : xs.length + 1 ≤ maxLen) (hbytes : (xs.length + 1) * bytes ≤ 140737488355328) (hlo : lo ≤ w.heap.size)
  (h : ∀ v' w', GZ lo w' E v' (xs ++ [y]) (FP ++ [fp]) → Below lo w w' → wpList P ops Q rest (a.put o.dst v') w') : wpList P ops Q (o :: rest) a w := by
 rcases hG with hG | ⟨rfl, a0, rfl⟩
 ·exact wpList_push_sub hgd ho hT hsz hG hs hx hcells hr hfp h63 hbytes hlo fun v' w' h1 h2 => h v' w' (.inl h1) h2
 ·have hlen : cs.length = 1 * Rep.sz α := by rw [Nat.one_mul]; exact Rep.len hr
  obtain ⟨v', w', hrun, ho', hgr, hv⟩ := run_app (P := P) w (t := t) (ty := o.type) hT hsz (World.ownsRow_nil w lo E (Rep.sz α)) (ao := some ad) (m := 1) (c := c) hlen (fun h => by cases h) (fun a e => by simp only [Option.some.injEq] at e; subst e; exact hcells) (Rep.one hr) (by simpa using h63) (by simpa using hbytes) hlo
  have hbel : Below lo w w' := (Below.refl lo w).grown hgr hlo fun k hk => by cases hk
  refine wpList_plain hgd fun K hK => ?_
  unfold Oper.wp execOp
  simp only [ho, resolve, invoke, builtin, Sem.run_bind, Sem.run_pure, Result.andThen_ok, List.map_toArray, List.map_cons, List.map_nil, hs, hx]
  rw [run_lit0 (P := P) w hT hlen hcells omT (by simpa using h63) (by simpa using hbytes), hrun]
  refine hK _ _ (h v' w' (.inl ⟨[cs], [fp], by simpa using ho', ⟨Rep.keep hr fun b hb => hbel.block b (hfp b hb), trivial⟩, List.sublist_append_right _ _, fun b hb => hfp b (by simpa using hb)⟩) hbel)
end
theorem Ow.items {α : Type} [Rep α] {lo hi : Nat} {w : World} {ao : Option Addr} {n cap : Nat} {xs : List α} (h : Ow lo hi w [.slice ao n cap] xs) : ∃ FPS : List (List Nat), FPS.length = xs.length ∧ FPS.flatten.Nodup ∧ (∀ b ∈ FPS.flatten, lo ≤ b ∧ b < hi) ∧
  ∀ i x, xs[i]? = some x → ∃ b off cs fp, ao = some ⟨b, off, none⟩ ∧ FPS[i]? = some fp ∧ Rep.rep true w cs x fp ∧ (∀ j c, cs[j]? = some c → w.cell? ⟨b, off + (i * Rep.sz α + j), none⟩ = some c) := by
 obtain ⟨fp, ⟨_, e, ao', n', cap', e2, e1, -, -, -, hr⟩, hz, hn⟩ := h
 simp only [List.cons.injEq, and_true] at e
 subst e
 simp only [Value.slice.injEq] at e2
 obtain ⟨rfl, rfl, rfl⟩ := e2
 rcases hr with ⟨h0, rfl⟩ | ⟨b, off, css, fps, rfl, hb, rfl, hzip, hcells, -⟩
 ·have hx : xs = [] := List.eq_nil_of_length_eq_zero omT
  subst hx
  exact ⟨[], rfl, List.nodup_nil, (fun b hb => by simp at hb), fun i x hi => by simp at hi⟩
 ·refine ⟨fps, hzip.lens.2, (List.nodup_cons.1 hn).2, fun b hb => hz b (List.mem_cons_of_mem _ hb), fun i x hi => ?_⟩
  obtain ⟨cs, f, h1, h2, h3⟩ := hzip.get hi
  refine ⟨b, off, cs, f, rfl, h2, h3, fun j c hj => ?_⟩
  have hjl : j < Rep.sz α := by
   have := (List.getElem?_eq_some_iff.1 hj).1
   rw [Rep.len h3] at this; exact this
  refine hcells _ c ?_
  rw [cellsAt_flat hzip.sizes h1 j hjl]; exact hj
def allowL (c : Cls) (n : Int) : List Kin := (typesX 1 n).filter (allowB c)
def allowX (c : Cls) (n : Int) : List Kin := if isCls c = true then allowL c n else []
theorem outT_len (ego : Int) : ∀ n, n ≤ 3 → (outT ego n).length ≤ 584
 | 0, _ => by simp [outT]
 | 1, _ => by have := lastT_len ego 1; simp only [outT, List.length_append, List.length_nil, Nat.zero_add, Nat.reduceAdd] at *; omega
 | 2, _ => by have := lastT_len ego 1; have := lastT_len ego 2; simp only [outT, List.length_append, List.length_nil, Nat.zero_add, Nat.reduceAdd] at *; omega
 | 3, _ => by have := lastT_len ego 1; have := lastT_len ego 2; have := lastT_len ego 3; simp only [outT, List.length_append, List.length_nil, Nat.zero_add, Nat.reduceAdd] at *; omega
theorem typesX_len (ego n : Int) : (typesX ego n).length ≤ 600 := by
 unfold typesX
 split
 ·rename_i h
  unfold typesV at h
  simp only [Bool.and_eq_true, decide_eq_true_eq] at h
  have := outT_len ego n.toNat omT
  omega
 ·simp
theorem typesX_kin {ego n : Int} {t : Kin} (h : t ∈ typesX ego n) : isKin t = true ∧ t.2.length ≤ 3 ∧ t.1 = ego := by
 unfold typesX at h
 split at h
 ·rename_i hv
  unfold typesV at hv
  simp only [Bool.and_eq_true, decide_eq_true_eq] at hv
  have := outT_ok hv.1 n.toNat omT t h
  exact ⟨this.1, by omega, this.2.2⟩
 ·cases h
def entAt (y : Trm) (t : Kin) : Option Ent := (termOf y t).map fun s => (t, s)
def tblL (y : Trm) (ego n : Int) : List Ent := (typesX ego n).filterMap (entAt y)
def tblX (y : Trm) (ego n : Int) : List Ent := if isTerm y = true then tblL y ego n else []
theorem entAt_none {y : Trm} {t : Kin} (h : false = (termOf y t).isSome) : entAt y t = none := by
 unfold entAt
 cases e : termOf y t with
 | none => rfl
 | some s => rw [e] at h; cases h
theorem entAt_some {y : Trm} {t : Kin} {s : ByteArray} (h : true = (termOf y t).isSome) (hs : s = tmText (termOf y t)) : entAt y t = some (t, s) := by
 unfold entAt
 cases e : termOf y t with
 | none => rw [e] at h; cases h
 | some s' => rw [e] at hs; subst hs; rfl
theorem tmText_le {y : Trm} (h : true = isTerm y) (t : Kin) : (tmText (termOf y t)).size ≤ maxLen := by
 cases e : termOf y t with
 | none => simp [tmText, maxLen]
 | some s =>
   have := termOf_ne h.symm e
   unfold nameOk at this
   simp only [Bool.and_eq_true, decide_eq_true_eq] at this
   show s.size ≤ maxLen
   unfold maxLen
   omega
set_option maxRecDepth 20000 in
theorem l3MoreS_any {z : Bool} {lo hi : Nat} (w : World) (a b : Value) (t : Kin) (h : Rd z lo hi w [a, b] t) (ht : isKin t = true) (hl : t.2.length < 8) : Calls Tryz.prog 157 #[.agg #[a, b]] w (PostOw w (more t)) := by
 obtain ⟨rfl, hI, hb⟩ := h.kin
 obtain ⟨ao, n, cap, rfl, hn, hnc, hcm, hnone⟩ := hb.shape
 subst hn
 unfold maxLen at *
 have HI := Hd hI
 have HK := Hd (fun s => isKin_snoc ht hl s)
 have hZ := Hd hb
 clear h hI hb ht hnone
 obtain ⟨W0, hW0⟩ : ∃ W0 : World, W0 = w.alloc (.cells #[.int .i64 t.1, .slice ao t.2.length cap] 68) := ⟨_, rfl⟩
 have hB0 : Below w.heap.size w W0 := by subst hW0; exact bwT
 have sz0 : W0.heap.size = w.heap.size + 1 := by subst hW0; simp
 have qa_t0 : W0.cell? ⟨w.heap.size, 0, none⟩ = some (.int .i64 t.1) := by subst hW0; simp [go_sem]
 have qa_t1 : W0.cell? ⟨w.heap.size, 1, none⟩ = some (.slice ao t.2.length cap) := by subst hW0; simp [go_sem]
 have HG0 := Hd (show GL true W0.heap.size W0.heap.size (W0.alloc (.cells #[] 68)).heap.size (W0.alloc (.cells #[] 68)) 68 (.slice (some ⟨w.heap.size + 1, 0, none⟩) 0 0) (moreTo t 0) by
  rw [show w.heap.size + 1 = W0.heap.size from sz0.symm]
  exact (GL.lit0 (α := Kin) true W0.heap.size W0.heap.size W0 68 (Nat.le_refl _)).top)
 have lw0 : w.heap.size < W0.heap.size := by omega
 go_enter Tryz.func157, Tryz.ntmps157
 go_wp2
 rw [← hW0]
 clear hW0 sz0
 go_loopw [3, 4, 5] (fun s3 s4 _ wr => ∃ (j : Nat) (kv : Int), j ≤ 8 ∧ kv = (j : Int) + 1 ∧ s4 = .int .i64 kv ∧ Hid (GL true W0.heap.size W0.heap.size wr.heap.size wr 68 s3 (moreTo t j)) ∧ Below W0.heap.size W0 wr) (fun _ s4 _ _ => 9 - (intOf s4).toNat)
 case atStart => exact ⟨0, 1, by omega, rfl, rfl, HG0, bwT⟩
 case round =>
  clear HG0
  obtain ⟨we, hwe⟩ : ∃ wm : World, wm = wr := ⟨_, rfl⟩
  subst hwe
  obtain ⟨j, kv, hj1, hkv, rfl, hM, hee⟩ := hrel
  have sE := hee.size
  have q_t0 := oldc hee lw0 qa_t0
  have q_t1 := oldc hee lw0 qa_t1
  have l_t : w.heap.size < we.heap.size := by omega
  have hew : Below w.heap.size w we := hB0.trans (hee.mono hB0.size)
  by_cases hlj : j < 8
  ·have hk8 : kv ≤ 8 := by omega
   have hk1 : 1 ≤ kv := by omega
   obtain ⟨r1, hlet_r1⟩ : ∃ r, r = isKin (t.1, t.2 ++ [(kv, 0)]) := ⟨_, rfl⟩
   have HF := Hd hlet_r1
   clear hlet_r1
   have hKS := Hd (show moreTo t (j + 1) = moreTo t j ++ (if r1 = true then [(t.1, t.2 ++ [(kv, 0)])] else []) by rw [moreTo_succ, ← hkv, kinMore, ← HK.out, ← HF.out])
   have hkvn := Hd (show kv + 1 = ((j + 1 : Nat) : Int) + 1 by omega)
   have hll : (moreTo t j).length ≤ 8 := by have := moreTo_len t j; omega
   clear hkv
   go_wp2_with (at_builtin; refine wpList_spread_flat rfl rfl slStep (by show (0 : Nat) < 2; omega) (GL.start true (we.heap.size + 1) (we.heap.size + 1) (we.heap.size + 1) _ _) rfl rfl (hZ.out.below ?k1) (by unfold maxLen; simp; omega) soT spT ?_)
   case k1 => exact bwT
   intro v1 w1 hG1 _ hb1
   (try simp only [List.nil_append] at hG1)
   obtain ⟨vao, vcap, rfl, hv1, hv2⟩ := hG1.len
   have s1 := hb1.size
   simp only [World.size_alloc] at s1
   have u0 : w1.cell? ⟨we.heap.size, 0, none⟩ = some (.int .i64 t.1) := oldc hb1 omT sgT
   have u1 : w1.cell? ⟨we.heap.size, 1, none⟩ = some (.slice none 0 0) := oldc hb1 omT sgT
   have uf : ∀ o, w1.frozen? ⟨we.heap.size, o, none⟩ = false := fun o => (hb1.frozen (p := ⟨we.heap.size, o, none⟩) spT).trans sgT
   have hbe1 : Below we.heap.size we w1 := Below.trans (show Below we.heap.size we _ from bwT) (hb1.mono omT)
   clear hb1
   go_wp2_with (at_builtin; refine wpList_push_at rfl rfl slStep (by show (0 : Nat) < 2; omega) ((hG1.keep ?k2 ?k3).alloc _) rfl (ad := ⟨w1.heap.size, 0, none⟩) rfl (cs := [.int .i64 kv, .int .i64 0]) (y := ((kv, 0) : Stp)) (lx := w1.heap.size + 1) (hx' := w1.heap.size + 1) ?k4 (It.flat (z := true) (w0 := w1) (fp := []) (repStp_mk ⟨by omega, by omega⟩ ⟨by omega, by omega⟩)) omT (.inl omT) mxT omT ?k5 ?_)
   case k2 => exact znT
   case k3 => exact znT
   case k4 =>
    intro j c hj
    match j, hj with
    | 0, hj => simp at hj; subst hj; simp [Addr.add, go_sem]
    | 1, hj => simp at hj; subst hj; simp [Addr.add, go_sem]
   case k5 => simp; omega
   intro g4 cap4 w4 hG4 hg4 hb4 hat4
   have s4 := hb4.size
   simp only [World.size_alloc, World.size_setCell] at s4
   have lu : we.heap.size < w1.heap.size := by omega
   have q_u0 : w4.cell? ⟨we.heap.size, 0, none⟩ = some (.int .i64 t.1) := oldc hb4 omT (by simp [go_sem, u0, u1, lu])
   have q_u1 : w4.cell? ⟨we.heap.size, 1, none⟩ = some (.slice vao t.2.length vcap) := oldc hb4 omT (by simp [go_sem, u0, u1, lu])
   have f_u : ∀ o, w4.frozen? ⟨we.heap.size, o, none⟩ = false := fun o => (hb4.frozen (p := ⟨we.heap.size, o, none⟩) spT).trans (by simp [go_sem, uf, lu])
   have HO4 := Hd (hG4.ow (l0 := we.heap.size + 1) (Nat.le_refl _) (Nat.le_refl _))
   have hbe4 : Below we.heap.size we w4 := Below.trans (show Below we.heap.size we _ from (hbe1.setCell (p := ⟨we.heap.size, 1, none⟩) (Nat.le_refl _) _).alloc soT _) (hb4.mono omT)
   clear hG1 hG4 hg4 hb4 hat4 u0 u1 uf
   go_wp2_with fail
   refine (isTypeS_b _ _ _ (t.1, t.2 ++ [(kv, 0)]) (Rd.kin_mk HI.out (HO4.out.rd.keep ?k6)) r1 HF.out).mono ?_
   case k6 => exact znT
   rintro e w6 ⟨rfl, hb6⟩
   have s6 := hb6.size
   simp only [World.size_setCell] at s6
   have HO6 : Ow (we.heap.size + 1) w4.heap.size w6 [.int .i64 t.1, .slice (some ⟨g4, 0, none⟩) (t.2.length + 1) cap4] ((t.1, t.2 ++ [(kv, 0)]) : Kin) := by
    refine Ow.below (Ow.kin_mk HI.out (HO4.out.keep ?_)) hb6
    exact znT
   have HO6 := Hd HO6
   have q_u0 : w6.cell? ⟨we.heap.size, 0, none⟩ = some (.int .i64 t.1) := oldc hb6 soT (by simp [go_sem, q_u0, q_u1])
   have q_u1 : w6.cell? ⟨we.heap.size, 1, none⟩ = some (.slice (some ⟨g4, 0, none⟩) (t.2.length + 1) cap4) := oldc hb6 soT (by simp [go_sem, q_u0, q_u1])
   have hbe6 : Below we.heap.size we w6 := Below.trans (show Below we.heap.size we _ from hbe4.setCell (p := ⟨we.heap.size, 1, none⟩) (Nat.le_refl _) _) (hb6.mono soT)
   have hM6 := Hd (hM.out.below hbe6)
   have hee6 : Below W0.heap.size W0 w6 := hee.trans (hbe6.mono sE)
   clear hb6 HO4 hM hbe6 hbe4 hbe1 HF
   cases r1
   ·have HN := Hd hM6.out.top
    rw [show moreTo t j = moreTo t (j + 1) by rw [hKS.out]; simp] at HN
    clear hM6 hKS HO6
    go_wp2
    go_roundw
    case rel => exact ⟨j + 1, kv + 1, by omega, hkvn.out, rfl, HN, hee6⟩
    case measure => simp [intOf]; omega
   ·go_wp2_with (at_builtin; refine wpList_push_at rfl rfl slKin (by show (0 : Nat) < 2; omega) (hM6.out.alloc _) rfl (ad := ⟨w6.heap.size, 0, none⟩) rfl (cs := [.int .i64 t.1, .slice (some ⟨g4, 0, none⟩) (t.2.length + 1) cap4]) (y := ((t.1, t.2 ++ [(kv, 0)]) : Kin)) (lx := we.heap.size + 1) (hx' := w4.heap.size) ?k7 ((Ow.it HO6.out).keep ?k8) omT (.inl omT) mxT omT ?k9 ?_)
    case k7 =>
     intro j c hj
     match j, hj with
     | 0, hj => simp at hj; subst hj; simp [Addr.add, go_sem]
     | 1, hj => simp at hj; subst hj; simp [Addr.add, go_sem]
    case k8 => exact Zone.alloc (Zone.refl _ _ _) omT _
    case k9 => simp; omega
    intro g8 cap8 w8 hG8 hg8 hb8 hat8
    have HN := Hd hG8
    rw [show moreTo t j ++ [(t.1, t.2 ++ [(kv, 0)])] = moreTo t (j + 1) by rw [hKS.out]; simp] at HN
    have hee8 : Below W0.heap.size W0 w8 := Below.trans (hee6.alloc omT _) hb8
    clear hM6 hKS HO6 hG8 hg8 hb8 hat8
    go_wp2
    go_roundw
    case rel => exact ⟨j + 1, kv + 1, by omega, hkvn.out, rfl, HN, hee8⟩
    case measure => simp [intOf]; omega
  ·obtain rfl : j = 8 := by omega
   have hk8 : ¬ kv ≤ 8 := by omega
   have HW := Hd (hM.out.ow (l0 := w.heap.size) omT omT)
   clear hM
   go_wp2
   go_ret
   exact ⟨_, rfl, HW.out, hew⟩
set_option maxRecDepth 20000 in
theorem typesFromS_1 (w : World) (N : Nat) (hN1 : 1 ≤ N) (hN3 : N ≤ 3) : Calls Tryz.prog 133 #[.int .i64 (1 : Int), .int .i64 N] w (PostOw w (outT (1 : Int) N)) := by
 obtain ⟨ego, hego⟩ : ∃ e : Int, e = (1 : Int) := ⟨_, rfl⟩
 have he : ego = 1 ∨ ego = 2 := by omega
 have HOK := Hd (show ∀ k, k ≤ 8 → ∀ t ∈ lastT ego k, TOk ego k t from lastT_ok he)
 have HLL := Hd (show ∀ k, k ≤ 3 → (lastT ego k).length ≤ 512 from fun k hk => by
  have := lastT_len ego k
  have h2 : 8 ^ k ≤ 8 ^ 3 := Nat.pow_le_pow_right omT hk
  omega)
 have HLO := Hd (show ∀ k, k ≤ 3 → (outT ego k).length ≤ 4096 from fun k hk => by
  have h1 := lastT_len ego (0 + 1)
  have h2 := lastT_len ego (1 + 1)
  have h3 := lastT_len ego (2 + 1)
  obtain rfl | rfl | rfl | rfl : k = 0 ∨ k = 1 ∨ k = 2 ∨ k = 3 := by omega
  all_goals simp only [outT, List.length_append, List.length_nil]; omega)
 have hE64 : I64 ego := by unfold I64; omega
 have HE := Hd hE64
 clear hE64 he
 subst hego
 go_enter Tryz.func133, Tryz.ntmps133
 go_wp2_with fail
 refine (l1In_b (N : Int) 1 3 _ true (by symm; simp; omega)).mono ?_
 rintro e wa ⟨rfl, hba⟩
 have sa := hba.size
 have hlast := Hd (lit_kin (w := wa.alloc (.cells #[] 68)) HE.out 68)
 have hG0 := Hd (show GL true w.heap.size w.heap.size (wa.heap.size + 1) (wa.alloc (.cells #[] 68)) 68 (.slice (some ⟨wa.heap.size, 0, none⟩) 0 0) (outT (1 : Int) 0) from GL.lower (GL.lit0 (α := Kin) true wa.heap.size wa.heap.size wa 68 (Nat.le_refl _)) sa sa)
 go_wp2
 go_loopw [5, 6, 7] (fun s5 s6 s7 wr => ∃ k : Nat, k ≤ N ∧ s7 = .int .i64 k ∧ Hid (GL true w.heap.size w.heap.size wr.heap.size wr 68 s5 (outT (1 : Int) k)) ∧ (∃ ao cap, s6 = .slice ao (lastT (1 : Int) k).length cap) ∧ Hid (Rd false 0 wr.heap.size wr [s6] (lastT (1 : Int) k)) ∧ Below w.heap.size w wr) (fun _ _ s7 _ => N - (intOf s7).toNat)
 case atStart => exact ⟨0, Nat.zero_le _, rfl, Hd (hG0.out.alloc _).top, ⟨_, _, rfl⟩, Hd (by have := hlast.out.all; simp only [World.size_alloc] at this ⊢; exact this), bwT⟩
 case round =>
  clear hlast hG0 hba sa
  obtain ⟨wb, hwb⟩ : ∃ wm : World, wm = wr := ⟨_, rfl⟩
  subst hwb
  obtain ⟨k, hk, rfl, hG, ⟨la, lc, rfl⟩, hL, hbb⟩ := hrel
  have sB := hbb.size
  by_cases hlt : k < N
  ·have hI : (k : Int) < (N : Int) := by omega
   obtain ⟨A, hA⟩ : ∃ A, A = lastT (1 : Int) k := ⟨_, rfl⟩
   rw [← hA] at hL
   rw [← hA]
   have HA := Hd hA
   have hA512 : A.length ≤ 512 := by rw [hA]; exact HLL.out k omT
   have HAK := Hd (show ∀ t ∈ A, isKin t = true ∧ t.2.length < 8 from fun t ht => by
    have := HOK.out k omT t (by rw [← HA.out]; exact ht)
    exact ⟨this.kin, by have := this.len; omega⟩)
   have hN0 := Hd (show GL true wb.heap.size wb.heap.size (wb.alloc (.cells #[] 68)).heap.size (wb.alloc (.cells #[] 68)) 68 (.slice (some ⟨wb.heap.size, 0, none⟩) 0 0) ((A.take 0).flatMap more) from (GL.lit0 (α := Kin) true wb.heap.size wb.heap.size wb 68 (Nat.le_refl _)).top)
   clear hA
   go_wp2
   go_loopw [8, 10, 34] (fun s8 _ s34 wr => ∃ i : Nat, i ≤ A.length ∧ s34 = .int .i64 i ∧ Hid (GL true wb.heap.size wb.heap.size wr.heap.size wr 68 s8 ((A.take i).flatMap more)) ∧ Below wb.heap.size wb wr) (fun _ _ s34 _ => A.length - (intOf s34).toNat)
   case atStart => exact ⟨0, Nat.zero_le _, rfl, hN0, bwT⟩
   case round =>
    clear hN0
    obtain ⟨wc, hwc⟩ : ∃ wm : World, wm = wr := ⟨_, rfl⟩
    subst hwc
    obtain ⟨i, hi1, rfl, hM, hcc⟩ := hrel
    have sC := hcc.size
    by_cases hli : i < A.length
    ·have hIi : (i : Int) < (A.length : Int) := by omega
     obtain ⟨tb, toff, t, tv, rfl, ht, c0, c1, ti, ht2, htk, -, -, tbl⟩ := (hL.out.below hcc).kin_at hli
     obtain ⟨tao, tn, tcap, rfl, htn, htc, htm, -⟩ := ht2.shape
     subst htn
     obtain ⟨htk1, ht8⟩ := HAK.out t (List.mem_of_getElem? ht.out)
     have HTK := Hd htk1
     have HT := Hd (show (A.take (i + 1)).flatMap more = (A.take i).flatMap more ++ more t by rw [take_snoc ht.out, List.flatMap_append]; simp)
     have hfl := flat_more_len (A.take i)
     rw [List.length_take] at hfl
     have HLE := Hd (show ((A.take i).flatMap more).length ≤ 4096 from by omega)
     have HLT := Hd (show (more t).length ≤ 8 from moreTo_len t 8)
     have hZ := Hd htk
     unfold maxLen at htm
     clear ht ht2 htk htk1 ti hfl
     go_wp2_with fail
     refine (l3MoreS_any _ _ _ t (hZ.out.below ?k1) HTK.out ht8).mono ?_
     case k1 => exact bwT
     rintro e w3 ⟨us, rfl, how, hb3⟩
     have s3 := hb3.size
     simp only [World.size_alloc] at s3 how
     have hbc3 : Below wc.heap.size wc w3 := Below.trans (show Below wc.heap.size wc _ from bwT) (hb3.mono spT)
     have hM3 := Hd (hM.out.below hbc3)
     have hle := HLE.out
     have hlt8 := HLT.out
     clear hb3 hM c0 c1
     go_wp2_with (at_builtin; refine wpList_spread rfl rfl slKin (by show (0 : Nat) < 2; omega) hM3.out rfl rfl (Ow.it how) omT (.inl omT) mxT omT omT ?_)
     intro v4 w4 hG4 hg4 hb4
     have HN := Hd hG4
     rw [← HT.out] at HN
     have hcc4 : Below wb.heap.size wb w4 := Below.trans (hcc.trans (hbc3.mono sC)) hb4
     clear hM3 hG4 hg4 hb4 how HT
     go_wp2
     go_roundw
     case rel => exact ⟨i + 1, by omega, by go_num, HN, hcc4⟩
     case measure => simp [intOf]; omega
    ·obtain rfl : i = A.length := by omega
     have nIi : ¬ (A.length : Int) < (A.length : Int) := by omega
     have hLS : lastT (1 : Int) (k + 1) = (A.take A.length).flatMap more := by rw [List.take_length, lastT, ← HA.out]
     have HM := hM.out
     rw [← hLS] at HM
     obtain ⟨nao, ncap, rfl, hn1, hn2⟩ := HM.len
     have HM := Hd HM
     clear hLS
     have hGc := Hd (hG.out.below hcc)
     have hoh := Hd (fun (g : Nat) e => GL.own_hi hG.out (g := g) e)
     have hlo := HLO.out k omT
     have hll := HLL.out (k + 1) omT
     clear hM hL
     go_wp2_with (at_builtin; refine wpList_spread rfl rfl slKin (by show (0 : Nat) < 2; omega) hGc.out rfl rfl (GL.it (l0 := wb.heap.size) HM.out (Nat.le_refl _) (Nat.le_refl _)) omT (.inl (Nat.le_refl _)) mxT omT omT ?_)
     intro v7 w7 hG7 hg7 hb7
     have hL7 := Hd (((HM.out.rd (l0 := wb.heap.size) (Nat.le_refl _) (Nat.le_refl _)).weak.keep (Zone.grown (Zone.refl _ _ _) hg7 (Nat.le_refl _) (fun k' e => .inl (hoh.out k' e)))).all)
     have HG7 := Hd hG7
     have hb7' : Below w.heap.size w w7 := Below.trans (hbb.trans (hcc.mono sB)) hb7
     clear hG hGc hG7 hg7 hb7 HM hoh hn1 hn2
     go_wp2
     go_roundw
     case rel => exact ⟨k + 1, by omega, by go_num, HG7, ⟨nao, ncap, rfl⟩, hL7, hb7'⟩
     case measure => simp [intOf]; omega
  ·obtain rfl : k = N := by omega
   have nI : ¬ (k : Int) < (k : Int) := by omega
   have HW := Hd (hG.out.ow (l0 := w.heap.size) (Nat.le_refl _) (Nat.le_refl _))
   clear hG hL
   go_wp2
   go_ret
   exact ⟨_, rfl, HW.out, hbb⟩
set_option maxRecDepth 20000 in
theorem typesFromS_2 (w : World) (N : Nat) (hN1 : 1 ≤ N) (hN3 : N ≤ 3) : Calls Tryz.prog 133 #[.int .i64 (2 : Int), .int .i64 N] w (PostOw w (outT (2 : Int) N)) := by
 obtain ⟨ego, hego⟩ : ∃ e : Int, e = (2 : Int) := ⟨_, rfl⟩
 have he : ego = 1 ∨ ego = 2 := by omega
 have HOK := Hd (show ∀ k, k ≤ 8 → ∀ t ∈ lastT ego k, TOk ego k t from lastT_ok he)
 have HLL := Hd (show ∀ k, k ≤ 3 → (lastT ego k).length ≤ 512 from fun k hk => by
  have := lastT_len ego k
  have h2 : 8 ^ k ≤ 8 ^ 3 := Nat.pow_le_pow_right omT hk
  omega)
 have HLO := Hd (show ∀ k, k ≤ 3 → (outT ego k).length ≤ 4096 from fun k hk => by
  have h1 := lastT_len ego (0 + 1)
  have h2 := lastT_len ego (1 + 1)
  have h3 := lastT_len ego (2 + 1)
  obtain rfl | rfl | rfl | rfl : k = 0 ∨ k = 1 ∨ k = 2 ∨ k = 3 := by omega
  all_goals simp only [outT, List.length_append, List.length_nil]; omega)
 have hE64 : I64 ego := by unfold I64; omega
 have HE := Hd hE64
 clear hE64 he
 subst hego
 go_enter Tryz.func133, Tryz.ntmps133
 go_wp2_with fail
 refine (l1In_b (N : Int) 1 3 _ true (by symm; simp; omega)).mono ?_
 rintro e wa ⟨rfl, hba⟩
 have sa := hba.size
 have hlast := Hd (lit_kin (w := wa.alloc (.cells #[] 68)) HE.out 68)
 have hG0 := Hd (show GL true w.heap.size w.heap.size (wa.heap.size + 1) (wa.alloc (.cells #[] 68)) 68 (.slice (some ⟨wa.heap.size, 0, none⟩) 0 0) (outT (2 : Int) 0) from GL.lower (GL.lit0 (α := Kin) true wa.heap.size wa.heap.size wa 68 (Nat.le_refl _)) sa sa)
 go_wp2
 go_loopw [5, 6, 7] (fun s5 s6 s7 wr => ∃ k : Nat, k ≤ N ∧ s7 = .int .i64 k ∧ Hid (GL true w.heap.size w.heap.size wr.heap.size wr 68 s5 (outT (2 : Int) k)) ∧ (∃ ao cap, s6 = .slice ao (lastT (2 : Int) k).length cap) ∧ Hid (Rd false 0 wr.heap.size wr [s6] (lastT (2 : Int) k)) ∧ Below w.heap.size w wr) (fun _ _ s7 _ => N - (intOf s7).toNat)
 case atStart => exact ⟨0, Nat.zero_le _, rfl, Hd (hG0.out.alloc _).top, ⟨_, _, rfl⟩, Hd (by have := hlast.out.all; simp only [World.size_alloc] at this ⊢; exact this), bwT⟩
 case round =>
  clear hlast hG0 hba sa
  obtain ⟨wb, hwb⟩ : ∃ wm : World, wm = wr := ⟨_, rfl⟩
  subst hwb
  obtain ⟨k, hk, rfl, hG, ⟨la, lc, rfl⟩, hL, hbb⟩ := hrel
  have sB := hbb.size
  by_cases hlt : k < N
  ·have hI : (k : Int) < (N : Int) := by omega
   obtain ⟨A, hA⟩ : ∃ A, A = lastT (2 : Int) k := ⟨_, rfl⟩
   rw [← hA] at hL
   rw [← hA]
   have HA := Hd hA
   have hA512 : A.length ≤ 512 := by rw [hA]; exact HLL.out k omT
   have HAK := Hd (show ∀ t ∈ A, isKin t = true ∧ t.2.length < 8 from fun t ht => by
    have := HOK.out k omT t (by rw [← HA.out]; exact ht)
    exact ⟨this.kin, by have := this.len; omega⟩)
   have hN0 := Hd (show GL true wb.heap.size wb.heap.size (wb.alloc (.cells #[] 68)).heap.size (wb.alloc (.cells #[] 68)) 68 (.slice (some ⟨wb.heap.size, 0, none⟩) 0 0) ((A.take 0).flatMap more) from (GL.lit0 (α := Kin) true wb.heap.size wb.heap.size wb 68 (Nat.le_refl _)).top)
   clear hA
   go_wp2
   go_loopw [8, 10, 34] (fun s8 _ s34 wr => ∃ i : Nat, i ≤ A.length ∧ s34 = .int .i64 i ∧ Hid (GL true wb.heap.size wb.heap.size wr.heap.size wr 68 s8 ((A.take i).flatMap more)) ∧ Below wb.heap.size wb wr) (fun _ _ s34 _ => A.length - (intOf s34).toNat)
   case atStart => exact ⟨0, Nat.zero_le _, rfl, hN0, bwT⟩
   case round =>
    clear hN0
    obtain ⟨wc, hwc⟩ : ∃ wm : World, wm = wr := ⟨_, rfl⟩
    subst hwc
    obtain ⟨i, hi1, rfl, hM, hcc⟩ := hrel
    have sC := hcc.size
    by_cases hli : i < A.length
    ·have hIi : (i : Int) < (A.length : Int) := by omega
     obtain ⟨tb, toff, t, tv, rfl, ht, c0, c1, ti, ht2, htk, -, -, tbl⟩ := (hL.out.below hcc).kin_at hli
     obtain ⟨tao, tn, tcap, rfl, htn, htc, htm, -⟩ := ht2.shape
     subst htn
     obtain ⟨htk1, ht8⟩ := HAK.out t (List.mem_of_getElem? ht.out)
     have HTK := Hd htk1
     have HT := Hd (show (A.take (i + 1)).flatMap more = (A.take i).flatMap more ++ more t by rw [take_snoc ht.out, List.flatMap_append]; simp)
     have hfl := flat_more_len (A.take i)
     rw [List.length_take] at hfl
     have HLE := Hd (show ((A.take i).flatMap more).length ≤ 4096 from by omega)
     have HLT := Hd (show (more t).length ≤ 8 from moreTo_len t 8)
     have hZ := Hd htk
     unfold maxLen at htm
     clear ht ht2 htk htk1 ti hfl
     go_wp2_with fail
     refine (l3MoreS_any _ _ _ t (hZ.out.below ?k1) HTK.out ht8).mono ?_
     case k1 => exact bwT
     rintro e w3 ⟨us, rfl, how, hb3⟩
     have s3 := hb3.size
     simp only [World.size_alloc] at s3 how
     have hbc3 : Below wc.heap.size wc w3 := Below.trans (show Below wc.heap.size wc _ from bwT) (hb3.mono spT)
     have hM3 := Hd (hM.out.below hbc3)
     have hle := HLE.out
     have hlt8 := HLT.out
     clear hb3 hM c0 c1
     go_wp2_with (at_builtin; refine wpList_spread rfl rfl slKin (by show (0 : Nat) < 2; omega) hM3.out rfl rfl (Ow.it how) omT (.inl omT) mxT omT omT ?_)
     intro v4 w4 hG4 hg4 hb4
     have HN := Hd hG4
     rw [← HT.out] at HN
     have hcc4 : Below wb.heap.size wb w4 := Below.trans (hcc.trans (hbc3.mono sC)) hb4
     clear hM3 hG4 hg4 hb4 how HT
     go_wp2
     go_roundw
     case rel => exact ⟨i + 1, by omega, by go_num, HN, hcc4⟩
     case measure => simp [intOf]; omega
    ·obtain rfl : i = A.length := by omega
     have nIi : ¬ (A.length : Int) < (A.length : Int) := by omega
     have hLS : lastT (2 : Int) (k + 1) = (A.take A.length).flatMap more := by rw [List.take_length, lastT, ← HA.out]
     have HM := hM.out
     rw [← hLS] at HM
     obtain ⟨nao, ncap, rfl, hn1, hn2⟩ := HM.len
     have HM := Hd HM
     clear hLS
     have hGc := Hd (hG.out.below hcc)
     have hoh := Hd (fun (g : Nat) e => GL.own_hi hG.out (g := g) e)
     have hlo := HLO.out k omT
     have hll := HLL.out (k + 1) omT
     clear hM hL
     go_wp2_with (at_builtin; refine wpList_spread rfl rfl slKin (by show (0 : Nat) < 2; omega) hGc.out rfl rfl (GL.it (l0 := wb.heap.size) HM.out (Nat.le_refl _) (Nat.le_refl _)) omT (.inl (Nat.le_refl _)) mxT omT omT ?_)
     intro v7 w7 hG7 hg7 hb7
     have hL7 := Hd (((HM.out.rd (l0 := wb.heap.size) (Nat.le_refl _) (Nat.le_refl _)).weak.keep (Zone.grown (Zone.refl _ _ _) hg7 (Nat.le_refl _) (fun k' e => .inl (hoh.out k' e)))).all)
     have HG7 := Hd hG7
     have hb7' : Below w.heap.size w w7 := Below.trans (hbb.trans (hcc.mono sB)) hb7
     clear hG hGc hG7 hg7 hb7 HM hoh hn1 hn2
     go_wp2
     go_roundw
     case rel => exact ⟨k + 1, by omega, by go_num, HG7, ⟨nao, ncap, rfl⟩, hL7, hb7'⟩
     case measure => simp [intOf]; omega
  ·obtain rfl : k = N := by omega
   have nI : ¬ (k : Int) < (k : Int) := by omega
   have HW := Hd (hG.out.ow (l0 := w.heap.size) (Nat.le_refl _) (Nat.le_refl _))
   clear hG hL
   go_wp2
   go_ret
   exact ⟨_, rfl, HW.out, hbb⟩
theorem typesFromS_1n (w : World) (n : Int) : Calls Tryz.prog 133 #[.int .i64 1, .int .i64 n] w (PostOw w (typesX 1 n)) := by
 by_cases h1 : 1 ≤ n ∧ n ≤ 3
 ·obtain ⟨N, rfl⟩ := Int.eq_ofNat_of_zero_le (show 0 ≤ n by omega)
  rw [show typesX 1 (N : Int) = outT 1 N by unfold typesX; rw [if_pos (by simp [typesV]; omega), Int.toNat_natCast]]
  exact typesFromS_1 w N omT omT
 ·have HF := Hd (show typesX 1 n = [] by unfold typesX; rw [if_neg]; simp [typesV]; omega)
  have HD := Hd (show false = decide (1 ≤ n ∧ n ≤ 3) by simp; omega)
  clear h1
  go_enter Tryz.func133, Tryz.ntmps133
  go_wp2_with fail
  refine (l1In_b n 1 3 _ false HD.out).mono ?_
  rintro e5 w5 ⟨rfl, hbw5⟩
  have hpw5 : Below w.heap.size w w5 := Below.after bwT hbw5 szT
  have sw5 := hpw5.size
  have hBw5 : Below w.heap.size w w5 := hpw5
  clear hbw5 hpw5
  go_wp2
  go_ret
  exact ⟨_, rfl, by rw [HF.out]; exact Ow.nil _ _ _, hBw5⟩
theorem typesFromS_2n (w : World) (n : Int) : Calls Tryz.prog 133 #[.int .i64 2, .int .i64 n] w (PostOw w (typesX 2 n)) := by
 by_cases h1 : 1 ≤ n ∧ n ≤ 3
 ·obtain ⟨N, rfl⟩ := Int.eq_ofNat_of_zero_le (show 0 ≤ n by omega)
  rw [show typesX 2 (N : Int) = outT 2 N by unfold typesX; rw [if_pos (by simp [typesV]; omega), Int.toNat_natCast]]
  exact typesFromS_2 w N omT omT
 ·have HF := Hd (show typesX 2 n = [] by unfold typesX; rw [if_neg]; simp [typesV]; omega)
  have HD := Hd (show false = decide (1 ≤ n ∧ n ≤ 3) by simp; omega)
  clear h1
  go_enter Tryz.func133, Tryz.ntmps133
  go_wp2_with fail
  refine (l1In_b n 1 3 _ false HD.out).mono ?_
  rintro e6 w6 ⟨rfl, hbw6⟩
  have hpw6 : Below w.heap.size w w6 := Below.after bwT hbw6 szT
  have sw6 := hpw6.size
  have hBw6 : Below w.heap.size w w6 := hpw6
  clear hbw6 hpw6
  go_wp2
  go_ret
  exact ⟨_, rfl, by rw [HF.out]; exact Ow.nil _ _ _, hBw6⟩
theorem typesFromS_any (w : World) (ego n : Int) : Calls Tryz.prog 133 #[.int .i64 ego, .int .i64 n] w (PostOw w (typesX ego n)) := by
 by_cases h1 : ego = 1
 ·subst h1; exact typesFromS_1n w n
 by_cases h2 : ego = 2
 ·subst h2; exact typesFromS_2n w n
 have n1 : (ego != 1) = true := by simpa using h1
 have n2 : (ego != 2) = true := by simpa using h2
 have HF := Hd (show typesX ego n = [] by unfold typesX; rw [if_neg]; simp [typesV, h1, h2])
 go_enter Tryz.func133, Tryz.ntmps133
 go_wp2
 go_ret
 exact ⟨_, rfl, by rw [HF.out]; exact Ow.nil _ _ _, Below.refl _ _⟩
theorem termTS_x {z z1 : Bool} {lo hi lo1 hi1 : Nat} (w : World) (y1 y2 a b : Value) (rs : List Rul) (es : List Ent) (t : Kin) (h : Rd z lo hi w [y1, y2] ((rs, es) : Trm)) (h' : Rd z1 lo1 hi1 w [a, b] t) (hr : allRules rs) (ht : isKin t = true) (X : ByteArray) (hX : X = tmText (termOf (rs, es) t)) (r : Bool) (hrr : r = (termOf (rs, es) t).isSome) :
  Calls Tryz.prog 78 #[.agg #[y1, y2], .agg #[a, b]] w (PostV w (.string X)) := by
 subst hX hrr
 exact termS_any w y1 y2 a b rs es t h h' hr ht _ rfl
set_option maxRecDepth 20000 in
theorem termTableS_any {z : Bool} {lo hi : Nat} (w : World) (y1 y2 : Value) (y : Trm) (h : Rd z lo hi w [y1, y2] y) (ego n : Int) : Calls Tryz.prog 103 #[.agg #[y1, y2], .int .i64 ego, .int .i64 n] w (PostOw w (tblX y ego n)) := by
 obtain ⟨rs, es⟩ := y
 have HY := Hd h
 obtain ⟨hy1, hy2⟩ := h.two rfl
 dsimp only at hy1 hy2
 obtain ⟨ra, rn, rcap, rfl, -⟩ := hy1.shape
 obtain ⟨ea, en, ecap, rfl, -⟩ := hy2.shape
 obtain ⟨r1, hlet_r1⟩ : ∃ r, r = isTerm (rs, es) := ⟨_, rfl⟩
 have H1 := Hd hlet_r1
 clear hlet_r1
 obtain ⟨X, hX⟩ : ∃ X, X = tblX (rs, es) ego n := ⟨_, rfl⟩
 rw [← hX]
 have HX := Hd (show X = if r1 = true then tblL (rs, es) ego n else [] by rw [hX, H1.out]; rfl)
 clear hX h hy1 hy2
 go_enter Tryz.func103, Tryz.ntmps103
 go_wp2_with fail
 refine (isTermS_b _ _ _ rs es (HY.out.below bwT) r1 H1.out).mono ?_
 rintro e7 w7 ⟨rfl, hbw7⟩
 have hpw7 : Below w.heap.size w w7 := Below.after bwT hbw7 szT
 have sw7 := hpw7.size
 have hBw7 : Below w.heap.size w w7 := hpw7
 have l_y : w.heap.size < w7.heap.size := by have := hbw7.size; simp at this; omega
 have q_y0 : w7.cell? ⟨w.heap.size, 0, none⟩ = some (.slice ra rn rcap) := oldc hbw7 ltT sgT
 have q_y1 : w7.cell? ⟨w.heap.size, 1, none⟩ = some (.slice ea en ecap) := oldc hbw7 ltT sgT
 clear hbw7 hpw7
 cases r1
 ·obtain rfl : X = [] := by rw [HX.out]; rfl
  clear HX H1 HY
  go_wp2
  go_ret
  exact ⟨_, rfl, Ow.nil _ _ _, hBw7⟩
 have HRS := Hd (show allRules rs from (areRules_facts (isTerm_facts H1.out.symm).1).2.1)
 go_wp2_with fail
 refine (typesFromS_any _ ego n).mono ?_
 rintro e8 w8 ⟨ut, rfl, ho, hbw8⟩
 have hpw8 : Below w7.heap.size w7 w8 := Below.after bwT hbw8 szT
 have sw8 := hpw8.size
 have hBw8 : Below w.heap.size w w8 := Below.trans hBw7 (Below.mono hpw8 hBw7.size)
 have q_y0 := oldc hpw8 l_y q_y0
 have q_y1 := oldc hpw8 l_y q_y1
 have l_y := ltL l_y sw8
 clear hbw8 hpw8
 obtain ⟨T, hT⟩ : ∃ T, T = typesX ego n := ⟨_, rfl⟩
 rw [← hT] at ho
 (try simp only [World.size_alloc] at ho)
 have HF := Hd (show X = T.filterMap (entAt (rs, es)) by rw [HX.out, hT]; rfl)
 have HKN := Hd (show ∀ t ∈ T, isKin t = true from fun t ht => by rw [hT] at ht; exact (typesX_kin ht).1)
 obtain ⟨tao, tn, tcap, rfl, htn, htc, htm, -⟩ := ho.rd.shape
 subst htn
 obtain ⟨FPS, hF1, hF2, hF3, hF4⟩ := ho.items
 have HI := Hd hF4
 have HND := Hd hF2
 have HIN := Hd hF3
 have HLN := Hd hF1
 have hTL : T.length ≤ 600 := by rw [hT]; exact typesX_len ego n
 have hrd := Hd ho.rd
 obtain ⟨W0, hW0⟩ : ∃ W0 : World, W0 = w8 := ⟨_, rfl⟩
 subst hW0
 have hB0 : Below w.heap.size w W0 := hBw8
 have s0 := hB0.size
 have qa_y0 := q_y0
 have qa_y1 := q_y1
 have la_y : w.heap.size < W0.heap.size := l_y
 have HT1 := H1
 clear HX hT hF1 hF2 hF3 hF4 ho q_y0 q_y1 l_y H1
 go_wp2
 go_loopw [7, 9, 10, 19] (fun s7 _ _ s19 wr => ∃ i : Nat, i ≤ T.length ∧ s19 = .int .i64 i ∧ Hid (GZ W0.heap.size wr 70 s7 ((T.take i).filterMap (entAt (rs, es))) (FPS.take i)) ∧ Below W0.heap.size W0 wr) (fun _ _ _ s19 _ => T.length - (intOf s19).toNat)
 case atStart => exact ⟨0, Nat.zero_le _, rfl, Hd (GZ.lit0 _ _ _ _), Below.refl _ _⟩
 case round =>
  obtain ⟨wb, hwb⟩ : ∃ wm : World, wm = wr := ⟨_, rfl⟩
  subst hwb
  obtain ⟨i, hi1, rfl, hG, hbb⟩ := hrel
  have sB := hbb.size
  have hBb : Below w.heap.size w wb := hB0.trans (hbb.mono s0)
  have q_y0 := oldc hbb la_y qa_y0
  have q_y1 := oldc hbb la_y qa_y1
  have l_y := ltL la_y sB
  by_cases hli : i < T.length
  ·have hIi : (i : Int) < (T.length : Int) := by omega
   obtain ⟨tb, toff, t, tv, rfl, ht, c0, c1, -, -, -, -, tlt, -⟩ := hrd.out.kin_at hli
   obtain ⟨b, off, cs, fp, e, hf, hr, hcs⟩ := HI.out i t ht.out
   simp only [Option.some.injEq, Addr.mk.injEq, and_true] at e
   obtain ⟨rfl, rfl⟩ := e
   obtain ⟨v', rfl, hti, hr2⟩ := repKin_inv hr
   obtain ⟨sao, sn, scap, rfl, hsn, -⟩ := (show Rd true 0 W0.heap.size W0 [v'] t.2 from ⟨fp, hr2, fun b hb => ⟨Nat.zero_le _, Rep.lt hr2 b hb⟩⟩).shape
   subst hsn
   have k0 : wb.cell? ⟨tb, toff + i * 2, none⟩ = some (.int .i64 t.1) := oldc hbb omT (by have := hcs 0 _ rfl; simpa [Rep.sz] using this)
   have k1 : wb.cell? ⟨tb, toff + i * 2 + 1, none⟩ = some (.slice sao t.2.length scap) := oldc hbb omT (by have := hcs 1 _ rfl; simpa [Rep.sz, Nat.add_assoc] using this)
   have hrt := Hd (show Rd true 0 W0.heap.size W0 [.int .i64 t.1, .slice sao t.2.length scap] t from ⟨fp, hr, fun b hb => ⟨Nat.zero_le _, Rep.lt hr b hb⟩⟩)
   have hR := Hd hr2
   have HTI := Hd hti
   have HS1 := Hd (take_snoc ht.out)
   have HS2 := Hd (take_snoc hf)
   have HB := Hd (show ∀ b ∈ fp, b < W0.heap.size from fun b hb => Rep.lt hr b hb)
   have HK := Hd (HKN.out t (List.mem_of_getElem? ht.out))
   obtain ⟨q, hlet_q⟩ : ∃ r, r = tmText (termOf (rs, es) t) := ⟨_, rfl⟩
   have HQ := Hd hlet_q
   clear hlet_q
   obtain ⟨r2, hlet_r2⟩ : ∃ r, r = (termOf (rs, es) t).isSome := ⟨_, rfl⟩
   have HR2 := Hd hlet_r2
   clear hlet_r2
   have HQL := Hd (show q.size ≤ maxLen by rw [HQ.out]; exact tmText_le HT1.out t)
   have HE := Hd (show (!q.toList.isEmpty) = r2 by rw [HQ.out, HR2.out]; exact tmText_ne HT1.out)
   have hbA : Below W0.heap.size W0 (wb.alloc (.cells #[.int .i64 t.1, .slice sao t.2.length scap] 68)) := hbb.alloc sB _
   have hbw : Below w.heap.size w (wb.alloc (.cells #[.int .i64 t.1, .slice sao t.2.length scap] 68)) := hBb.alloc omT _
   have hGA := Hd (hG.out.alloc (.cells #[.int .i64 t.1, .slice sao t.2.length scap] 68))
   clear ht hf hr hcs hr2 hG c0 c1 hti
   go_wp2_with fail
   refine (termTS_x _ _ _ _ _ rs es t (HY.out.below ?k1) (hrt.out.below ?k2) HRS.out HK.out q HQ.out r2 HR2.out).mono ?_
   case k1 => exact hbw
   case k2 => exact hbA
   rintro e w1 ⟨rfl, hb1⟩
   have b0 : w1.cell? ⟨wb.heap.size, 0, none⟩ = some (.int .i64 t.1) := oldc hb1 ltT sgT
   have b1 : w1.cell? ⟨wb.heap.size, 1, none⟩ = some (.slice sao t.2.length scap) := oldc hb1 ltT sgT
   have s1 := hb1.size
   simp only [World.size_alloc] at s1
   have hbb1 : Below W0.heap.size W0 w1 := hbA.trans (hb1.mono hbA.size)
   have hG1 := Hd (hGA.out.below hb1)
   have hR1 := Hd (Rep.keep hR.out (fun b hb => hbb1.block b (HB.out b hb)))
   clear hb1 hGA
   cases r2
   ·have HN := Hd (hG1.out.skip fp)
    rw [← HS2.out, show (T.take i).filterMap (entAt (rs, es)) = (T.take (i + 1)).filterMap (entAt (rs, es)) by rw [HS1.out, List.filterMap_append, List.filterMap_cons_none (entAt_none HR2.out)]; simp] at HN
    clear hG1 HS1 HS2 HR2 HQ
    have HE0 : q.toList.isEmpty = true := by have := HE.out; simpa using this
    clear HE
    go_wp2
    go_roundw
    case rel => exact ⟨i + 1, by omega, by go_num, HN, hbb1⟩
    case measure => simp [intOf]; omega
   ·have hfl : ((T.take i).filterMap (entAt (rs, es))).length ≤ 1000 := by
     have h1 := List.length_filterMap_le (entAt (rs, es)) (T.take i)
     have h2 : (T.take i).length ≤ T.length := by rw [List.length_take]; omega
     omega
    have HFL := Hd hfl
    have HES := Hd (entAt_some HR2.out HQ.out)
    obtain ⟨O, hO⟩ : ∃ O : Obj, O = .cells #[.int .i64 t.1, .slice sao t.2.length scap, .string q] 70 := ⟨_, rfl⟩
    have hrA := Hd (show Rep.rep true (w1.alloc (.cells #[.int .i64 t.1, .slice sao t.2.length scap, .string q] 70)) [.int .i64 t.1, .slice sao t.2.length scap, .string q] (((t.1, t.2), q) : Ent) fp from dEnt_mk HTI.out HQL.out (Rep.keep hR1.out (fun b hb => Below.heap_alloc _ _ _ (Rep.lt hR1.out b hb))))
    have hG2 := Hd (hG1.out.alloc (.cells #[.int .i64 t.1, .slice sao t.2.length scap, .string q] 70))
    have sW1 : W0.heap.size ≤ (w1.alloc (.cells #[.int .i64 t.1, .slice sao t.2.length scap, .string q] 70)).heap.size := by simp; omega
    have hbbA : Below W0.heap.size W0 (w1.alloc (.cells #[.int .i64 t.1, .slice sao t.2.length scap, .string q] 70)) := hbb1.alloc omT _
    clear hG1 hfl hO HR2 HQ
    have HE0 : q.toList.isEmpty = false := by have := HE.out; simpa using this
    clear HE
    go_wp2_with (at_builtin; refine wpList_push_subz rfl rfl slEntry (by show (0 : Nat) < 3; omega) hG2.out rfl (ad := ⟨w1.heap.size, 0, none⟩) rfl (cs := [.int .i64 t.1, .slice sao t.2.length scap, .string q]) (y := ((t.1, t.2), q)) ?k4 hrA.out HB.out (by have := HFL.out; unfold maxLen; omega) (by have := HFL.out; omega) sW1 ?_)
    case k4 =>
     intro j c hj
     match j, hj with
     | 0, hj => simp at hj; subst hj; simp [Addr.add, go_sem]
     | 1, hj => simp at hj; subst hj; simp [Addr.add, go_sem]
     | 2, hj => simp at hj; subst hj; simp [Addr.add, go_sem]
    rintro v2 w2 hG3 hb2
    have HN := Hd hG3
    rw [← HS2.out, show (T.take i).filterMap (entAt (rs, es)) ++ [((t.1, t.2), q)] = (T.take (i + 1)).filterMap (entAt (rs, es)) by rw [HS1.out, List.filterMap_append, List.filterMap_cons_some HES.out]; simp] at HN
    have hbb2 := hbbA.trans hb2
    clear hG3 hG2 HS1 HS2 hb2 HES
    go_wp2
    go_roundw
    case rel => exact ⟨i + 1, by omega, by go_num, HN, hbb2⟩
    case measure => simp [intOf]; omega
  ·obtain rfl : i = T.length := by omega
   have nI : ¬ (T.length : Int) < (T.length : Int) := by omega
   have hG2 := hG.out
   rw [List.take_length, List.take_of_length_le (by rw [HLN.out]; exact Nat.le_refl _)] at hG2
   have HW := Hd (GZ.ow hG2 HND.out (l0 := w.heap.size) s0 (fun b hb => by have := HIN.out b hb; omega))
   clear hG hG2
   go_wp2
   go_ret
   exact ⟨_, rfl, by rw [HF.out]; exact HW.out, hBb⟩
end Go.Proofs.YtcbhdmmohdnjbaaGreat
