/- Texts laid one behind the other (merge.py): TypsI, Sub, AllwI, AllwL, TTabI, TypsS, TTabS. -/
import Derived.Test.YtdpkldapobbnpaaGreatDoorBase
import Derived.Test.YtdpkldapobbnpaaGreatDoorTrmB
import Derived.Test.YtdpkldapobbnpaaGreatDoorTypS
namespace Go.Proofs.YtdpkldapobbnpaaGreatDoor
set_option linter.unusedVariables false
set_option linter.unusedSimpArgs false
open Go.RowKit
theorem lit_kin {w : World} {e : Int} (he : I64 e) (E : TypeId) : Rd false 0 (w.heap.size + 1) (w.alloc (.cells #[.int .i64 e, .slice none 0 0] E)) [.slice (some ⟨w.heap.size, 0, none⟩) 1 1] ([(e, [])] : List Kin) := by
 refine ⟨[w.heap.size], ⟨_, rfl, some ⟨w.heap.size, 0, none⟩, 1, 1, rfl, rfl, Nat.le_refl _, by simp [maxLen], (fun h => by cases h), .inr ⟨w.heap.size, 0, [[.int .i64 e, .slice none 0 0]], [[]], rfl, by simp, rfl, ⟨repKin_mk he ⟨_, rfl, none, 0, 0, rfl, rfl, Nat.le_refl _, by simp [maxLen], fun _ => rfl, .inl ⟨rfl, rfl⟩⟩, trivial⟩, fun j c hj => ?_, fun h => by cases h⟩⟩, fun b hb => ?_⟩
 ·match j, hj with
  | 0, hj => simp at hj; subst hj; simp [go_sem]
  | 1, hj => simp at hj; subst hj; simp [go_sem]
 ·simp at hb; omega
theorem GL.own_lo {α : Type} [Rep α] {nd : Bool} {lo lo' hi : Nat} {w : World} {E : TypeId} {v : Value} {xs : List α} (h : GL nd lo lo' hi w E v xs) {g : Nat} (e : v.ownBlock = some g) : lo ≤ g := by
 obtain ⟨css, fps, ho, _⟩ := h
 exact (ho.lt g e).1
theorem GL.own_hi {α : Type} [Rep α] {nd : Bool} {lo lo' hi : Nat} {w : World} {E : TypeId} {v : Value} {xs : List α} (h : GL nd lo lo' hi w E v xs) {g : Nat} (e : v.ownBlock = some g) : g < hi := by
 obtain ⟨css, fps, ho, hz, hf, hg, _⟩ := h
 exact hg g e
theorem GL.own_at {α : Type} [FlatRep α] {lo lo' hi : Nat} {w : World} {E : TypeId} {g n cap : Nat} {xs : List α} (h : GL true lo lo' hi w E (.slice (some ⟨g, 0, none⟩) n cap) xs) : Ow g (g + 1) w [.slice (some ⟨g, 0, none⟩) n cap] xs := by
 obtain ⟨css, fps, ho, hz, hf, hgg, hnd⟩ := h
 obtain ⟨hfl, hall⟩ := flats hz
 refine GL.ow (lo := g) (lo' := g) (hi := g + 1) (E := E) ⟨css, fps, ⟨ho.1, ?_⟩, hz, (fun b (hb : b ∈ fps.flatten) => by rw [hfl] at hb; cases hb), (fun k hk => by simp [Value.ownBlock] at hk; omega), hnd⟩ (Nat.le_refl _) (Nat.le_refl _)
 rcases ho.2 with ⟨e, _⟩ | ⟨g', cap', cur, e, hb, hh, r⟩
 ·cases e
 ·simp only [Value.slice.injEq, Option.some.injEq, Addr.mk.injEq, and_true, true_and] at e
  obtain ⟨rfl, e1, rfl⟩ := e
  exact .inr ⟨g, cap, cur, by rw [e1], Nat.le_refl _, hh, r⟩
theorem GL.own_ne {α : Type} [Rep α] {nd : Bool} {lo lo' hi : Nat} {w : World} {E : TypeId} {v : Value} {xs : List α} (h : GL nd lo lo' hi w E v xs) : v.ownBlock ≠ some w.heap.size := fun e => by
 obtain ⟨css, fps, ho, _⟩ := h
 have := (ho.lt _ e).2
 omega
set_option maxRecDepth 20000 in
set_option maxHeartbeats 16000000 in
theorem typesFromI_1 (w : World) (N : Nat) (hN1 : 1 ≤ N) (hN3 : N ≤ 3) : Calls Tryz.prog 47 #[.int .i64 (1 : Int), .int .i64 N] w (PostOw w (outT (1 : Int) N)) := by
 obtain ⟨ego, hego⟩ : ∃ e : Int, e = (1 : Int) := ⟨_, rfl⟩
 have he : ego = 1 ∨ ego = 2 := by omega
 have HOK := Lib.hid (show ∀ k, k ≤ 8 → ∀ t ∈ lastT ego k, TOk ego k t from lastT_ok he)
 have HLL := Lib.hid (show ∀ k, k ≤ 3 → (lastT ego k).length ≤ 512 from fun k hk => by
  have := lastT_len ego k
  have h2 : 8 ^ k ≤ 8 ^ 3 := Nat.pow_le_pow_right (by omega) hk
  omega)
 have HLO := Lib.hid (show ∀ k, k ≤ 3 → (outT ego k).length ≤ 4096 from fun k hk => by
  have h1 := lastT_len ego (0 + 1)
  have h2 := lastT_len ego (1 + 1)
  have h3 := lastT_len ego (2 + 1)
  obtain rfl | rfl | rfl | rfl : k = 0 ∨ k = 1 ∨ k = 2 ∨ k = 3 := by omega
  all_goals simp only [outT, List.length_append, List.length_nil]; omega)
 have hNI1 : ¬ (N : Int) < 1 := by omega
 have hNI3 : ¬ (3 : Int) < (N : Int) := by omega
 have hE64 : I64 ego := by unfold I64; omega
 have HE := Lib.hid hE64
 clear hE64 he
 subst hego
 go_enter Tryz.func47, Tryz.ntmps47
 have hlast := Lib.hid (lit_kin (w := w) HE.out 36)
 go_wp2
 go_loopw [5, 6, 30] (fun s5 s6 s30 wr => ∃ k : Nat, k ≤ N ∧ s30 = .int .i64 k ∧ Hid (GL true w.heap.size w.heap.size wr.heap.size wr 36 s5 (outT (1 : Int) k)) ∧ (∃ ao cap, s6 = .slice ao (lastT (1 : Int) k).length cap) ∧ Hid (Rd false 0 wr.heap.size wr [s6] (lastT (1 : Int) k)) ∧ Below w.heap.size w wr) (fun _ _ s30 _ => N - (intOf s30).toNat)
 case atStart => exact ⟨0, Nat.zero_le _, rfl, Lib.hid (GL.start _ _ _ _ _ _), ⟨_, _, rfl⟩, Lib.hid hlast.out.all, bwT⟩
 case round =>
  clear hlast
  obtain ⟨wb, hwb⟩ : ∃ wm : World, wm = wr := ⟨_, rfl⟩
  subst hwb
  obtain ⟨k, hk, rfl, hG, ⟨la, lc, rfl⟩, hL, hbb⟩ := hrel
  have sB := hbb.size
  by_cases hlt : k < N
  ·have hI : (k : Int) < (N : Int) := by omega
   obtain ⟨A, hA⟩ : ∃ A, A = lastT (1 : Int) k := ⟨_, rfl⟩
   rw [← hA] at hL
   rw [← hA]
   have HA := Lib.hid hA
   have hA512 : A.length ≤ 512 := by rw [hA]; exact HLL.out k (by omega)
   have HAK := Lib.hid (show ∀ t ∈ A, isKin t = true ∧ t.2.length < 8 from fun t ht => by
    have := HOK.out k (by omega) t (by rw [← HA.out]; exact ht)
    exact ⟨this.kin, by have := this.len; omega⟩)
   clear hA
   go_wp2
   go_loopw [7, 9, 10, 11, 34] (fun s7 _ _ _ s34 wr => ∃ i : Nat, i ≤ A.length ∧ s34 = .int .i64 i ∧ Hid (GL true wb.heap.size wb.heap.size wr.heap.size wr 36 s7 ((A.take i).flatMap more)) ∧ Below wb.heap.size wb wr) (fun _ _ _ _ s34 _ => A.length - (intOf s34).toNat)
   case atStart => exact ⟨0, Nat.zero_le _, rfl, Lib.hid (GL.start _ _ _ _ _ _), Below.refl _ _⟩
   case round =>
    obtain ⟨wc, hwc⟩ : ∃ wm : World, wm = wr := ⟨_, rfl⟩
    subst hwc
    obtain ⟨i, hi1, rfl, hM, hcc⟩ := hrel
    have sC := hcc.size
    by_cases hli : i < A.length
    ·have hIi : (i : Int) < (A.length : Int) := by omega
     obtain ⟨tb, toff, t, tv, rfl, ht, c0, c1, ti, ht2, htk, -, -, tbl⟩ := (hL.out.below hcc).kin_at hli
     obtain ⟨tao, tn, tcap, rfl, htn, htc, htm, -⟩ := ht2.shape
     subst htn
     obtain ⟨htk1, ht8⟩ := HAK.out t (List.mem_of_getElem? ht.out)
     have HTK := Lib.hid htk1
     have HT := Lib.hid (show (A.take (i + 1)).flatMap more = (A.take i).flatMap more ++ moreTo t 8 by rw [take_snoc ht.out, List.flatMap_append]; simp [more])
     have HLE := Lib.hid (show ((A.take i).flatMap more).length ≤ 4096 from by have := flat_more_len (A.take i); rw [List.length_take] at this; omega)
     have hZ := Lib.hid (htk.keep (w' := wb) (fun b _ h2 => (hcc.block b h2).symm))
     have HTI := Lib.hid ti
     have HM0 := Lib.hid (show GL true wb.heap.size wb.heap.size (wc.alloc (.cells #[.int .i64 t.1, .slice tao t.2.length tcap] 36)).heap.size (wc.alloc (.cells #[.int .i64 t.1, .slice tao t.2.length tcap] 36)) 36 _ ((A.take i).flatMap more ++ moreTo t 0) by rw [show moreTo t 0 = [] from rfl, List.append_nil]; exact (hM.out.alloc _).top)
     have hown := Lib.hid (GL.own_ne hM.out)
     clear ht ht2 htk htk1 ti hM
     unfold maxLen at htm
     go_wp2
     go_loopw [7, 10, 11] (fun s7 s10 _ wr => ∃ (j : Nat) (kv : Int), j ≤ 8 ∧ kv = (j : Int) + 1 ∧ s10 = .int .i64 kv ∧ Hid (GL true wb.heap.size wb.heap.size wr.heap.size wr 36 s7 ((A.take i).flatMap more ++ moreTo t j)) ∧ Hid (s7.ownBlock ≠ some wc.heap.size) ∧ wr.cell? ⟨wc.heap.size, 0, none⟩ = some (.int .i64 t.1) ∧ wr.cell? ⟨wc.heap.size, 1, none⟩ = some (.slice tao t.2.length tcap) ∧ wc.heap.size < wr.heap.size ∧ Below wb.heap.size wb wr) (fun _ s10 _ _ => 9 - (intOf s10).toNat)
     case atStart => exact ⟨0, 1, by omega, rfl, rfl, HM0, hown, by simp [go_sem], by simp [go_sem], by simp, hcc.alloc sC _⟩
     case round =>
      clear HM0 hown hcc
      obtain ⟨we, hwe⟩ : ∃ wm : World, wm = wr := ⟨_, rfl⟩
      subst hwe
      obtain ⟨j, kv, hj1, hkv, rfl, hM, hown, q_t0, q_t1, lTB, hee⟩ := hrel
      have sE := hee.size
      by_cases hlj : j < 8
      ·have hk8 : kv ≤ 8 := by omega
       have hk1 : 1 ≤ kv := by omega
       have HKV := Lib.hid hkv
       clear hkv
       obtain ⟨sx, hlet_sx⟩ : ∃ r, r = sexOf t := ⟨_, rfl⟩
       have HS := Lib.hid hlet_sx
       clear hlet_sx
       obtain ⟨r1, hlet_r1⟩ : ∃ r, r = stFits (kv, 0) sx := ⟨_, rfl⟩
       have HF := Lib.hid hlet_r1
       clear hlet_r1
       go_wp2_with fail
       refine (sexOfI_any _ _ _ t (hZ.out.below hee) HTK.out sx HS.out).mono ?_
       rintro e w1 ⟨rfl, hb1⟩
       have hee1 : Below wb.heap.size wb w1 := hee.trans (hb1.mono sE)
       have hM1 := Lib.hid (hM.out.below hb1)
       have q_t0 := oldc hb1 lTB q_t0
       have q_t1 := oldc hb1 lTB q_t1
       have s1 := hb1.size
       clear hb1 hM hee
       go_wp2_with fail
       refine (stepFitsI_b _ kv 0 sx r1 HF.out).mono ?_
       rintro e w2 ⟨rfl, hb2⟩
       have s2 := hb2.size
       have hee2 : Below wb.heap.size wb w2 := hee1.trans (hb2.mono (by omega))
       have hM2 := Lib.hid (hM1.out.below hb2)
       have q_t0 := oldc hb2 (by omega) q_t0
       have q_t1 := oldc hb2 (by omega) q_t1
       have hKS := Lib.hid (show moreTo t (j + 1) = moreTo t j ++ (if r1 = true then [(t.1, t.2 ++ [(kv, 0)])] else []) by rw [moreTo_succ, ← HKV.out, kinMore, ← HS.out, ← HF.out])
       have hkvn := Lib.hid (show kv + 1 = ((j + 1 : Nat) : Int) + 1 by have := HKV.out; omega)
       have lTB2 : wc.heap.size < w2.heap.size := by omega
       clear hb2 hM1 hee1 HF HS HKV
       cases r1
       ·have HN := Lib.hid (show GL true wb.heap.size wb.heap.size w2.heap.size w2 36 _ ((A.take i).flatMap more ++ moreTo t (j + 1)) by rw [hKS.out]; simpa using hM2.out.top)
        clear hM2 hKS
        go_wp2
        go_roundw
        case rel => exact ⟨j + 1, kv + 1, by omega, hkvn.out, rfl, HN, hown, q_t0, q_t1, lTB2, hee2⟩
        case measure => simp [intOf]; omega
       ·have hll : ((A.take i).flatMap more ++ moreTo t j).length ≤ 4200 := by rw [List.length_append]; have := HLE.out; have := moreTo_len t j; omega
        go_wp2_with fail
        refine (copyTypeI_any _ _ _ t (hZ.out.below hee2) (by omega)).mono ?_
        rintro e w3 ⟨us, rfl, hgs, hb3⟩
        obtain ⟨uao, ucap, rfl, hu1, hu2⟩ := hgs.len
        have s3 := hb3.size
        have hown3 := Lib.hid (GL.own_ne hgs)
        go_wp2_with (at_builtin; refine wpList_push_at rfl rfl slStep (by show (0 : Nat) < 2; omega) ((hgs.alloc _).alloc _) rfl (ad := ⟨w3.heap.size + 1, 0, none⟩) rfl (cs := [.int .i64 kv, .int .i64 0]) (y := ((kv, 0) : Stp)) (lx := w3.heap.size + 2) (hx' := w3.heap.size + 2) ?k1 (It.flat (z := true) (w0 := w3) (fp := []) (repStp_mk ⟨by omega, by omega⟩ ⟨by omega, by omega⟩)) (by omega) (.inl (by omega)) (by unfold maxLen; omega) (by omega) ?k2 ?_)
        case k1 =>
         intro j c hj
         match j, hj with
         | 0, hj => simp at hj; subst hj; simp [Addr.add]
         | 1, hj => simp at hj; subst hj; simp [Addr.add, go_sem]
        case k2 => simp; omega
        intro g4 cap4 w4 hG4 hg4 hb4 hat4
        have s4 := hg4.size
        simp only [World.size_alloc] at s4 hat4
        have hg4lo : w2.heap.size ≤ g4 := GL.own_lo hG4 rfl
        have hg4hi : g4 < w4.heap.size := GL.own_hi hG4 rfl
        have hg4n : ¬ g4 = w3.heap.size := by
         rcases hat4 with h | h
         ·intro e; subst e; exact hown3.out h
         ·omega
        have ku : w4.heap[w3.heap.size]? = some (.cells #[.int .i64 t.1, .slice uao t.2.length ucap] 36 (0, 0)) := (hg4.block _ (by simp; omega) (fun e => hown3.out e.symm)).trans ((Below.heap_alloc _ _ _ (by simp)).trans (heap_alloc_new w3 _))
        have q_u0 : w4.cell? ⟨w3.heap.size, 0, none⟩ = some (.int .i64 t.1) := by unfold World.cell?; simp [ku]
        have q_u1 : w4.cell? ⟨w3.heap.size, 1, none⟩ = some (.slice uao t.2.length ucap) := by unfold World.cell?; simp [ku]
        have f_u : ∀ o, w4.frozen? ⟨w3.heap.size, o, none⟩ = false := fun o => by simp [World.frozen?, ku]
        have hI4 := Lib.hid (Ow.it (Ow.kin_mk HTI.out (GL.own_at hG4)))
        have hbW4 : Below w2.heap.size w2 w4 := Below.trans (show Below w2.heap.size w2 _ from (hb3.alloc (by omega) _).alloc (by simp; omega) _) hb4
        clear hgs hG4 hg4 hb4 hb3 ku hown3
        go_wp2_with (at_builtin; refine wpList_push_at rfl rfl slKin (by show (0 : Nat) < 2; omega) (hM2.out.below ?k3) rfl (ad := ⟨w4.heap.size, 0, none⟩) rfl (cs := [.int .i64 t.1, .slice (some ⟨g4, 0, none⟩) (t.2.length + 1) cap4]) (y := ((t.1, t.2 ++ [(kv, 0)]) : Kin)) (lx := g4) (hx' := g4 + 1) ?k4 (hI4.out.keep ?k5) (by omega) (.inl (by omega)) (by unfold maxLen; omega) (by omega) ?k6 ?_)
        case k3 => exact bwT
        case k4 =>
         intro j c hj
         match j, hj with
         | 0, hj => simp at hj; subst hj; simp [Addr.add, go_sem]
         | 1, hj => simp at hj; subst hj; simp [Addr.add, go_sem]
        case k5 => exact Zone.alloc (Zone.setCell (Zone.refl _ _ _) (by show w3.heap.size < g4 ∨ g4 + 1 ≤ w3.heap.size; omega) _) (by simp; omega) _
        case k6 => simp; omega
        intro g6 cap6 w6 hG6 hg6 hb6 hat6
        have hbW : Below w2.heap.size w2 ((w4.setCell ⟨w3.heap.size, 1, none⟩ (.slice (some ⟨g4, 0, none⟩) (t.2.length + 1) cap4)).alloc (.cells #[.int .i64 t.1, .slice (some ⟨g4, 0, none⟩) (t.2.length + 1) cap4] 36)) := bwT
        have s6 := hg6.size
        simp only [World.size_alloc, World.size_setCell] at s6 hat6
        have kT : w6.heap[wc.heap.size]? = w2.heap[wc.heap.size]? := (hg6.block _ (by simp; omega) (fun e => hown.out e.symm)).trans (hbW.block _ lTB2)
        have q_t0 := (World.cell?_of_block (a := ⟨wc.heap.size, 0, none⟩) kT).trans q_t0
        have q_t1 := (World.cell?_of_block (a := ⟨wc.heap.size, 1, none⟩) kT).trans q_t1
        have hg6n : ¬ g6 = wc.heap.size := by
         rcases hat6 with h | h
         ·intro e; subst e; exact hown.out h
         ·omega
        have hKS2 : (A.take i).flatMap more ++ moreTo t (j + 1) = (A.take i).flatMap more ++ (moreTo t j ++ [(t.1, t.2 ++ [(kv, 0)])]) := by rw [hKS.out]; simp
        have HN := Lib.hid hG6
        rw [← hKS2] at HN
        have hee6 : Below wb.heap.size wb w6 := Below.trans (hee2.trans (hbW.mono (by omega))) hb6
        clear hKS2 hG6 hg6 hb6 hat6 kT hbW hI4 hM2 hKS hown q_u0 q_u1 f_u hbW4
        go_wp2
        go_roundw
        case rel => exact ⟨j + 1, kv + 1, by omega, hkvn.out, rfl, HN, Lib.hid (fun e => by simp [Value.ownBlock] at e; exact hg6n e), q_t0, q_t1, by omega, hee6⟩
        case measure => simp [intOf]; omega
      ·obtain rfl : j = 8 := by omega
       have hk8 : ¬ kv ≤ 8 := by omega
       have HN := Lib.hid (show GL true wb.heap.size wb.heap.size we.heap.size we 36 _ ((A.take (i + 1)).flatMap more) by rw [HT.out]; exact hM.out)
       clear hM hown HT
       go_wp2
       go_roundw
       case rel => exact ⟨i + 1, by omega, by go_num, HN, hee⟩
       case measure => simp [intOf]; omega
    ·obtain rfl : i = A.length := by omega
     have nIi : ¬ (A.length : Int) < (A.length : Int) := by omega
     have hLS : lastT (1 : Int) (k + 1) = (A.take A.length).flatMap more := by rw [List.take_length, lastT, ← HA.out]
     have HM := hM.out
     rw [← hLS] at HM
     obtain ⟨nao, ncap, rfl, hn1, hn2⟩ := HM.len
     have HM := Lib.hid HM
     clear hLS
     have hGc := Lib.hid (hG.out.below hcc)
     have hoh := Lib.hid (fun (g : Nat) e => GL.own_hi hG.out (g := g) e)
     have hlo := HLO.out k (by omega)
     have hll := HLL.out (k + 1) (by omega)
     clear hM hL
     go_wp2_with (at_builtin; refine wpList_spread rfl rfl slKin (by show (0 : Nat) < 2; omega) hGc.out rfl rfl (GL.it (l0 := wb.heap.size) HM.out (Nat.le_refl _) (Nat.le_refl _)) (by omega) (.inl (Nat.le_refl _)) (by unfold maxLen; omega) (by omega) (by omega) ?_)
     intro v7 w7 hG7 hg7 hb7
     have hL7 := Lib.hid (((HM.out.rd (l0 := wb.heap.size) (Nat.le_refl _) (Nat.le_refl _)).weak.keep (Zone.grown (Zone.refl _ _ _) hg7 (Nat.le_refl _) (fun k' e => .inl (hoh.out k' e)))).all)
     have HG7 := Lib.hid hG7
     have hb7' : Below w.heap.size w w7 := Below.trans (hbb.trans (hcc.mono sB)) hb7
     clear hG hGc hG7 hg7 hb7 HM hoh hn1 hn2
     go_wp2
     go_roundw
     case rel => exact ⟨k + 1, by omega, by go_num, HG7, ⟨nao, ncap, rfl⟩, hL7, hb7'⟩
     case measure => simp [intOf]; omega
  ·obtain rfl : k = N := by omega
   have nI : ¬ (k : Int) < (k : Int) := by omega
   have HW := Lib.hid (hG.out.ow (l0 := w.heap.size) (Nat.le_refl _) (Nat.le_refl _))
   clear hG hL
   go_wp2
   go_ret
   exact ⟨_, rfl, HW.out, hbb⟩
set_option maxRecDepth 20000 in
set_option maxHeartbeats 16000000 in
theorem typesFromI_2 (w : World) (N : Nat) (hN1 : 1 ≤ N) (hN3 : N ≤ 3) : Calls Tryz.prog 47 #[.int .i64 (2 : Int), .int .i64 N] w (PostOw w (outT (2 : Int) N)) := by
 obtain ⟨ego, hego⟩ : ∃ e : Int, e = (2 : Int) := ⟨_, rfl⟩
 have he : ego = 1 ∨ ego = 2 := by omega
 have HOK := Lib.hid (show ∀ k, k ≤ 8 → ∀ t ∈ lastT ego k, TOk ego k t from lastT_ok he)
 have HLL := Lib.hid (show ∀ k, k ≤ 3 → (lastT ego k).length ≤ 512 from fun k hk => by
  have := lastT_len ego k
  have h2 : 8 ^ k ≤ 8 ^ 3 := Nat.pow_le_pow_right (by omega) hk
  omega)
 have HLO := Lib.hid (show ∀ k, k ≤ 3 → (outT ego k).length ≤ 4096 from fun k hk => by
  have h1 := lastT_len ego (0 + 1)
  have h2 := lastT_len ego (1 + 1)
  have h3 := lastT_len ego (2 + 1)
  obtain rfl | rfl | rfl | rfl : k = 0 ∨ k = 1 ∨ k = 2 ∨ k = 3 := by omega
  all_goals simp only [outT, List.length_append, List.length_nil]; omega)
 have hNI1 : ¬ (N : Int) < 1 := by omega
 have hNI3 : ¬ (3 : Int) < (N : Int) := by omega
 have hE64 : I64 ego := by unfold I64; omega
 have HE := Lib.hid hE64
 clear hE64 he
 subst hego
 go_enter Tryz.func47, Tryz.ntmps47
 have hlast := Lib.hid (lit_kin (w := w) HE.out 36)
 go_wp2
 go_loopw [5, 6, 30] (fun s5 s6 s30 wr => ∃ k : Nat, k ≤ N ∧ s30 = .int .i64 k ∧ Hid (GL true w.heap.size w.heap.size wr.heap.size wr 36 s5 (outT (2 : Int) k)) ∧ (∃ ao cap, s6 = .slice ao (lastT (2 : Int) k).length cap) ∧ Hid (Rd false 0 wr.heap.size wr [s6] (lastT (2 : Int) k)) ∧ Below w.heap.size w wr) (fun _ _ s30 _ => N - (intOf s30).toNat)
 case atStart => exact ⟨0, Nat.zero_le _, rfl, Lib.hid (GL.start _ _ _ _ _ _), ⟨_, _, rfl⟩, Lib.hid hlast.out.all, bwT⟩
 case round =>
  clear hlast
  obtain ⟨wb, hwb⟩ : ∃ wm : World, wm = wr := ⟨_, rfl⟩
  subst hwb
  obtain ⟨k, hk, rfl, hG, ⟨la, lc, rfl⟩, hL, hbb⟩ := hrel
  have sB := hbb.size
  by_cases hlt : k < N
  ·have hI : (k : Int) < (N : Int) := by omega
   obtain ⟨A, hA⟩ : ∃ A, A = lastT (2 : Int) k := ⟨_, rfl⟩
   rw [← hA] at hL
   rw [← hA]
   have HA := Lib.hid hA
   have hA512 : A.length ≤ 512 := by rw [hA]; exact HLL.out k (by omega)
   have HAK := Lib.hid (show ∀ t ∈ A, isKin t = true ∧ t.2.length < 8 from fun t ht => by
    have := HOK.out k (by omega) t (by rw [← HA.out]; exact ht)
    exact ⟨this.kin, by have := this.len; omega⟩)
   clear hA
   go_wp2
   go_loopw [7, 9, 10, 11, 34] (fun s7 _ _ _ s34 wr => ∃ i : Nat, i ≤ A.length ∧ s34 = .int .i64 i ∧ Hid (GL true wb.heap.size wb.heap.size wr.heap.size wr 36 s7 ((A.take i).flatMap more)) ∧ Below wb.heap.size wb wr) (fun _ _ _ _ s34 _ => A.length - (intOf s34).toNat)
   case atStart => exact ⟨0, Nat.zero_le _, rfl, Lib.hid (GL.start _ _ _ _ _ _), Below.refl _ _⟩
   case round =>
    obtain ⟨wc, hwc⟩ : ∃ wm : World, wm = wr := ⟨_, rfl⟩
    subst hwc
    obtain ⟨i, hi1, rfl, hM, hcc⟩ := hrel
    have sC := hcc.size
    by_cases hli : i < A.length
    ·have hIi : (i : Int) < (A.length : Int) := by omega
     obtain ⟨tb, toff, t, tv, rfl, ht, c0, c1, ti, ht2, htk, -, -, tbl⟩ := (hL.out.below hcc).kin_at hli
     obtain ⟨tao, tn, tcap, rfl, htn, htc, htm, -⟩ := ht2.shape
     subst htn
     obtain ⟨htk1, ht8⟩ := HAK.out t (List.mem_of_getElem? ht.out)
     have HTK := Lib.hid htk1
     have HT := Lib.hid (show (A.take (i + 1)).flatMap more = (A.take i).flatMap more ++ moreTo t 8 by rw [take_snoc ht.out, List.flatMap_append]; simp [more])
     have HLE := Lib.hid (show ((A.take i).flatMap more).length ≤ 4096 from by have := flat_more_len (A.take i); rw [List.length_take] at this; omega)
     have hZ := Lib.hid (htk.keep (w' := wb) (fun b _ h2 => (hcc.block b h2).symm))
     have HTI := Lib.hid ti
     have HM0 := Lib.hid (show GL true wb.heap.size wb.heap.size (wc.alloc (.cells #[.int .i64 t.1, .slice tao t.2.length tcap] 36)).heap.size (wc.alloc (.cells #[.int .i64 t.1, .slice tao t.2.length tcap] 36)) 36 _ ((A.take i).flatMap more ++ moreTo t 0) by rw [show moreTo t 0 = [] from rfl, List.append_nil]; exact (hM.out.alloc _).top)
     have hown := Lib.hid (GL.own_ne hM.out)
     clear ht ht2 htk htk1 ti hM
     unfold maxLen at htm
     go_wp2
     go_loopw [7, 10, 11] (fun s7 s10 _ wr => ∃ (j : Nat) (kv : Int), j ≤ 8 ∧ kv = (j : Int) + 1 ∧ s10 = .int .i64 kv ∧ Hid (GL true wb.heap.size wb.heap.size wr.heap.size wr 36 s7 ((A.take i).flatMap more ++ moreTo t j)) ∧ Hid (s7.ownBlock ≠ some wc.heap.size) ∧ wr.cell? ⟨wc.heap.size, 0, none⟩ = some (.int .i64 t.1) ∧ wr.cell? ⟨wc.heap.size, 1, none⟩ = some (.slice tao t.2.length tcap) ∧ wc.heap.size < wr.heap.size ∧ Below wb.heap.size wb wr) (fun _ s10 _ _ => 9 - (intOf s10).toNat)
     case atStart => exact ⟨0, 1, by omega, rfl, rfl, HM0, hown, by simp [go_sem], by simp [go_sem], by simp, hcc.alloc sC _⟩
     case round =>
      clear HM0 hown hcc
      obtain ⟨we, hwe⟩ : ∃ wm : World, wm = wr := ⟨_, rfl⟩
      subst hwe
      obtain ⟨j, kv, hj1, hkv, rfl, hM, hown, q_t0, q_t1, lTB, hee⟩ := hrel
      have sE := hee.size
      by_cases hlj : j < 8
      ·have hk8 : kv ≤ 8 := by omega
       have hk1 : 1 ≤ kv := by omega
       have HKV := Lib.hid hkv
       clear hkv
       obtain ⟨sx, hlet_sx⟩ : ∃ r, r = sexOf t := ⟨_, rfl⟩
       have HS := Lib.hid hlet_sx
       clear hlet_sx
       obtain ⟨r1, hlet_r1⟩ : ∃ r, r = stFits (kv, 0) sx := ⟨_, rfl⟩
       have HF := Lib.hid hlet_r1
       clear hlet_r1
       go_wp2_with fail
       refine (sexOfI_any _ _ _ t (hZ.out.below hee) HTK.out sx HS.out).mono ?_
       rintro e w1 ⟨rfl, hb1⟩
       have hee1 : Below wb.heap.size wb w1 := hee.trans (hb1.mono sE)
       have hM1 := Lib.hid (hM.out.below hb1)
       have q_t0 := oldc hb1 lTB q_t0
       have q_t1 := oldc hb1 lTB q_t1
       have s1 := hb1.size
       clear hb1 hM hee
       go_wp2_with fail
       refine (stepFitsI_b _ kv 0 sx r1 HF.out).mono ?_
       rintro e w2 ⟨rfl, hb2⟩
       have s2 := hb2.size
       have hee2 : Below wb.heap.size wb w2 := hee1.trans (hb2.mono (by omega))
       have hM2 := Lib.hid (hM1.out.below hb2)
       have q_t0 := oldc hb2 (by omega) q_t0
       have q_t1 := oldc hb2 (by omega) q_t1
       have hKS := Lib.hid (show moreTo t (j + 1) = moreTo t j ++ (if r1 = true then [(t.1, t.2 ++ [(kv, 0)])] else []) by rw [moreTo_succ, ← HKV.out, kinMore, ← HS.out, ← HF.out])
       have hkvn := Lib.hid (show kv + 1 = ((j + 1 : Nat) : Int) + 1 by have := HKV.out; omega)
       have lTB2 : wc.heap.size < w2.heap.size := by omega
       clear hb2 hM1 hee1 HF HS HKV
       cases r1
       ·have HN := Lib.hid (show GL true wb.heap.size wb.heap.size w2.heap.size w2 36 _ ((A.take i).flatMap more ++ moreTo t (j + 1)) by rw [hKS.out]; simpa using hM2.out.top)
        clear hM2 hKS
        go_wp2
        go_roundw
        case rel => exact ⟨j + 1, kv + 1, by omega, hkvn.out, rfl, HN, hown, q_t0, q_t1, lTB2, hee2⟩
        case measure => simp [intOf]; omega
       ·have hll : ((A.take i).flatMap more ++ moreTo t j).length ≤ 4200 := by rw [List.length_append]; have := HLE.out; have := moreTo_len t j; omega
        go_wp2_with fail
        refine (copyTypeI_any _ _ _ t (hZ.out.below hee2) (by omega)).mono ?_
        rintro e w3 ⟨us, rfl, hgs, hb3⟩
        obtain ⟨uao, ucap, rfl, hu1, hu2⟩ := hgs.len
        have s3 := hb3.size
        have hown3 := Lib.hid (GL.own_ne hgs)
        go_wp2_with (at_builtin; refine wpList_push_at rfl rfl slStep (by show (0 : Nat) < 2; omega) ((hgs.alloc _).alloc _) rfl (ad := ⟨w3.heap.size + 1, 0, none⟩) rfl (cs := [.int .i64 kv, .int .i64 0]) (y := ((kv, 0) : Stp)) (lx := w3.heap.size + 2) (hx' := w3.heap.size + 2) ?k1 (It.flat (z := true) (w0 := w3) (fp := []) (repStp_mk ⟨by omega, by omega⟩ ⟨by omega, by omega⟩)) (by omega) (.inl (by omega)) (by unfold maxLen; omega) (by omega) ?k2 ?_)
        case k1 =>
         intro j c hj
         match j, hj with
         | 0, hj => simp at hj; subst hj; simp [Addr.add]
         | 1, hj => simp at hj; subst hj; simp [Addr.add, go_sem]
        case k2 => simp; omega
        intro g4 cap4 w4 hG4 hg4 hb4 hat4
        have s4 := hg4.size
        simp only [World.size_alloc] at s4 hat4
        have hg4lo : w2.heap.size ≤ g4 := GL.own_lo hG4 rfl
        have hg4hi : g4 < w4.heap.size := GL.own_hi hG4 rfl
        have hg4n : ¬ g4 = w3.heap.size := by
         rcases hat4 with h | h
         ·intro e; subst e; exact hown3.out h
         ·omega
        have ku : w4.heap[w3.heap.size]? = some (.cells #[.int .i64 t.1, .slice uao t.2.length ucap] 36 (0, 0)) := (hg4.block _ (by simp; omega) (fun e => hown3.out e.symm)).trans ((Below.heap_alloc _ _ _ (by simp)).trans (heap_alloc_new w3 _))
        have q_u0 : w4.cell? ⟨w3.heap.size, 0, none⟩ = some (.int .i64 t.1) := by unfold World.cell?; simp [ku]
        have q_u1 : w4.cell? ⟨w3.heap.size, 1, none⟩ = some (.slice uao t.2.length ucap) := by unfold World.cell?; simp [ku]
        have f_u : ∀ o, w4.frozen? ⟨w3.heap.size, o, none⟩ = false := fun o => by simp [World.frozen?, ku]
        have hI4 := Lib.hid (Ow.it (Ow.kin_mk HTI.out (GL.own_at hG4)))
        have hbW4 : Below w2.heap.size w2 w4 := Below.trans (show Below w2.heap.size w2 _ from (hb3.alloc (by omega) _).alloc (by simp; omega) _) hb4
        clear hgs hG4 hg4 hb4 hb3 ku hown3
        go_wp2_with (at_builtin; refine wpList_push_at rfl rfl slKin (by show (0 : Nat) < 2; omega) (hM2.out.below ?k3) rfl (ad := ⟨w4.heap.size, 0, none⟩) rfl (cs := [.int .i64 t.1, .slice (some ⟨g4, 0, none⟩) (t.2.length + 1) cap4]) (y := ((t.1, t.2 ++ [(kv, 0)]) : Kin)) (lx := g4) (hx' := g4 + 1) ?k4 (hI4.out.keep ?k5) (by omega) (.inl (by omega)) (by unfold maxLen; omega) (by omega) ?k6 ?_)
        case k3 => exact bwT
        case k4 =>
         intro j c hj
         match j, hj with
         | 0, hj => simp at hj; subst hj; simp [Addr.add, go_sem]
         | 1, hj => simp at hj; subst hj; simp [Addr.add, go_sem]
        case k5 => exact Zone.alloc (Zone.setCell (Zone.refl _ _ _) (by show w3.heap.size < g4 ∨ g4 + 1 ≤ w3.heap.size; omega) _) (by simp; omega) _
        case k6 => simp; omega
        intro g6 cap6 w6 hG6 hg6 hb6 hat6
        have hbW : Below w2.heap.size w2 ((w4.setCell ⟨w3.heap.size, 1, none⟩ (.slice (some ⟨g4, 0, none⟩) (t.2.length + 1) cap4)).alloc (.cells #[.int .i64 t.1, .slice (some ⟨g4, 0, none⟩) (t.2.length + 1) cap4] 36)) := bwT
        have s6 := hg6.size
        simp only [World.size_alloc, World.size_setCell] at s6 hat6
        have kT : w6.heap[wc.heap.size]? = w2.heap[wc.heap.size]? := (hg6.block _ (by simp; omega) (fun e => hown.out e.symm)).trans (hbW.block _ lTB2)
        have q_t0 := (World.cell?_of_block (a := ⟨wc.heap.size, 0, none⟩) kT).trans q_t0
        have q_t1 := (World.cell?_of_block (a := ⟨wc.heap.size, 1, none⟩) kT).trans q_t1
        have hg6n : ¬ g6 = wc.heap.size := by
         rcases hat6 with h | h
         ·intro e; subst e; exact hown.out h
         ·omega
        have hKS2 : (A.take i).flatMap more ++ moreTo t (j + 1) = (A.take i).flatMap more ++ (moreTo t j ++ [(t.1, t.2 ++ [(kv, 0)])]) := by rw [hKS.out]; simp
        have HN := Lib.hid hG6
        rw [← hKS2] at HN
        have hee6 : Below wb.heap.size wb w6 := Below.trans (hee2.trans (hbW.mono (by omega))) hb6
        clear hKS2 hG6 hg6 hb6 hat6 kT hbW hI4 hM2 hKS hown q_u0 q_u1 f_u hbW4
        go_wp2
        go_roundw
        case rel => exact ⟨j + 1, kv + 1, by omega, hkvn.out, rfl, HN, Lib.hid (fun e => by simp [Value.ownBlock] at e; exact hg6n e), q_t0, q_t1, by omega, hee6⟩
        case measure => simp [intOf]; omega
      ·obtain rfl : j = 8 := by omega
       have hk8 : ¬ kv ≤ 8 := by omega
       have HN := Lib.hid (show GL true wb.heap.size wb.heap.size we.heap.size we 36 _ ((A.take (i + 1)).flatMap more) by rw [HT.out]; exact hM.out)
       clear hM hown HT
       go_wp2
       go_roundw
       case rel => exact ⟨i + 1, by omega, by go_num, HN, hee⟩
       case measure => simp [intOf]; omega
    ·obtain rfl : i = A.length := by omega
     have nIi : ¬ (A.length : Int) < (A.length : Int) := by omega
     have hLS : lastT (2 : Int) (k + 1) = (A.take A.length).flatMap more := by rw [List.take_length, lastT, ← HA.out]
     have HM := hM.out
     rw [← hLS] at HM
     obtain ⟨nao, ncap, rfl, hn1, hn2⟩ := HM.len
     have HM := Lib.hid HM
     clear hLS
     have hGc := Lib.hid (hG.out.below hcc)
     have hoh := Lib.hid (fun (g : Nat) e => GL.own_hi hG.out (g := g) e)
     have hlo := HLO.out k (by omega)
     have hll := HLL.out (k + 1) (by omega)
     clear hM hL
     go_wp2_with (at_builtin; refine wpList_spread rfl rfl slKin (by show (0 : Nat) < 2; omega) hGc.out rfl rfl (GL.it (l0 := wb.heap.size) HM.out (Nat.le_refl _) (Nat.le_refl _)) (by omega) (.inl (Nat.le_refl _)) (by unfold maxLen; omega) (by omega) (by omega) ?_)
     intro v7 w7 hG7 hg7 hb7
     have hL7 := Lib.hid (((HM.out.rd (l0 := wb.heap.size) (Nat.le_refl _) (Nat.le_refl _)).weak.keep (Zone.grown (Zone.refl _ _ _) hg7 (Nat.le_refl _) (fun k' e => .inl (hoh.out k' e)))).all)
     have HG7 := Lib.hid hG7
     have hb7' : Below w.heap.size w w7 := Below.trans (hbb.trans (hcc.mono sB)) hb7
     clear hG hGc hG7 hg7 hb7 HM hoh hn1 hn2
     go_wp2
     go_roundw
     case rel => exact ⟨k + 1, by omega, by go_num, HG7, ⟨nao, ncap, rfl⟩, hL7, hb7'⟩
     case measure => simp [intOf]; omega
  ·obtain rfl : k = N := by omega
   have nI : ¬ (k : Int) < (k : Int) := by omega
   have HW := Lib.hid (hG.out.ow (l0 := w.heap.size) (Nat.le_refl _) (Nat.le_refl _))
   clear hG hL
   go_wp2
   go_ret
   exact ⟨_, rfl, HW.out, hbb⟩
theorem typesFromI_1n (w : World) (n : Int) : Calls Tryz.prog 47 #[.int .i64 1, .int .i64 n] w (PostOw w (typesX 1 n)) := by
 by_cases h1 : n < 1
 ·have HF := Lib.hid (show typesX 1 n = [] by unfold typesX; rw [if_neg]; simp [typesV]; omega)
  go_enter Tryz.func47, Tryz.ntmps47
  go_wp2
  go_ret
  exact ⟨_, rfl, by rw [HF.out]; exact Ow.nil _ _ _, Below.refl _ _⟩
 by_cases h2 : 3 < n
 ·have HF := Lib.hid (show typesX 1 n = [] by unfold typesX; rw [if_neg]; simp [typesV]; omega)
  go_enter Tryz.func47, Tryz.ntmps47
  go_wp2
  go_ret
  exact ⟨_, rfl, by rw [HF.out]; exact Ow.nil _ _ _, Below.refl _ _⟩
 obtain ⟨N, rfl⟩ := Int.eq_ofNat_of_zero_le (show 0 ≤ n by omega)
 rw [show typesX 1 (N : Int) = outT 1 N by unfold typesX; rw [if_pos (by simp [typesV]; omega), Int.toNat_natCast]]
 exact typesFromI_1 w N (by omega) (by omega)
theorem typesFromI_2n (w : World) (n : Int) : Calls Tryz.prog 47 #[.int .i64 2, .int .i64 n] w (PostOw w (typesX 2 n)) := by
 by_cases h1 : n < 1
 ·have HF := Lib.hid (show typesX 2 n = [] by unfold typesX; rw [if_neg]; simp [typesV]; omega)
  go_enter Tryz.func47, Tryz.ntmps47
  go_wp2
  go_ret
  exact ⟨_, rfl, by rw [HF.out]; exact Ow.nil _ _ _, Below.refl _ _⟩
 by_cases h2 : 3 < n
 ·have HF := Lib.hid (show typesX 2 n = [] by unfold typesX; rw [if_neg]; simp [typesV]; omega)
  go_enter Tryz.func47, Tryz.ntmps47
  go_wp2
  go_ret
  exact ⟨_, rfl, by rw [HF.out]; exact Ow.nil _ _ _, Below.refl _ _⟩
 obtain ⟨N, rfl⟩ := Int.eq_ofNat_of_zero_le (show 0 ≤ n by omega)
 rw [show typesX 2 (N : Int) = outT 2 N by unfold typesX; rw [if_pos (by simp [typesV]; omega), Int.toNat_natCast]]
 exact typesFromI_2 w N (by omega) (by omega)
theorem typesFromI_any (w : World) (ego n : Int) : Calls Tryz.prog 47 #[.int .i64 ego, .int .i64 n] w (PostOw w (typesX ego n)) := by
 by_cases h1 : ego = 1
 ·subst h1; exact typesFromI_1n w n
 by_cases h2 : ego = 2
 ·subst h2; exact typesFromI_2n w n
 have n1 : (ego != 1) = true := by simpa using h1
 have n2 : (ego != 2) = true := by simpa using h2
 have HF := Lib.hid (show typesX ego n = [] by unfold typesX; rw [if_neg]; simp [typesV, h1, h2])
 go_enter Tryz.func47, Tryz.ntmps47
 go_wp2
 go_ret
 exact ⟨_, rfl, by rw [HF.out]; exact Ow.nil _ _ _, Below.refl _ _⟩
theorem sub_flat {α : Type} {a b : List (List α)} (h : List.Sublist a b) : List.Sublist a.flatten b.flatten := by
 induction h with
 | slnil => exact List.Sublist.refl _
 | cons x _ ih => rw [List.flatten_cons]; exact ih.trans (List.sublist_append_right x _)
 | cons_cons x _ ih => rw [List.flatten_cons, List.flatten_cons]; exact (List.Sublist.refl x).append ih
def GS {α : Type} [Rep α] (lo : Nat) (w : World) (E : TypeId) (v : Value) (xs : List α) (FP : List (List Nat)) : Prop :=
 ∃ css fps, w.ownsRow lo E (Rep.sz α) v xs.length css.flatten ∧ Zip (Rep.rep true w) css xs fps ∧ List.Sublist fps FP ∧ ∀ b ∈ fps.flatten, b < lo
section
variable {α : Type} [Rep α] {lo : Nat} {w w' : World} {E : TypeId} {v : Value} {xs : List α} {FP : List (List Nat)}
theorem GS.start (lo : Nat) (w : World) (E : TypeId) : GS (α := α) lo w E (.slice none 0 0) [] [] :=
 ⟨[], [], by simpa using World.ownsRow_nil w lo E (Rep.sz α), trivial, List.Sublist.refl _, by simp⟩
theorem GS.skip (h : GS lo w E v xs FP) (f : List Nat) : GS lo w E v xs (FP ++ [f]) := by
 obtain ⟨css, fps, ho, hz, hs, hb⟩ := h
 exact ⟨css, fps, ho, hz, hs.trans (List.sublist_append_left _ _), hb⟩
theorem GS.below (h : GS lo w E v xs FP) (hb : Below w.heap.size w w') : GS lo w' E v xs FP := by
 obtain ⟨css, fps, ho, hz, hs, hl⟩ := h
 refine ⟨css, fps, ⟨ho.1, ?_⟩, hz.keep (fun b hb' => hb.block b (hz.lt b hb')), hs, hl⟩
 rcases ho.2 with h | ⟨g, cap, cur, rfl, hbb, hh, r⟩
 ·exact .inl h
 ·exact .inr ⟨g, cap, cur, rfl, hbb, by rw [hb.block g (ho.lt g rfl).2]; exact hh, r⟩
theorem GS.alloc (h : GS lo w E v xs FP) (o : Obj) : GS lo (w.alloc o) E v xs FP := h.below ((Below.refl _ _).alloc (Nat.le_refl _) o)
theorem GS.len (h : GS lo w E v xs FP) : ∃ ao cap, v = .slice ao xs.length cap ∧ xs.length ≤ cap ∧ cap ≤ maxLen := by
 obtain ⟨css, fps, ho, _⟩ := h
 rcases ho.2 with ⟨rfl, h⟩ | ⟨g, cap, cur, rfl, hbb, hh, h1, h2, r⟩
 ·rw [h]; exact ⟨none, 0, rfl, Nat.le_refl _, by simp [maxLen]⟩
 ·exact ⟨_, cap, rfl, h1, h2⟩
theorem GS.ow (h : GS lo w E v xs FP) (hn : FP.flatten.Nodup) {l0 : Nat} (h0 : l0 ≤ lo) (hz0 : ∀ b ∈ FP.flatten, l0 ≤ b) : Ow l0 w.heap.size w [v] xs := by
 obtain ⟨css, fps, ho, hz, hs, hl⟩ := h
 have hsub : List.Sublist fps.flatten FP.flatten := sub_flat hs
 rcases ho.2 with ⟨rfl, h⟩ | ⟨g, cap, cur, rfl, hbb, hh, h3, h4, h5, h6⟩
 ·exact ⟨[], ⟨_, rfl, none, 0, 0, rfl, h, Nat.le_refl _, by simp [maxLen], fun _ => rfl, .inl ⟨rfl, rfl⟩⟩, (fun _ h => by cases h), List.nodup_nil⟩
 ·refine ⟨g :: fps.flatten, ⟨_, rfl, some ⟨g, 0, none⟩, xs.length, cap, rfl, rfl, h3, h4, (fun h => by cases h), .inr ⟨g, 0, css, fps, rfl, (ho.lt g rfl).2, rfl, hz, ?_, ?_⟩⟩, ?_, List.nodup_cons.2 ⟨fun hm => by have := hl g hm; omega, hsub.nodup hn⟩⟩
  ·intro j c hj
   have := ho.cells (g := g) rfl j c hj
   by_cases hj0 : j = 0
   ·subst hj0; simpa [Addr.add] using this
   ·simpa [Addr.add, hj0] using this
  ·intro _ o
   simp [World.frozen?, hh]
  ·intro b hb
   rcases List.mem_cons.1 hb with rfl | hb
   ·exact ⟨Nat.le_trans h0 hbb, (ho.lt b rfl).2⟩
   ·exact ⟨hz0 b (hsub.subset hb), hz.lt b hb⟩
end
section
variable {P : Program} {α : Type} [Rep α] {lo : Nat} {w : World} {E : TypeId} {v : Value} {xs : List α} {FP : List (List Nat)}
end
section
variable {P : Program} (w : World)
end
def GZ {α : Type} [Rep α] (lo : Nat) (w : World) (E : TypeId) (v : Value) (xs : List α) (FP : List (List Nat)) : Prop := GS lo w E v xs FP ∨ (xs = [] ∧ ∃ a0, v = .slice (some a0) 0 0)
section
variable {α : Type} [Rep α] {lo : Nat} {w w' : World} {E : TypeId} {v : Value} {xs : List α} {FP : List (List Nat)}
theorem GZ.skip (h : GZ lo w E v xs FP) (f : List Nat) : GZ lo w E v xs (FP ++ [f]) := h.imp (fun h => h.skip f) id
theorem GZ.below (h : GZ lo w E v xs FP) (hb : Below w.heap.size w w') : GZ lo w' E v xs FP := h.imp (fun h => h.below hb) id
theorem GZ.alloc (h : GZ lo w E v xs FP) (o : Obj) : GZ lo (w.alloc o) E v xs FP := h.imp (fun h => h.alloc o) id
theorem GZ.start (lo : Nat) (w : World) (E : TypeId) : GZ (α := α) lo w E (.slice none 0 0) [] [] := .inl (GS.start _ _ _)
theorem GZ.lit0 (lo : Nat) (w : World) (E : TypeId) (a0 : Addr) : GZ (α := α) lo w E (.slice (some a0) 0 0) [] [] := .inr ⟨rfl, a0, rfl⟩
theorem GZ.len (h : GZ lo w E v xs FP) : ∃ ao cap, v = .slice ao xs.length cap ∧ xs.length ≤ cap ∧ cap ≤ maxLen := by
 rcases h with h | ⟨rfl, a0, rfl⟩
 ·exact h.len
 ·exact ⟨_, 0, rfl, Nat.le_refl _, by simp [maxLen]⟩
theorem GZ.ow (h : GZ lo w E v xs FP) (hn : FP.flatten.Nodup) {l0 : Nat} (h0 : l0 ≤ lo) (hz0 : ∀ b ∈ FP.flatten, l0 ≤ b) : Ow l0 w.heap.size w [v] xs := by
 rcases h with h | ⟨rfl, a0, rfl⟩
 ·exact h.ow hn h0 hz0
 ·exact ⟨[], ⟨_, rfl, _, 0, 0, rfl, rfl, Nat.le_refl _, by simp [maxLen], (fun h => by cases h), .inl ⟨rfl, rfl⟩⟩, (fun _ h => by cases h), List.nodup_nil⟩
end
section
variable {P : Program} {α : Type} [Rep α] {lo : Nat} {w : World} {E : TypeId} {v : Value} {xs : List α} {FP : List (List Nat)}
end
theorem Ow.items {α : Type} [Rep α] {lo hi : Nat} {w : World} {ao : Option Addr} {n cap : Nat} {xs : List α} (h : Ow lo hi w [.slice ao n cap] xs) : ∃ FPS : List (List Nat), FPS.length = xs.length ∧ FPS.flatten.Nodup ∧ (∀ b ∈ FPS.flatten, lo ≤ b ∧ b < hi) ∧
  ∀ i x, xs[i]? = some x → ∃ b off cs fp, ao = some ⟨b, off, none⟩ ∧ FPS[i]? = some fp ∧ Rep.rep true w cs x fp ∧ (∀ j c, cs[j]? = some c → w.cell? ⟨b, off + (i * Rep.sz α + j), none⟩ = some c) := by
 obtain ⟨fp, ⟨_, e, ao', n', cap', e2, e1, -, -, -, hr⟩, hz, hn⟩ := h
 simp only [List.cons.injEq, and_true] at e
 subst e
 simp only [Value.slice.injEq] at e2
 obtain ⟨rfl, rfl, rfl⟩ := e2
 rcases hr with ⟨h0, rfl⟩ | ⟨b, off, css, fps, rfl, hb, rfl, hzip, hcells, -⟩
 ·have hx : xs = [] := List.eq_nil_of_length_eq_zero (by omega)
  subst hx
  exact ⟨[], rfl, List.nodup_nil, (fun b hb => by simp at hb), fun i x hi => by simp at hi⟩
 ·refine ⟨fps, hzip.lens.2, (List.nodup_cons.1 hn).2, fun b hb => hz b (List.mem_cons_of_mem _ hb), fun i x hi => ?_⟩
  obtain ⟨cs, f, h1, h2, h3⟩ := hzip.get hi
  refine ⟨b, off, cs, f, rfl, h2, h3, fun j c hj => ?_⟩
  have hjl : j < Rep.sz α := by
   have := (List.getElem?_eq_some_iff.1 hj).1
   rw [Rep.len h3] at this; exact this
  refine hcells _ c ?_
  rw [cellsAt_flat hzip.sizes h1 j hjl]; exact hj
def allowL (c : Cls) (n : Int) : List Kin := (typesX 1 n).filter (allowB c)
def allowX (c : Cls) (n : Int) : List Kin := if isCls c = true then allowL c n else []
theorem outT_len (ego : Int) : ∀ n, n ≤ 3 → (outT ego n).length ≤ 584
 | 0, _ => by simp [outT]
 | 1, _ => by have := lastT_len ego 1; simp only [outT, List.length_append, List.length_nil, Nat.zero_add, Nat.reduceAdd] at *; omega
 | 2, _ => by have := lastT_len ego 1; have := lastT_len ego 2; simp only [outT, List.length_append, List.length_nil, Nat.zero_add, Nat.reduceAdd] at *; omega
 | 3, _ => by have := lastT_len ego 1; have := lastT_len ego 2; have := lastT_len ego 3; simp only [outT, List.length_append, List.length_nil, Nat.zero_add, Nat.reduceAdd] at *; omega
theorem typesX_len (ego n : Int) : (typesX ego n).length ≤ 600 := by
 unfold typesX
 split
 ·rename_i h
  unfold typesV at h
  simp only [Bool.and_eq_true, decide_eq_true_eq] at h
  have := outT_len ego n.toNat (by omega)
  omega
 ·simp
theorem typesX_kin {ego n : Int} {t : Kin} (h : t ∈ typesX ego n) : isKin t = true ∧ t.2.length ≤ 3 ∧ t.1 = ego := by
 unfold typesX at h
 split at h
 ·rename_i hv
  unfold typesV at hv
  simp only [Bool.and_eq_true, decide_eq_true_eq] at hv
  have := outT_ok hv.1 n.toNat (by omega) t h
  exact ⟨this.1, by omega, this.2.2⟩
 ·cases h
def entAt (y : Trm) (t : Kin) : Option Ent := (termOf y t).map fun s => (t, s)
def tblL (y : Trm) (ego n : Int) : List Ent := (typesX ego n).filterMap (entAt y)
def tblX (y : Trm) (ego n : Int) : List Ent := if isTerm y = true then tblL y ego n else []
theorem tmText_le {y : Trm} (h : true = isTerm y) (t : Kin) : (tmText (termOf y t)).size ≤ maxLen := by
 cases e : termOf y t with
 | none => simp [tmText, maxLen]
 | some s =>
   have := termOf_ne h.symm e
   unfold nameOk at this
   simp only [Bool.and_eq_true, decide_eq_true_eq] at this
   show s.size ≤ maxLen
   unfold maxLen
   omega
set_option maxRecDepth 20000 in
set_option maxHeartbeats 16000000 in
theorem l3MoreS_any {z : Bool} {lo hi : Nat} (w : World) (a b : Value) (t : Kin) (h : Rd z lo hi w [a, b] t) (ht : isKin t = true) (hl : t.2.length < 8) : Calls Tryz.prog 84 #[.agg #[a, b]] w (PostOw w (more t)) := by
 obtain ⟨rfl, hI, hb⟩ := h.kin
 obtain ⟨ao, n, cap, rfl, hn, hnc, hcm, hnone⟩ := hb.shape
 subst hn
 unfold maxLen at *
 have HI := Lib.hid hI
 have HK := Lib.hid (fun s => isKin_snoc ht hl s)
 have hZ := Lib.hid hb
 clear h hI hb ht hnone
 obtain ⟨W0, hW0⟩ : ∃ W0 : World, W0 = w.alloc (.cells #[.int .i64 t.1, .slice ao t.2.length cap] 36) := ⟨_, rfl⟩
 have hB0 : Below w.heap.size w W0 := by subst hW0; exact bwT
 have sz0 : W0.heap.size = w.heap.size + 1 := by subst hW0; simp
 have qa_t0 : W0.cell? ⟨w.heap.size, 0, none⟩ = some (.int .i64 t.1) := by subst hW0; simp [go_sem]
 have qa_t1 : W0.cell? ⟨w.heap.size, 1, none⟩ = some (.slice ao t.2.length cap) := by subst hW0; simp [go_sem]
 have HG0 := Lib.hid (show GL true W0.heap.size W0.heap.size (W0.alloc (.cells #[] 36)).heap.size (W0.alloc (.cells #[] 36)) 36 (.slice (some ⟨w.heap.size + 1, 0, none⟩) 0 0) (moreTo t 0) by
  rw [show w.heap.size + 1 = W0.heap.size from sz0.symm]
  exact (GL.lit0 (α := Kin) true W0.heap.size W0.heap.size W0 36 (Nat.le_refl _)).top)
 have lw0 : w.heap.size < W0.heap.size := by omega
 go_enter Tryz.func84, Tryz.ntmps84
 go_wp2
 rw [← hW0]
 clear hW0 sz0
 go_loopw [3, 4, 5] (fun s3 s4 _ wr => ∃ (j : Nat) (kv : Int), j ≤ 8 ∧ kv = (j : Int) + 1 ∧ s4 = .int .i64 kv ∧ Hid (GL true W0.heap.size W0.heap.size wr.heap.size wr 36 s3 (moreTo t j)) ∧ Below W0.heap.size W0 wr) (fun _ s4 _ _ => 9 - (intOf s4).toNat)
 case atStart => exact ⟨0, 1, by omega, rfl, rfl, HG0, bwT⟩
 case round =>
  clear HG0
  obtain ⟨we, hwe⟩ : ∃ wm : World, wm = wr := ⟨_, rfl⟩
  subst hwe
  obtain ⟨j, kv, hj1, hkv, rfl, hM, hee⟩ := hrel
  have sE := hee.size
  have q_t0 := oldc hee lw0 qa_t0
  have q_t1 := oldc hee lw0 qa_t1
  have l_t : w.heap.size < we.heap.size := by omega
  have hew : Below w.heap.size w we := hB0.trans (hee.mono hB0.size)
  by_cases hlj : j < 8
  ·have hk8 : kv ≤ 8 := by omega
   have hk1 : 1 ≤ kv := by omega
   obtain ⟨r1, hlet_r1⟩ : ∃ r, r = isKin (t.1, t.2 ++ [(kv, 0)]) := ⟨_, rfl⟩
   have HF := Lib.hid hlet_r1
   clear hlet_r1
   have hKS := Lib.hid (show moreTo t (j + 1) = moreTo t j ++ (if r1 = true then [(t.1, t.2 ++ [(kv, 0)])] else []) by rw [moreTo_succ, ← hkv, kinMore, ← HK.out, ← HF.out])
   have hkvn := Lib.hid (show kv + 1 = ((j + 1 : Nat) : Int) + 1 by omega)
   have hll : (moreTo t j).length ≤ 8 := by have := moreTo_len t j; omega
   clear hkv
   go_wp2_with (at_builtin; refine wpList_spread_flat rfl rfl slStep (by show (0 : Nat) < 2; omega) (GL.start true (we.heap.size + 1) (we.heap.size + 1) (we.heap.size + 1) _ _) rfl rfl (hZ.out.below ?k1) (by unfold maxLen; simp; omega) (by simp; omega) (by simp) ?_)
   case k1 => exact bwT
   intro v1 w1 hG1 _ hb1
   (try simp only [List.nil_append] at hG1)
   obtain ⟨vao, vcap, rfl, hv1, hv2⟩ := hG1.len
   have s1 := hb1.size
   simp only [World.size_alloc] at s1
   have u0 : w1.cell? ⟨we.heap.size, 0, none⟩ = some (.int .i64 t.1) := oldc hb1 (by omega) (by simp [go_sem])
   have u1 : w1.cell? ⟨we.heap.size, 1, none⟩ = some (.slice none 0 0) := oldc hb1 (by omega) (by simp [go_sem])
   have uf : ∀ o, w1.frozen? ⟨we.heap.size, o, none⟩ = false := fun o => (hb1.frozen (p := ⟨we.heap.size, o, none⟩) (by simp)).trans (by simp [go_sem])
   have hbe1 : Below we.heap.size we w1 := Below.trans (show Below we.heap.size we _ from bwT) (hb1.mono (by omega))
   clear hb1
   go_wp2_with (at_builtin; refine wpList_push_at rfl rfl slStep (by show (0 : Nat) < 2; omega) ((hG1.keep ?k2 ?k3).alloc _) rfl (ad := ⟨w1.heap.size, 0, none⟩) rfl (cs := [.int .i64 kv, .int .i64 0]) (y := ((kv, 0) : Stp)) (lx := w1.heap.size + 1) (hx' := w1.heap.size + 1) ?k4 (It.flat (z := true) (w0 := w1) (fp := []) (repStp_mk ⟨by omega, by omega⟩ ⟨by omega, by omega⟩)) (by omega) (.inl (by omega)) (by unfold maxLen; omega) (by omega) ?k5 ?_)
   case k2 => exact znT
   case k3 => exact znT
   case k4 =>
    intro j c hj
    match j, hj with
    | 0, hj => simp at hj; subst hj; simp [Addr.add, go_sem]
    | 1, hj => simp at hj; subst hj; simp [Addr.add, go_sem]
   case k5 => simp; omega
   intro g4 cap4 w4 hG4 hg4 hb4 hat4
   have s4 := hb4.size
   simp only [World.size_alloc, World.size_setCell] at s4
   have lu : we.heap.size < w1.heap.size := by omega
   have q_u0 : w4.cell? ⟨we.heap.size, 0, none⟩ = some (.int .i64 t.1) := oldc hb4 (by omega) (by simp [go_sem, u0, u1, lu])
   have q_u1 : w4.cell? ⟨we.heap.size, 1, none⟩ = some (.slice vao t.2.length vcap) := oldc hb4 (by omega) (by simp [go_sem, u0, u1, lu])
   have f_u : ∀ o, w4.frozen? ⟨we.heap.size, o, none⟩ = false := fun o => (hb4.frozen (p := ⟨we.heap.size, o, none⟩) (by simp)).trans (by simp [go_sem, uf, lu])
   have HO4 := Lib.hid (hG4.ow (l0 := we.heap.size + 1) (Nat.le_refl _) (Nat.le_refl _))
   have hbe4 : Below we.heap.size we w4 := Below.trans (show Below we.heap.size we _ from (hbe1.setCell (p := ⟨we.heap.size, 1, none⟩) (Nat.le_refl _) _).alloc (by simp; omega) _) (hb4.mono (by omega))
   clear hG1 hG4 hg4 hb4 hat4 u0 u1 uf
   go_wp2_with fail
   refine (isTypeS_b _ _ _ (t.1, t.2 ++ [(kv, 0)]) (Rd.kin_mk HI.out (HO4.out.rd.keep ?k6)) r1 HF.out).mono ?_
   case k6 => exact znT
   rintro e w6 ⟨rfl, hb6⟩
   have s6 := hb6.size
   simp only [World.size_setCell] at s6
   have HO6 : Ow (we.heap.size + 1) w4.heap.size w6 [.int .i64 t.1, .slice (some ⟨g4, 0, none⟩) (t.2.length + 1) cap4] ((t.1, t.2 ++ [(kv, 0)]) : Kin) := by
    refine Ow.below (Ow.kin_mk HI.out (HO4.out.keep ?_)) hb6
    exact znT
   have HO6 := Lib.hid HO6
   have q_u0 : w6.cell? ⟨we.heap.size, 0, none⟩ = some (.int .i64 t.1) := oldc hb6 (by simp; omega) (by simp [go_sem, q_u0, q_u1])
   have q_u1 : w6.cell? ⟨we.heap.size, 1, none⟩ = some (.slice (some ⟨g4, 0, none⟩) (t.2.length + 1) cap4) := oldc hb6 (by simp; omega) (by simp [go_sem, q_u0, q_u1])
   have hbe6 : Below we.heap.size we w6 := Below.trans (show Below we.heap.size we _ from hbe4.setCell (p := ⟨we.heap.size, 1, none⟩) (Nat.le_refl _) _) (hb6.mono (by simp; omega))
   have hM6 := Lib.hid (hM.out.below hbe6)
   have hee6 : Below W0.heap.size W0 w6 := hee.trans (hbe6.mono sE)
   clear hb6 HO4 hM hbe6 hbe4 hbe1 HF
   cases r1
   ·have HN := Lib.hid hM6.out.top
    rw [show moreTo t j = moreTo t (j + 1) by rw [hKS.out]; simp] at HN
    clear hM6 hKS HO6
    go_wp2
    go_roundw
    case rel => exact ⟨j + 1, kv + 1, by omega, hkvn.out, rfl, HN, hee6⟩
    case measure => simp [intOf]; omega
   ·go_wp2_with (at_builtin; refine wpList_push_at rfl rfl slKin (by show (0 : Nat) < 2; omega) (hM6.out.alloc _) rfl (ad := ⟨w6.heap.size, 0, none⟩) rfl (cs := [.int .i64 t.1, .slice (some ⟨g4, 0, none⟩) (t.2.length + 1) cap4]) (y := ((t.1, t.2 ++ [(kv, 0)]) : Kin)) (lx := we.heap.size + 1) (hx' := w4.heap.size) ?k7 ((Ow.it HO6.out).keep ?k8) (by omega) (.inl (by omega)) (by unfold maxLen; omega) (by omega) ?k9 ?_)
    case k7 =>
     intro j c hj
     match j, hj with
     | 0, hj => simp at hj; subst hj; simp [Addr.add, go_sem]
     | 1, hj => simp at hj; subst hj; simp [Addr.add, go_sem]
    case k8 => exact Zone.alloc (Zone.refl _ _ _) (by omega) _
    case k9 => simp; omega
    intro g8 cap8 w8 hG8 hg8 hb8 hat8
    have HN := Lib.hid hG8
    rw [show moreTo t j ++ [(t.1, t.2 ++ [(kv, 0)])] = moreTo t (j + 1) by rw [hKS.out]; simp] at HN
    have hee8 : Below W0.heap.size W0 w8 := Below.trans (hee6.alloc (by omega) _) hb8
    clear hM6 hKS HO6 hG8 hg8 hb8 hat8
    go_wp2
    go_roundw
    case rel => exact ⟨j + 1, kv + 1, by omega, hkvn.out, rfl, HN, hee8⟩
    case measure => simp [intOf]; omega
  ·obtain rfl : j = 8 := by omega
   have hk8 : ¬ kv ≤ 8 := by omega
   have HW := Lib.hid (hM.out.ow (l0 := w.heap.size) (by omega) (by omega))
   clear hM
   go_wp2
   go_ret
   exact ⟨_, rfl, HW.out, hew⟩
end Go.Proofs.YtdpkldapobbnpaaGreatDoor
