/- Contract of the reference's l1Family: the drawn family is valid. Written by mkfd_gen.py. -/
import Derived.Test.YtefbbbhidnnchaaMkfO
import Derived.Lib.MinMax
namespace Go.Proofs.Ytefbbbhidnnchaa
set_option linter.unusedVariables false
set_option linter.unusedSimpArgs false
open Go.RowKit

theorem GX.nil {α : Type} [Rep α] (S : Nat → Prop) (w : World) (E : TypeId) : GX (α := α) S w E (.slice none 0 0) [] :=
  ⟨[], [], by simpa using World.ownsRow_nil w 0 E (Rep.sz α), trivial, by simp, by simp [Value.ownBlock], List.nodup_nil⟩
def MF (ps : List Per) : Prop := Grown ps ∧ ∀ (i : Nat) (x : Per), ps[i]? = some x → x.2.2.2.2.2 = -1 ∧ 0 ≤ x.2.2.2.2.1 ∧ x.2.2.2.2.1 ≤ 11 + 30 * (i : Int)
/-- What is drawn as a parent of one sex. -/
def Sm (ps : List Per) (sex r : Int) : Prop := r = -1 ∨ ∃ (k : Nat) (nm : ByteArray) (fa mo bo di : Int), r = k ∧ ps[k]? = some (nm, sex, fa, mo, bo, di) ∧ (deps ps).getD k 0 < 10
theorem Sm.i64 {ps : List Per} {sex r : Int} (h : Sm ps sex r) (hl : ps.length ≤ 40) : I64 r := by
  unfold I64
  rcases h with rfl | ⟨k, nm, fa, mo, bo, di, rfl, h1, -⟩
  · omega
  · have := (List.getElem?_eq_some_iff.1 h1).1; omega
theorem Sm.may {ps : List Per} {sex r bo : Int} (h : Sm ps sex r) (hM : MF ps) (hb : ∀ (k : Nat) (x : Per), r = k → ps[k]? = some x → x.2.2.2.2.1 < bo) : MayUp ps r sex bo := by
  rcases h with h | ⟨k, nm, fa, mo, b, di, h0, h1, h2⟩
  · exact .inl h
  · have h3 := hM.2 k _ h1
    dsimp only at h3
    obtain ⟨rfl, -, -⟩ := h3
    exact .inr ⟨k, nm, fa, mo, b, h0, h1, hb k _ h0 h1, h2⟩
theorem Sm.at {ps : List Per} {sex r : Int} (h : Sm ps sex r) (h0 : 0 ≤ r) : ∃ k : Nat, r = k ∧ k < ps.length := by
  rcases h with rfl | ⟨k, nm, fa, mo, bo, di, rfl, h1, -⟩
  · omega
  · exact ⟨k, rfl, (List.getElem?_eq_some_iff.1 h1).1⟩
theorem mem_parX {fa mo y : Int} (h : y ∈ parX fa mo) : (y = fa ∨ y = mo) ∧ 0 ≤ y := by
  unfold parX at h
  rcases List.mem_append.1 h with h | h
  · split at h
    · rw [List.mem_singleton] at h; exact ⟨.inl h, by omega⟩
    · cases h
  · split at h
    · rw [List.mem_singleton] at h; exact ⟨.inr h, by omega⟩
    · cases h
theorem parX_in {fa mo y : Int} (h : y = fa ∨ y = mo) (h0 : 0 ≤ y) : y ∈ parX fa mo := by
  unfold parX
  rcases h with rfl | rfl
  · rw [if_pos h0]; simp
  · rw [if_pos h0]; simp
/-- One person more. -/
theorem MF.add {ps : List Per} (h : MF ps) (hl : ps.length < 40) {sx fa mo bo : Int} (hs : sx = 1 ∨ sx = 2) (hf : Sm ps 1 fa) (hm : Sm ps 2 mo) (h0 : 0 ≤ bo) (h1 : bo ≤ 11 + 30 * (ps.length : Int)) (hb : ∀ y ∈ parX fa mo, ∃ (k : Nat) (x : Per), y = k ∧ ps[k]? = some x ∧ x.2.2.2.2.1 < bo) : MF (ps ++ [(nmOf ps.length, sx, fa, mo, bo, -1)]) := by
  have key : ∀ r, r = fa ∨ r = mo → ∀ (k : Nat) (x : Per), r = k → ps[k]? = some x → x.2.2.2.2.1 < bo := by
    intro r hr k x hk hx
    obtain ⟨k', x', h1, h2, h3⟩ := hb r (parX_in hr (by omega))
    obtain rfl : k = k' := by omega
    rw [hx] at h2
    rw [Option.some.inj h2]; exact h3
  refine ⟨h.1.add hl hs ⟨h0, by omega⟩ (hf.may h (key fa (.inl rfl))) (hm.may h (key mo (.inr rfl))), fun i x hx => ?_⟩
  by_cases e : i < ps.length
  · rw [List.getElem?_append_left e] at hx; exact h.2 i x hx
  · rw [List.getElem?_append_right (by omega)] at hx
    by_cases e2 : i = ps.length
    · subst e2; rw [Nat.sub_self] at hx; simp at hx; subst hx; exact ⟨rfl, h0, h1⟩
    · rw [show i - ps.length = (i - ps.length - 1) + 1 by omega] at hx; simp at hx
theorem l01Int_lit (W : World) (p : Nat) (hC : CurOk p W) (E : TypeId) (xs : List Int) (h : ∀ x ∈ xs, I64 x) (hl : 0 < xs.length) (hl2 : xs.length ≤ 256) :
    Calls Try.prog 92 #[.pointer (some ⟨p, 0, none⟩), .slice (some ⟨W.heap.size, 0, none⟩) xs.length xs.length] (W.alloc (.cells (xs.map (Value.int .i64)).toArray E)) (PostCI p xs (W.alloc (.cells (xs.map (Value.int .i64)).toArray E))) :=
  l01Int_any _ p (hC.grow bwT) _ xs (Ow.ints_lit W E xs h (by unfold maxLen; omega)).rd hl hl2 (.inl hC.lt) (by simp)
set_option maxRecDepth 20000 in
set_option maxHeartbeats 16000000 in
theorem l1Family_any (w : World) (p : Nat) (h : CurOk p w) (most : Nat) (h18 : most ≤ 18) :
    Calls Try.prog 58 #[.pointer (some ⟨p, 0, none⟩), .int .i64 most] w (PostFam p most w) := by
  have hp := h.lt
  obtain ⟨W0, hW0⟩ : ∃ W0, W0 = ((w.alloc (.cells #[.slice none 0 0, .slice none 0 0] 26)).alloc (.cells #[.slice none 0 0, .slice none 0 0] 26)) := ⟨_, rfl⟩
  have HB0 := Lib.hid (show FamBox p w.heap.size (w.heap.size + 1) 0 w [] (.slice none 0 0) W0 by
    have hb : Below w.heap.size w W0 := by rw [hW0]; exact bwT
    have hb1 : Below (w.heap.size + 1) (w.alloc (.cells #[.slice none 0 0, .slice none 0 0] 26)) W0 := by rw [hW0]; exact bwT
    refine ⟨by rw [hW0]; simp [go_sem], by rw [hW0]; simp [go_sem], by rw [hW0]; simp [go_sem], oldc hb1 (Nat.lt_succ_self _) (by simp [go_sem]), oldc hb1 (Nat.lt_succ_self _) (by simp [go_sem]), fun o => (hb1.frozen (p := ⟨w.heap.size, o, none⟩) (Nat.lt_succ_self _)).trans (by simp [go_sem]),
      GX.nil _ _ _, h.grow hb, OffF.below (OffF.refl [p] w) hb, by rw [hW0]; simp, hp, Nat.lt_succ_self _, Nat.le_refl _⟩)
  clear h
  go_enter Try.func58, Try.ntmps58
  go_upto_region 2 with fail
  rw [← hW0]
  clear hW0
  go_wp2_with fail
  refine (l01Int_lit W0 p HB0.out.cur 3 [1, 7, 20, 25] (by simp [I64]) (by simp) (by simp)).mono ?_
  rintro e w1 ⟨st, rfl, hst, hC1, hO1⟩
  have hst1 : 1 ≤ st ∧ st ≤ 25 := by simp at hst; omega
  have HB1 := Lib.hid (HB0.out.drew (((OffF.refl [p] W0).alloc _).trans hO1) hC1)
  clear hst hC1 hO1 HB0
  go_wp2_with fail
  refine (l01Int_lit w1 p HB1.out.cur 3 [3, 5, 9] (by simp [I64]) (by simp) (by simp)).mono ?_
  rintro e w2 ⟨lo, rfl, hlo, hC2, hO2⟩
  have hlo1 : 3 ≤ lo ∧ lo ≤ 9 := by simp at hlo; omega
  have HB2 := Lib.hid (HB1.out.drew (((OffF.refl [p] w1).alloc _).trans hO2) hC2)
  clear hlo hC2 hO2 HB1
  have hwm : wrap64 ((most : Int) + 1) = ((most + 1 : Nat) : Int) := (IntWalk.wrap64_in _ (by omega)).trans (by omega)
  go_wp2_with fail
  refine (l01Below_any _ p HB2.out.cur ((most + 1 : Nat) : Int) (by omega) (by omega)).mono ?_
  rintro e w3 ⟨k0, rfl, ⟨hk0, hk1⟩, hC3, hO3⟩
  obtain ⟨K, rfl⟩ := Int.eq_ofNat_of_zero_le hk0
  have HB3 := Lib.hid (HB2.out.drew hO3 hC3)
  have hKm : K ≤ most := by omega
  clear hC3 hO3 HB2 hwm hk0 hk1
  go_wp2
  go_loopw [8, 9, 10, 12] (fun s8 _ _ _ wl => ∃ (k : Nat) (ps : List Per) (v : Value), s8 = .int .i64 k ∧ k + ps.length ≤ most ∧ Hid (FamBox p w.heap.size (w.heap.size + 1) 0 w ps v wl) ∧ Hid (MF ps)) (fun s8 _ _ _ _ => (intOf s8).toNat)
  case atStart => exact ⟨K, [], _, rfl, by simpa using hKm, HB3, Lib.hid ⟨Grown.nil, fun i x hx => by simp at hx⟩⟩
  case round =>
    clear HB3
    obtain ⟨wl, hwl⟩ : ∃ x : World, x = wr := ⟨_, rfl⟩
    subst hwl
    obtain ⟨k, ps, v, rfl, hkp, HB, HM⟩ := hrel
    obtain ⟨va, vcap, rfl, -, -⟩ := HB.out.own.len
    have q0 := HB.out.q0
    have q1 := HB.out.q1
    by_cases hk : 0 < k
    · have hkI : (0 : Int) < (k : Int) := by omega
      have hwk : wrap64 ((k : Int) - 1) = ((k - 1 : Nat) : Int) := (IntWalk.wrap64_in _ (by omega)).trans (by omega)
      have hlp : ps.length < 18 := by omega
      go_wp2_with fail
      refine (depS_any _ _ _ ps HB.out.own.rd HM.out.1.ppl HM.out.1.len).mono ?_
      rintro e w4 ⟨dv, rfl, hod, hb4⟩
      have hp4 : Below wl.heap.size wl w4 := hb4
      have HB4 := Lib.hid (HB.out.grow hp4)
      obtain ⟨da, dn, dcap, rfl, hdn, -⟩ := hod.rd.shape
      have hpF : p < w.heap.size + 1 := by omega
      have hlF := HB.out.lF
      have HD := Lib.hid (show Rd true (w.heap.size + 2) w4.heap.size w4 [.slice da dn dcap] (deps ps) from hod.rd.mono (by omega) (Nat.le_refl _))
      clear hod hb4 hp4 q0 q1
      have q0 := HB4.out.q0
      have q1 := HB4.out.q1
      obtain ⟨NM, hNM⟩ : ∃ NM, NM = nmOf ps.length := ⟨_, rfl⟩
      have HNM := Lib.hid hNM
      have HNS := Lib.hid (show NM.size ≤ maxLen by rw [hNM]; have e : (nmOf ps.length).size = 2 := rfl; rw [e]; unfold maxLen; omega)
      clear hNM
      go_wp2_with fail
      refine (l1Called_any _ ps.length (by omega)).mono ?_
      rw [← HNM.out]
      rintro e w5 ⟨rfl, hb5⟩
      have HB5 := Lib.hid (HB4.out.grow hb5)
      have HD5 := Lib.hid ((HD.out.below hb5).mono (Nat.le_refl _) hb5.size)
      clear hb5 q0 q1 HD HB4
      go_wp2_with fail
      refine (l01Below_any _ p HB5.out.cur 2 (by omega) (by omega)).mono ?_
      rintro e w6 ⟨r, rfl, ⟨hr0, hr1⟩, hC6, hO6⟩
      have HB6 := Lib.hid (HB5.out.drew hO6 hC6)
      have HD6 := Lib.hid ((HD5.out.keep (offzn hO6 (.inl (by omega)) (Nat.le_refl _))).mono (Nat.le_refl _) hO6.size)
      obtain ⟨sx, hsx⟩ : ∃ sx, sx = 1 + r := ⟨_, rfl⟩
      have hsx2 : sx = 1 ∨ sx = 2 := by omega
      have hwr : wrap64 (1 + r) = 1 + r := IntWalk.wrap64_in _ (by omega)
      clear hC6 hO6 HB5 HD5
      obtain ⟨Q, hQ⟩ : ∃ Q, Q = w6.heap.size := ⟨_, rfl⟩
      obtain ⟨WQ, hWQ⟩ : ∃ W : World, W = w6.alloc (.cells #[.string NM, .int .i64 (1 + r), .int .i64 (-1), .int .i64 (-1), .int .i64 0, .int .i64 (-1)] 56) := ⟨_, rfl⟩
      have HBQ := Lib.hid (show FamBox p w.heap.size (w.heap.size + 1) Q w ps (.slice va ps.length vcap) WQ by rw [hWQ, hQ]; exact HB6.out.opens _)
      have HQ := Lib.hid (show QB Q NM sx (-1) (-1) 0 WQ by rw [hWQ, hQ, hsx]; exact QB.new _ _ _ _ _ _ _)
      have hFQ : w.heap.size + 1 < Q := by rw [hQ]; exact HB6.out.lF
      have HDQ := Lib.hid (show Rd true (w.heap.size + 2) Q WQ [.slice da dn dcap] (deps ps) by rw [hWQ, hQ]; exact HD6.out.below bwT)
      clear HB6 HD6
      go_upto_region 9 with fail
      rw [← hWQ, ← hQ]
      clear hWQ hQ hwr HB hsx
      go_wp2_with fail
      refine (l01Once_any _ p HBQ.out.cur lo (by omega) (by omega)).mono ?_
      rintro e w7 ⟨o7, rfl, hC7, hO7⟩
      have HB7 := Lib.hid (HBQ.out.drew hO7 hC7)
      have HQ7 := Lib.hid (HQ.out.drew hO7 (by omega))
      have HD7 := Lib.hid (HDQ.out.keep (offzn hO7 (.inl (by omega)) (Nat.le_of_lt HQ.out.lQ)))
      clear hC7 hO7 HBQ HQ HDQ
      go_upto_if 45 with fail
      go_cut [9] (fun s9 wx => s9 = .slice da dn dcap ∧ ∃ r : Int, Hid (Sm ps 1 r) ∧ Hid (FamBox p w.heap.size (w.heap.size + 1) Q w ps (.slice va ps.length vcap) wx) ∧ Hid (QB Q NM sx r (-1) 0 wx) ∧ Hid (Rd true (w.heap.size + 2) Q wx [.slice da dn dcap] (deps ps)))
      case first =>
        cases o7
        · have q0 := HB7.out.q0
          have q1 := HB7.out.q1
          have c2 := HQ7.out.c2
          have c3 := HQ7.out.c3
          have fq := HQ7.out.fQ
          go_wp2_with fail
          refine (l1Some_any _ p HB7.out.cur _ _ _ ps (HB7.out.own.ow (lo := w.heap.size + 2) (hi := w7.heap.size) (fun b hl hS => ⟨hS.1, hl⟩)).rd (deps ps) HD7.out (deps_len ps) HM.out.1.len (by omega) (Nat.le_refl _) (by omega) (Nat.le_of_lt HQ7.out.lQ) 1).mono ?_
          rintro e wy ⟨r, rfl, hr, hCy, hOy⟩
          have HBy := Lib.hid (HB7.out.drew hOy hCy)
          have HQy := Lib.hid (HQ7.out.drew hOy (by omega))
          have HDy := Lib.hid (HD7.out.keep (offzn hOy (.inl (by omega)) (Nat.le_of_lt HQ7.out.lQ)))
          have HSm := Lib.hid (show Sm ps 1 r from hr.out)
          have c2 := HQy.out.c2
          have c3 := HQy.out.c3
          have fq := HQy.out.fQ
          have lq := HQy.out.lQ
          clear hr hCy hOy q0 q1
          go_wp2_with fail
          go_meet
          exact ⟨rfl, r, HSm, Lib.hid (HBy.out.setQ hFQ _ _), Lib.hid (HQy.out.put2 r), Lib.hid (HDy.out.keep (fun b h1 h2 => keep_set b (by omega)))⟩
        · go_wp2_with fail
          go_meet
          exact ⟨rfl, -1, Lib.hid (.inl rfl), HB7, HQ7, HD7⟩
      case rest =>
        obtain ⟨w8, hw8⟩ : ∃ W : World, W = wc := ⟨_, rfl⟩
        subst hw8
        obtain ⟨rfl, fa, HFA, HB8, HQ8, HD8⟩ := hcut
        clear HB7 HQ7 HD7
        go_wp2_with fail
        refine (l01Once_any _ p HB8.out.cur lo (by omega) (by omega)).mono ?_
        rintro e w9 ⟨o9, rfl, hC9, hO9⟩
        have HB9 := Lib.hid (HB8.out.drew hO9 hC9)
        have HQ9 := Lib.hid (HQ8.out.drew hO9 (by omega))
        have HD9 := Lib.hid (HD8.out.keep (offzn hO9 (.inl (by omega)) (Nat.le_of_lt HQ8.out.lQ)))
        clear hC9 hO9 HB8 HQ8 HD8
        go_upto_if 54 with fail
        go_cut [9] (fun s9 wx => s9 = .slice da dn dcap ∧ ∃ r : Int, Hid (Sm ps 2 r) ∧ Hid (FamBox p w.heap.size (w.heap.size + 1) Q w ps (.slice va ps.length vcap) wx) ∧ Hid (QB Q NM sx fa r 0 wx) ∧ Hid (Rd true (w.heap.size + 2) Q wx [.slice da dn dcap] (deps ps)))
        case first =>
          cases o9
          · have q0 := HB9.out.q0
            have q1 := HB9.out.q1
            have c2 := HQ9.out.c2
            have c3 := HQ9.out.c3
            have fq := HQ9.out.fQ
            go_wp2_with fail
            refine (l1Some_any _ p HB9.out.cur _ _ _ ps (HB9.out.own.ow (lo := w.heap.size + 2) (hi := w9.heap.size) (fun b hl hS => ⟨hS.1, hl⟩)).rd (deps ps) HD9.out (deps_len ps) HM.out.1.len (by omega) (Nat.le_refl _) (by omega) (Nat.le_of_lt HQ9.out.lQ) 2).mono ?_
            rintro e wy ⟨r, rfl, hr, hCy, hOy⟩
            have HBy := Lib.hid (HB9.out.drew hOy hCy)
            have HQy := Lib.hid (HQ9.out.drew hOy (by omega))
            have HDy := Lib.hid (HD9.out.keep (offzn hOy (.inl (by omega)) (Nat.le_of_lt HQ9.out.lQ)))
            have HSm := Lib.hid (show Sm ps 2 r from hr.out)
            have c2 := HQy.out.c2
            have c3 := HQy.out.c3
            have fq := HQy.out.fQ
            have lq := HQy.out.lQ
            clear hr hCy hOy q0 q1
            go_wp2_with fail
            go_meet
            exact ⟨rfl, r, HSm, Lib.hid (HBy.out.setQ hFQ _ _), Lib.hid (HQy.out.put3 r), Lib.hid (HDy.out.keep (fun b h1 h2 => keep_set b (by omega)))⟩
          · go_wp2_with fail
            go_meet
            exact ⟨rfl, -1, Lib.hid (.inl rfl), HB9, HQ9, HD9⟩
        case rest =>
          obtain ⟨wa, hwa⟩ : ∃ W : World, W = wc := ⟨_, rfl⟩
          subst hwa
          obtain ⟨rfl, mo, HMO, HBa, HQa, HDa⟩ := hcut
          clear HB9 HQ9 HD9
          go_wp2_with fail
          refine (l01Below_any _ p HBa.out.cur 12 (by omega) (by omega)).mono ?_
          rintro e wb ⟨b0, rfl, ⟨hb00, hb01⟩, hCb, hOb⟩
          have HBb := Lib.hid (HBa.out.drew hOb hCb)
          have HQb := Lib.hid (HQa.out.drew hOb (by omega))
          clear hCb hOb HBa HQa HDa
          have c4 := HQb.out.c4
          have fq := HQb.out.fQ
          obtain ⟨WC, hWC⟩ : ∃ W : World, W = wb.setCell ⟨Q, 4, none⟩ (.int .i64 b0) := ⟨_, rfl⟩
          have HBc := Lib.hid (show FamBox p w.heap.size (w.heap.size + 1) Q w ps (.slice va ps.length vcap) WC by rw [hWC]; exact HBb.out.setQ hFQ _ _)
          have HQc := Lib.hid (show QB Q NM sx fa mo b0 WC by rw [hWC]; exact HQb.out.put4 b0)
          go_upto_region 14 with fail
          rw [← hWC]
          clear hWC c4 fq HBb HQb
          have c0 := HQc.out.c0
          have c1 := HQc.out.c1
          have c2 := HQc.out.c2
          have c3 := HQc.out.c3
          have c4 := HQc.out.c4
          have c5 := HQc.out.c5
          go_wp2_with fail
          refine (l1Parents_any _ _ _ [(NM, sx, fa, mo, b0, -1)] (Ow.per1 WC 56 HNS.out (by unfold I64; omega) (HFA.out.i64 HM.out.1.len) (HMO.out.i64 HM.out.1.len) (by unfold I64; omega) (by unfold I64; omega)).rd 0 rfl).mono ?_
          rintro e wd ⟨pv, rfl, hop, hbd⟩
          obtain ⟨pa, pn, pcap, rfl, hpn, -⟩ := hop.rd.shape
          subst hpn
          have hpd : Below WC.heap.size WC wd := Below.trans (show Below WC.heap.size WC _ from bwT) (hbd.mono (by simp))
          have HBd := Lib.hid (HBc.out.grow hpd)
          have HQd := Lib.hid (HQc.out.grow hpd)
          have hsd := hpd.size
          have lqc := HQc.out.lQ
          have HP := Lib.hid (hop.rd.mono (lo' := WC.heap.size) (by simp) (Nat.le_refl _))
          have hpl : (parX fa mo).length ≤ 2 := by unfold parX; split <;> split <;> simp
          obtain ⟨PX, hPX⟩ : ∃ P, P = parX fa mo := ⟨_, rfl⟩
          rw [← hPX] at HP hpl
          rw [← hPX]
          have HPX := Lib.hid hPX
          clear hop hbd hpd hPX HBc HQc c0 c1 c2 c3 c4 c5
          go_wp2
          go_loopw [12, 68] (fun _ s68 wi => ∃ (j : Nat) (bo : Int), j ≤ PX.length ∧ s68 = .int .i64 j ∧ Hid (FamBox p w.heap.size (w.heap.size + 1) Q w ps (.slice va ps.length vcap) wi) ∧ Hid (QB Q NM sx fa mo bo wi) ∧ Hid (Rd true WC.heap.size wd.heap.size wi [.slice pa PX.length pcap] PX) ∧ wd.heap.size ≤ wi.heap.size ∧ (0 ≤ bo ∧ bo ≤ 11 + 30 * (ps.length : Int)) ∧ Hid (∀ y ∈ PX.take j, ∃ (k : Nat) (x : Per), y = k ∧ ps[k]? = some x ∧ x.2.2.2.2.1 < bo)) (fun _ s68 _ => PX.length - (intOf s68).toNat)
          case atStart => exact ⟨0, b0, Nat.zero_le _, rfl, HBd, HQd, HP, Nat.le_refl _, by omega, Lib.hid (fun y hy => by simp at hy)⟩
          case round =>
            clear HBd HQd HP
            obtain ⟨we, hwe⟩ : ∃ x : World, x = wr := ⟨_, rfl⟩
            subst hwe
            obtain ⟨j, bo, hj, rfl, HBe, HQe, HPe, hse, hbo, HY⟩ := hrel
            have q0 := HBe.out.q0
            have c4 := HQe.out.c4
            have fq := HQe.out.fQ
            have lq := HQe.out.lQ
            have lF := HBe.out.lF
            by_cases hjl : j < PX.length
            · have hjI : (j : Int) < (PX.length : Int) := by omega
              obtain ⟨bp, ofp, y, rfl, hy, y0, -⟩ := HPe.out.int_at hjl
              obtain ⟨hy1, hy2⟩ := mem_parX (by rw [← HPX.out]; exact List.mem_of_getElem? hy.out)
              obtain ⟨m, rfl, hml⟩ : ∃ m : Nat, y = m ∧ m < ps.length := by
                rcases hy1 with e | e
                · subst e; exact HFA.out.at hy2
                · subst e; exact HMO.out.at hy2
              have HYJ := Lib.hid hy.out
              obtain ⟨bx, ofx, xnm, xsx, xfa, xmo, xbo, xdi, rfl, hx, -, -, -, -, x4, -⟩ := HBe.out.own.rd.per_at hml
              have hxb := HM.out.2 m _ hx.out
              dsimp only at hxb
              have HXM := Lib.hid hx.out
              have hmI : (m : Int) < (ps.length : Int) := by omega
              have hbx : bx < we.heap.size := World.block_lt_of_cell? we ⟨bx, _, none⟩ x4
              have hbQ : bx ≠ Q := (HBe.out.own.lt (b := bx) rfl).2.2
              have hbF : w.heap.size + 1 < bx := (HBe.out.own.lt (b := bx) rfl).2.1
              have hw1 : IntKind.i64.wrap (xbo + st) = xbo + st := IntWalk.i64_in _ (by omega)
              clear hy hx hy1 hy2
              go_upto_region 17 with fail
              refine wp_region_held_drew (S := (fun w' => w'.cell? ⟨w.heap.size + 1, 0, none⟩ = some (.slice (some ⟨bx, ofx, none⟩) ps.length vcap) ∧ w'.cell? ⟨bx, ofx + m * 6 + 4, none⟩ = some (.int .i64 xbo))) (by kernel_rfl) ?_ (fun hHeld => ?_)
              · first | exact trivial | ((try dsimp only); go_keep)
              refine tkR 0 (v := ?_) ?_ ?_
              rotate_left
              · intro w hSw; (try dsimp only at hSw); go_simp <;> with_reducible rfl
              try simp only [Act.put, List.setIfInBounds_toArray, List.set_cons_zero, List.set_cons_succ]
              refine tkR 2 (v := ?_) ?_ ?_
              rotate_left
              · intro w hSw; (try dsimp only at hSw); go_simp <;> with_reducible rfl
              try simp only [Act.put, List.setIfInBounds_toArray, List.set_cons_zero, List.set_cons_succ]
              refine tkR 4 (v := ?_) ?_ ?_
              rotate_left
              · intro w hSw; (try dsimp only at hSw); go_simp <;> with_reducible rfl
              try simp only [Act.put, List.setIfInBounds_toArray, List.set_cons_zero, List.set_cons_succ]
              refine tkR 8 (v := ?_) ?_ ?_
              rotate_left
              · intro w hSw; (try dsimp only at hSw); go_simp <;> with_reducible rfl
              try simp only [Act.put, List.setIfInBounds_toArray, List.set_cons_zero, List.set_cons_succ]
              refine tkR 10 (v := ?_) ?_ ?_
              rotate_left
              · intro w hSw; (try dsimp only at hSw); go_simp <;> with_reducible rfl
              try simp only [Act.put, List.setIfInBounds_toArray, List.set_cons_zero, List.set_cons_succ]
              refine tkR 3 (v := ?_) ?_ ?_
              rotate_left
              · intro w hSw; (try dsimp only at hSw); go_simp <;> with_reducible rfl
              try simp only [Act.put, List.setIfInBounds_toArray, List.set_cons_zero, List.set_cons_succ]
              refine tkR 5 (v := ?_) ?_ ?_
              rotate_left
              · intro w hSw; (try dsimp only at hSw); go_simp <;> with_reducible rfl
              try simp only [Act.put, List.setIfInBounds_toArray, List.set_cons_zero, List.set_cons_succ]
              refine tkR 6 (v := ?_) ?_ ?_
              rotate_left
              · intro w hSw; (try dsimp only at hSw); go_simp <;> with_reducible rfl
              try simp only [Act.put, List.setIfInBounds_toArray, List.set_cons_zero, List.set_cons_succ]
              refine tkR 7 (v := ?_) ?_ ?_
              rotate_left
              · intro w hSw; (try dsimp only at hSw); go_simp <;> with_reducible rfl
              try simp only [Act.put, List.setIfInBounds_toArray, List.set_cons_zero, List.set_cons_succ]
              refine tkR 9 (v := ?_) ?_ ?_
              rotate_left
              · intro w hSw; (try dsimp only at hSw); go_simp <;> with_reducible rfl
              try simp only [Act.put, List.setIfInBounds_toArray, List.set_cons_zero, List.set_cons_succ]
              refine wpAnyH_ready (rs := [1, 11]) (by kernel_rfl) (by simp) ?_
              refine rdR (fun K hK => ?_) ?_
              · go_simp
                refine hK.out _ _ ?_ (fun hHeld => ?_)
                · exact kpT
                clear hK K
                try simp only [Act.put, List.setIfInBounds_toArray, List.set_cons_zero, List.set_cons_succ]
                refine wpAnyH_ready (rs := [11]) (by kernel_rfl) (by simp) ?_
                refine rdR (fun K hK => ?_) ?_
                · go_simp
                  refine (l01Below_any _ p (HBe.out.cur.grow ?b1) 6 (by omega) (by omega)).mono ?_
                  case b1 => exact bwT
                  rintro e wf ⟨r, rfl, ⟨hr0, hr1⟩, hCf, hOf⟩
                  have hOf2 : OffF [p] we wf := (OffF.below (OffF.refl [p] we) bwT).trans hOf
                  have HBf := Lib.hid (HBe.out.drew hOf2 hCf)
                  have HQf := Lib.hid (HQe.out.drew hOf2 (by omega))
                  have HPf := Lib.hid (HPe.out.keep (offzn hOf2 (.inl (by omega)) hse))
                  have hsf := hOf2.size
                  have hS11 := And.intro HBf.out.q0 (offq hOf2 (by omega) hbx x4)
                  have c4f := HQf.out.c4
                  obtain ⟨z3, hz3⟩ : ∃ z, max bo (xbo + st + r) = z := ⟨_, rfl⟩
                  have hz4 : bo ≤ z3 ∧ xbo + st + r ≤ z3 ∧ (z3 = bo ∨ z3 = xbo + st + r) := by omega
                  have hw2 : IntKind.i64.wrap (xbo + st + r) = xbo + st + r := IntWalk.i64_in _ (by omega)
                  have fqf := HQf.out.fQ
                  have lqf := HQf.out.lQ
                  have HY2 := Lib.hid (show ∀ y ∈ PX.take (j + 1), ∃ (k : Nat) (x : Per), y = k ∧ ps[k]? = some x ∧ x.2.2.2.2.1 < z3 by
                    intro y hy
                    rw [take_snoc HYJ.out, List.mem_append] at hy
                    rcases hy with hy | hy
                    · obtain ⟨k, x, e1, e2, e3⟩ := HY.out y hy
                      exact ⟨k, x, e1, e2, by omega⟩
                    · rw [List.mem_singleton] at hy
                      exact ⟨m, _, hy, HXM.out, by show xbo < z3; omega⟩)
                  have hz5 : 0 ≤ z3 ∧ z3 ≤ 11 + 30 * (ps.length : Int) := by omega
                  clear hCf hOf
                  refine hK.out _ _ ?_ (fun hHeld => ?_)
                  · exact kpT
                  clear hK K
                  try simp only [Act.put, List.setIfInBounds_toArray, List.set_cons_zero, List.set_cons_succ]
                  refine tkR 12 (v := ?_) ?_ ?_
                  rotate_left
                  · intro w hSw; (try dsimp only at hSw); go_simp <;> with_reducible rfl
                  try simp only [Act.put, List.setIfInBounds_toArray, List.set_cons_zero, List.set_cons_succ]
                  refine tkR 13 (v := ?_) ?_ ?_
                  rotate_left
                  · intro w hSw; (try dsimp only at hSw); go_simp <;> with_reducible rfl
                  try simp only [Act.put, List.setIfInBounds_toArray, List.set_cons_zero, List.set_cons_succ]
                  refine tkR 14 (v := ?_) ?_ ?_
                  rotate_left
                  · intro w hSw; (try dsimp only at hSw); go_simp <;> with_reducible rfl
                  try simp only [Act.put, List.setIfInBounds_toArray, List.set_cons_zero, List.set_cons_succ]
                  refine wpAnyH_ready (rs := [15]) (by kernel_rfl) (by simp) ?_
                  refine rdR (fun K hK => ?_) ?_
                  · go_simp
                    refine hK.out _ _ ?_ (fun hHeld => ?_)
                    · exact kpT
                    clear hK K
                    try simp only [Act.put, List.setIfInBounds_toArray, List.set_cons_zero, List.set_cons_succ]
                    refine wpAnyH_done (by kernel_rfl) ?_ _
                    clear hHeld
                    go_wp2
                    go_roundw
                    case rel => exact ⟨j + 1, z3, by omega, by go_num, Lib.hid (HBf.out.setQ hFQ _ _), Lib.hid (HQf.out.put4 z3), Lib.hid (HPf.out.keep (fun b h1 h2 => keep_set b (by omega))), by simp; omega, hz5, HY2⟩
                    case measure => simp [intOf]; omega
                  exact AllReadyH.nil
                exact AllReadyH.nil
              refine rdR (fun K hK => ?_) ?_
              · go_simp
                refine (l01Below_any _ p (HBe.out.cur.grow ?b1) 6 (by omega) (by omega)).mono ?_
                case b1 => exact bwT
                rintro e wf ⟨r, rfl, ⟨hr0, hr1⟩, hCf, hOf⟩
                have hOf2 : OffF [p] we wf := (OffF.below (OffF.refl [p] we) bwT).trans hOf
                have HBf := Lib.hid (HBe.out.drew hOf2 hCf)
                have HQf := Lib.hid (HQe.out.drew hOf2 (by omega))
                have HPf := Lib.hid (HPe.out.keep (offzn hOf2 (.inl (by omega)) hse))
                have hsf := hOf2.size
                have hS11 := And.intro HBf.out.q0 (offq hOf2 (by omega) hbx x4)
                have c4f := HQf.out.c4
                obtain ⟨z3, hz3⟩ : ∃ z, max bo (xbo + st + r) = z := ⟨_, rfl⟩
                have hz4 : bo ≤ z3 ∧ xbo + st + r ≤ z3 ∧ (z3 = bo ∨ z3 = xbo + st + r) := by omega
                have hw2 : IntKind.i64.wrap (xbo + st + r) = xbo + st + r := IntWalk.i64_in _ (by omega)
                have fqf := HQf.out.fQ
                have lqf := HQf.out.lQ
                have HY2 := Lib.hid (show ∀ y ∈ PX.take (j + 1), ∃ (k : Nat) (x : Per), y = k ∧ ps[k]? = some x ∧ x.2.2.2.2.1 < z3 by
                  intro y hy
                  rw [take_snoc HYJ.out, List.mem_append] at hy
                  rcases hy with hy | hy
                  · obtain ⟨k, x, e1, e2, e3⟩ := HY.out y hy
                    exact ⟨k, x, e1, e2, by omega⟩
                  · rw [List.mem_singleton] at hy
                    exact ⟨m, _, hy, HXM.out, by show xbo < z3; omega⟩)
                have hz5 : 0 ≤ z3 ∧ z3 ≤ 11 + 30 * (ps.length : Int) := by omega
                clear hCf hOf
                refine hK.out _ _ ?_ (fun hHeld => ?_)
                · exact kpT
                clear hK K
                try simp only [Act.put, List.setIfInBounds_toArray, List.set_cons_zero, List.set_cons_succ]
                refine tkR 12 (v := ?_) ?_ ?_
                rotate_left
                · intro w hSw; (try dsimp only at hSw); go_simp <;> with_reducible rfl
                try simp only [Act.put, List.setIfInBounds_toArray, List.set_cons_zero, List.set_cons_succ]
                refine wpAnyH_ready (rs := [1]) (by kernel_rfl) (by simp) ?_
                refine rdR (fun K hK => ?_) ?_
                · go_simp
                  refine hK.out _ _ ?_ (fun hHeld => ?_)
                  · exact kpT
                  clear hK K
                  try simp only [Act.put, List.setIfInBounds_toArray, List.set_cons_zero, List.set_cons_succ]
                  refine tkR 13 (v := ?_) ?_ ?_
                  rotate_left
                  · intro w hSw; (try dsimp only at hSw); go_simp <;> with_reducible rfl
                  try simp only [Act.put, List.setIfInBounds_toArray, List.set_cons_zero, List.set_cons_succ]
                  refine tkR 14 (v := ?_) ?_ ?_
                  rotate_left
                  · intro w hSw; (try dsimp only at hSw); go_simp <;> with_reducible rfl
                  try simp only [Act.put, List.setIfInBounds_toArray, List.set_cons_zero, List.set_cons_succ]
                  refine wpAnyH_ready (rs := [15]) (by kernel_rfl) (by simp) ?_
                  refine rdR (fun K hK => ?_) ?_
                  · go_simp
                    refine hK.out _ _ ?_ (fun hHeld => ?_)
                    · exact kpT
                    clear hK K
                    try simp only [Act.put, List.setIfInBounds_toArray, List.set_cons_zero, List.set_cons_succ]
                    refine wpAnyH_done (by kernel_rfl) ?_ _
                    clear hHeld
                    go_wp2
                    go_roundw
                    case rel => exact ⟨j + 1, z3, by omega, by go_num, Lib.hid (HBf.out.setQ hFQ _ _), Lib.hid (HQf.out.put4 z3), Lib.hid (HPf.out.keep (fun b h1 h2 => keep_set b (by omega))), by simp; omega, hz5, HY2⟩
                    case measure => simp [intOf]; omega
                  exact AllReadyH.nil
                exact AllReadyH.nil
              exact AllReadyH.nil
            · obtain rfl : j = PX.length := by omega
              have hjI : ¬ (PX.length : Int) < (PX.length : Int) := by omega
              have HMF := Lib.hid (show MF (ps ++ [(NM, sx, fa, mo, bo, -1)]) by
                rw [HNM.out]
                refine HM.out.add (by omega) hsx2 HFA.out HMO.out hbo.1 hbo.2 ?_
                rw [← HPX.out]
                have := HY.out
                rw [List.take_length] at this
                exact this)
              have c0 := HQe.out.c0
              have c1 := HQe.out.c1
              have c2 := HQe.out.c2
              have c3 := HQe.out.c3
              have c5 := HQe.out.c5
              have hfi := HFA.out.i64 HM.out.1.len
              have hmi := HMO.out.i64 HM.out.1.len
              have HGo := Lib.hid HBe.out.own
              have ff := HBe.out.fF
              go_wp2_with (at_builtin; refine wpList_push_x rfl rfl slPerson (by show (0 : Nat) < 6; omega) rfl (ad := ⟨we.heap.size, 0, none⟩) rfl (cs := [.string NM, .int .i64 sx, .int .i64 fa, .int .i64 mo, .int .i64 bo, .int .i64 (-1)]) (y := ((NM, sx, fa, mo, bo, -1) : Per)) (lx := we.heap.size) (hx' := we.heap.size) (cells_per _ _ _ _ _ _ _ _) (w0 := we) HGo.out (Nat.le_refl _) (fun b hl _ => Below.heap_alloc we _ b hl) (Ow.flat0 (z := true) (w0 := we) (fp := []) (repPer_mk HNS.out (by unfold I64; omega) hfi hmi (by unfold I64; omega) (by unfold I64; omega)) _ _) (fun b h1 h2 => by omega) (by simp; omega) (by unfold maxLen; first | omega | (simp; done) | (simp; omega)) (by first | omega | (simp; done) | (simp; omega)) ?_)
              intro v' wf hGf hgf _
              obtain ⟨vb, vbcap, rfl, -, -⟩ := hGf.len
              have hgf2 : we.grownBy wf (Value.slice va ps.length vcap).ownBlock := (World.grownBy_alloc we _ _).trans hgf
              have HBf := Lib.hid (HBe.out.push hFQ hGf hgf2)
              have q0f : wf.cell? ⟨w.heap.size + 1, 0, none⟩ = some (.slice va ps.length vcap) := cell_far (hgf2.block _ lF (fun e => by have := (HBe.out.own.lt e.symm).2.1; omega)) q0
              have ff := frz_far (hgf2.block _ lF (fun e => by have := (HBe.out.own.lt e.symm).2.1; omega)) ff
              have HBf2 := Lib.hid HBf.out.shuts
              have e2 : (ps ++ [((NM, sx, fa, mo, bo, -1) : Per)]).length = ps.length + 1 := by simp
              rw [e2] at HBf2
              clear e2
              clear hGf hgf hgf2 HBf HGo
              go_wp2
              go_roundw
              case rel => exact ⟨k - 1, _, _, by first | rfl | go_num, by simp; omega, HBf2, HMF⟩
              case measure => simp [intOf]; omega
    · have hkI : ¬ (0 : Int) < (k : Int) := by omega
      obtain rfl : k = 0 := by omega
      have hps : ps.length ≤ 18 := by omega
      have HO0 := Lib.hid (HB.out.toO)
      have HP0 := Lib.hid (show PplTo ps ps.length ∧ depOk ps = true ∧ ∀ (i : Nat) (x : Per), ps[i]? = some x → 0 ≤ x.2.2.2.2.1 ∧ x.2.2.2.2.1 ≤ 560 from ⟨HM.out.1.ppl, HM.out.1.dep, fun i x hx => by have := HM.out.2 i x hx; have := (List.getElem?_eq_some_iff.1 hx).1; omega⟩)
      obtain ⟨n, hn⟩ : ∃ n, n = ps.length := ⟨_, rfl⟩
      rw [← hn] at HO0 q0
      have hn18 : n ≤ 18 := by omega
      have hnm : n ≤ most := by omega
      have HNN := Lib.hid hn
      clear HB HM hn
      go_wp2
      go_loopw [13, 14, 16, 97] (fun _ _ _ s97 wx => ∃ (i : Nat) (qs : List Per), i ≤ n ∧ s97 = .int .i64 i ∧ qs.length = n ∧ Hid (FamO p w.heap.size (w.heap.size + 1) w qs (.slice va n vcap) wx) ∧ Hid (PplTo qs qs.length ∧ depOk qs = true ∧ ∀ (i : Nat) (x : Per), qs[i]? = some x → 0 ≤ x.2.2.2.2.1 ∧ x.2.2.2.2.1 ≤ 560)) (fun _ _ _ s97 _ => n - (intOf s97).toNat)
      case atStart => exact ⟨0, ps, Nat.zero_le _, rfl, HNN.out.symm, HO0, HP0⟩
      case round =>
        clear HO0 HP0 q0 q1
        obtain ⟨wx, hwx⟩ : ∃ x : World, x = wr := ⟨_, rfl⟩
        subst hwx
        obtain ⟨i, qs, hin, rfl, hql, HO, HP⟩ := hrel
        have q0 := HO.out.q0
        have q1 := HO.out.q1
        by_cases hil : i < n
        · have hiI : (i : Int) < (n : Int) := by omega
          go_wp2_with fail
          refine (l01Once_any _ p HO.out.cur 3 (by omega) (by omega)).mono ?_
          rintro e w4 ⟨o4, rfl, hC4, hO4⟩
          have HO4 := Lib.hid (HO.out.drew hO4 hC4)
          clear hC4 hO4 q0 q1 HO
          cases o4
          · go_wp2
            go_roundw
            case rel => exact ⟨i + 1, qs, by omega, by go_num, hql, HO4, HP⟩
            case measure => simp [intOf]; omega
          · obtain ⟨b, off, nm, sx, fa, mo, bo, di, hao, hx, -, -, -, -, x4, x5, hnm, hsx, hfa, hmo, -, -, hbl, -, hbs, hfz⟩ := HO4.out.own.rd.per_at (i := i) hil
            subst hao
            have HX := Lib.hid hx.out
            have hbb := HP.out.2.2 i _ hx.out
            dsimp only at hbb
            have q0 := HO4.out.q0
            have q1 := HO4.out.q1
            clear hx x5 hfz
            go_wp2_with fail
            refine (l1Children_any _ _ _ qs HO4.out.own.rd (by omega) i).mono ?_
            rintro e w5 ⟨mu, M, rfl, hM, hch, hb5⟩
            obtain ⟨ma, mn, mcap, rfl, hmn, -⟩ := hM.shape
            subst hmn
            have HM5 := Lib.hid hM
            have HCH := Lib.hid hch.out
            have HO5 := Lib.hid (HO4.out.grow hb5)
            have hml : M.length ≤ 40 := by have := HCH.out.2.2; omega
            clear hM hch hb5 q0 q1 HO4 x4
            go_wp2
            go_loopw [14, 16, 112] (fun s14 _ s112 wy => ∃ (j : Nat) (A : Int), j ≤ M.length ∧ s112 = .int .i64 j ∧ s14 = .int .i64 A ∧ (bo ≤ A ∧ A ≤ 560) ∧ Hid (∀ y ∈ M.take j, ∀ (k : Nat) (x : Per), y = k → qs[k]? = some x → x.2.2.2.2.1 ≤ A) ∧ Below w5.heap.size w5 wy) (fun _ _ s112 _ => M.length - (intOf s112).toNat)
            case atStart => exact ⟨0, bo, Nat.zero_le _, rfl, rfl, by omega, Lib.hid (fun y hy => by simp at hy), Below.refl _ _⟩
            case round =>
              obtain ⟨wy, hwy⟩ : ∃ x : World, x = wr := ⟨_, rfl⟩
              subst hwy
              obtain ⟨j, A, hj, rfl, rfl, hA, HA, hby⟩ := hrel
              have HOy := Lib.hid (HO5.out.grow hby)
              have HMy := Lib.hid (HM5.out.below hby)
              have q0 := HOy.out.q0
              by_cases hjl : j < M.length
              · have hjI : (j : Int) < (M.length : Int) := by omega
                obtain ⟨bm, om, y, rfl, hy, y0, -⟩ := HMy.out.int_at hjl
                obtain ⟨m, rfl, hml2⟩ := HCH.out.1 y (List.mem_of_getElem? hy.out)
                obtain ⟨_, _, _, _, _, _, bo2, _, e, hx2, -, -, -, -, z4, -⟩ := HOy.out.own.rd.per_at (i := m) (by omega)
                simp only [Option.some.injEq, Addr.mk.injEq, and_true] at e
                obtain ⟨rfl, rfl⟩ := e
                have hb2 := HP.out.2.2 m _ hx2.out
                dsimp only at hb2
                have HX2 := Lib.hid hx2.out
                have HY := Lib.hid hy.out
                have hmI : (m : Int) < (n : Int) := by omega
                obtain ⟨A2, hA2⟩ : ∃ A2, max A bo2 = A2 := ⟨_, rfl⟩
                have hA3 : A ≤ A2 ∧ bo2 ≤ A2 ∧ A2 ≤ 560 := by omega
                have HA2 := Lib.hid (show ∀ y ∈ M.take (j + 1), ∀ (k : Nat) (x : Per), y = k → qs[k]? = some x → x.2.2.2.2.1 ≤ A2 by
                  intro y hy k x hk hx
                  rw [take_snoc HY.out, List.mem_append] at hy
                  rcases hy with hy | hy
                  · have := HA.out y hy k x hk hx; omega
                  · rw [List.mem_singleton] at hy
                    obtain rfl : k = m := by omega
                    rw [HX2.out] at hx
                    obtain rfl := Option.some.inj hx
                    exact hA3.2.1)
                clear hy hx2
                go_wp2
                go_roundw
                case rel => exact ⟨j + 1, A2, by omega, by go_num, rfl, by omega, HA2, hby⟩
                case measure => simp [intOf]; omega
              · obtain rfl : j = M.length := by omega
                have hjI : ¬ (M.length : Int) < (M.length : Int) := by omega
                have HAL := Lib.hid (show ∀ (k : Nat) (x : Per), qs[k]? = some x → (x.2.2.1 = i ∨ x.2.2.2.1 = i) → x.2.2.2.2.1 ≤ A by
                  intro k x hx hq
                  have hk := (List.getElem?_eq_some_iff.1 hx).1
                  refine HA.out _ ?_ k x rfl hx
                  rw [List.take_length]
                  exact HCH.out.2.1 k x hk hx hq)
                have hC := HOy.out.cur
                have hpF : p < w.heap.size + 1 := by omega
                clear HA HMy HM5 HO5 hby HCH
                go_upto_region 30 with fail
                refine wp_region_held_drew (S := (fun w' => w'.cell? ⟨w.heap.size + 1, 0, none⟩ = some (.slice (some ⟨b, off, none⟩) n vcap))) (by kernel_rfl) ?_ (fun hHeld => ?_)
                · first | exact trivial | ((try dsimp only); go_keep)
                refine tkR 0 (v := ?_) ?_ ?_
                rotate_left
                · intro w hSw; (try dsimp only at hSw); go_simp <;> with_reducible rfl
                try simp only [Act.put, List.setIfInBounds_toArray, List.set_cons_zero, List.set_cons_succ]
                refine tkR 2 (v := ?_) ?_ ?_
                rotate_left
                · intro w hSw; (try dsimp only at hSw); go_simp <;> with_reducible rfl
                try simp only [Act.put, List.setIfInBounds_toArray, List.set_cons_zero, List.set_cons_succ]
                refine tkR 3 (v := ?_) ?_ ?_
                rotate_left
                · intro w hSw; (try dsimp only at hSw); go_simp <;> with_reducible rfl
                try simp only [Act.put, List.setIfInBounds_toArray, List.set_cons_zero, List.set_cons_succ]
                refine tkR 4 (v := ?_) ?_ ?_
                rotate_left
                · intro w hSw; (try dsimp only at hSw); go_simp <;> with_reducible rfl
                try simp only [Act.put, List.setIfInBounds_toArray, List.set_cons_zero, List.set_cons_succ]
                refine tkR 1 (v := ?_) ?_ ?_
                rotate_left
                · intro w hSw; (try dsimp only at hSw); go_simp <;> with_reducible rfl
                try simp only [Act.put, List.setIfInBounds_toArray, List.set_cons_zero, List.set_cons_succ]
                refine wpAnyH_ready (rs := [5]) (by kernel_rfl) (by simp) ?_
                refine rdR (fun K hK => ?_) ?_
                · go_simp
                  refine hK.out _ _ ?_ (fun hHeld => ?_)
                  · exact kpT
                  clear hK K
                  try simp only [Act.put, List.setIfInBounds_toArray, List.set_cons_zero, List.set_cons_succ]
                  refine wpAnyH_ready (rs := [6]) (by kernel_rfl) (by simp) ?_
                  refine rdR (fun K hK => ?_) ?_
                  · go_simp
                    refine (l01Int_any _ p (hC.grow ?b1) _ [0, 1, 5, 30, 60] (Rd.ints_of (B := wy.heap.size) (by first | (simp; done) | (simp; omega)) (by simp [I64]) (by simp [maxLen]) ?c1) (by simp) (by simp) (.inl (by have := hC.lt; omega)) (by first | (simp; done) | (simp; omega))).mono ?_
                    case b1 => exact bwT
                    case c1 =>
                      intro j u hj
                      match j, hj with
                      | 0, hj => simp at hj; subst hj; simp [go_sem]
                      | 1, hj => simp at hj; subst hj; simp [go_sem]
                      | 2, hj => simp at hj; subst hj; simp [go_sem]
                      | 3, hj => simp at hj; subst hj; simp [go_sem]
                      | 4, hj => simp at hj; subst hj; simp [go_sem]
                    rintro e wz ⟨c, rfl, hc, hCz, hOz⟩
                    have hc2 : 0 ≤ c ∧ c ≤ 60 := by simp at hc; omega
                    have HOz := Lib.hid (HOy.out.drew ((OffF.below (OffF.refl [p] wy) bwT).trans hOz) hCz)
                    have hS6 := HOz.out.q0
                    obtain ⟨_, _, _, _, _, _, _, _, e, hxz, -, -, -, -, -, z5, -, -, -, -, -, -, hbl2, -, hbz, hfz⟩ := HOz.out.own.rd.per_at (i := i) hil
                    simp only [Option.some.injEq, Addr.mk.injEq, and_true] at e
                    obtain ⟨rfl, rfl⟩ := e
                    have hfz := hfz rfl
                    have hwd : IntKind.i64.wrap (A + c) = A + c := IntWalk.i64_in _ (by omega)
                    have hneF : ¬ b = w.heap.size + 1 := by omega
                    have HOF := Lib.hid (HOz.out.die hil HX.out (d := A + c) (by unfold I64; omega))
                    have HPF := Lib.hid (die_ok HP.out.1 HP.out.2.1 HX.out (d := A + c) (by omega) (by omega) (fun k x hx hq => by have := HAL.out k x hx hq; omega))
                    clear hc hCz hOz hxz
                    refine hK.out _ _ ?_ (fun hHeld => ?_)
                    · exact kpT
                    clear hK K
                    try simp only [Act.put, List.setIfInBounds_toArray, List.set_cons_zero, List.set_cons_succ]
                    refine tkR 7 (v := ?_) ?_ ?_
                    rotate_left
                    · intro w hSw; (try dsimp only at hSw); go_simp <;> with_reducible rfl
                    try simp only [Act.put, List.setIfInBounds_toArray, List.set_cons_zero, List.set_cons_succ]
                    refine tkR 8 (v := ?_) ?_ ?_
                    rotate_left
                    · intro w hSw; (try dsimp only at hSw); go_simp <;> with_reducible rfl
                    try simp only [Act.put, List.setIfInBounds_toArray, List.set_cons_zero, List.set_cons_succ]
                    refine tkR 9 (v := ?_) ?_ ?_
                    rotate_left
                    · intro w hSw; (try dsimp only at hSw); go_simp <;> with_reducible rfl
                    try simp only [Act.put, List.setIfInBounds_toArray, List.set_cons_zero, List.set_cons_succ]
                    refine wpAnyH_ready (rs := [10]) (by kernel_rfl) (by simp) ?_
                    refine rdR (fun K hK => ?_) ?_
                    · go_simp
                      refine hK.out _ _ ?_ (fun hHeld => ?_)
                      · exact kpT
                      clear hK K
                      try simp only [Act.put, List.setIfInBounds_toArray, List.set_cons_zero, List.set_cons_succ]
                      refine wpAnyH_done (by kernel_rfl) ?_ _
                      clear hHeld
                      go_wp2
                      go_roundw
                      case rel => exact ⟨i + 1, setDie qs i (A + c), by omega, by go_num, (setDie_len _ _ _).trans hql, HOF, Lib.hid ⟨HPF.out.1, HPF.out.2, fun k x hx => setDie_bo HP.out.2.2 hx⟩⟩
                      case measure => simp [intOf]; omega
                    exact AllReadyH.nil
                  exact AllReadyH.nil
                exact AllReadyH.nil
        · obtain rfl : i = n := by omega
          have hiI : ¬ (i : Int) < (i : Int) := by omega
          have HFB := Lib.hid (fam_ppl (show qs.length ≤ 40 by omega) HP.out.1 HP.out.2.1)
          have hpw : p < w.heap.size + 2 := by omega
          go_wp2_with fail
          refine (l1Wed_any _ p HO.out.cur _ qs HO.out.own.rd (by omega) (by have := HO.out.lF; omega) (Nat.le_refl _) HFB.out most (by omega)).mono ?_
          rintro e wz ⟨ra, rb, f, rfl, hrf, hff, hCz, hOz⟩
          have HOz := Lib.hid (HO.out.drew hOz hCz)
          obtain ⟨xa, xn, xc, ya, yn, yc, rfl, rfl⟩ := shapeFam hrf
          have HRF := Lib.hid hrf
          have HFF := Lib.hid hff.out
          clear hrf hff
          have r0 := HOz.out.r0
          have r1 := HOz.out.r1
          have rf := HOz.out.fR
          have lF := HOz.out.lF
          have hR := HOz.out.h0
          go_wp2
          refine bodyPost_ret (v := .agg #[.slice xa xn xc, .slice ya yn yc]) (by simp [results, Try.results58, go_sem, *]) rfl ⟨_, _, f, rfl, ?_, HFF, HOz.out.cur.below ?b1, HOz.out.off.belowA ?b2⟩
          · exact (HRF.out.keep (fun b h1 h2 => (keep_set b (by omega)).trans (keep_set b (by omega)))).mono (by omega) (by simp)
          case b1 => exact bwT
          case b2 => exact bwT
end Go.Proofs.Ytefbbbhidnnchaa
