/- Contract of l7Halves (spec). Written by half_gen.py. -/
import Derived.Test.YtefbbbhidnnchaaMoi3
import Derived.Test.YtefbbbhidnnchaaZ14P
namespace Go.Proofs.Ytefbbbhidnnchaa
set_option linter.unusedVariables false
set_option linter.unusedSimpArgs false
open Go.RowKit

/-- What spreading the halves does to the marks. -/
def PostH (f : Fam) (sex : Int) (o1 : List Int) (fp : List Nat) (w : World) (vm : Value) (e : Ending) (w' : World) : Prop :=
  ∃ (t : Bool) (o' : List Int), e = .returned (.bool t) ∧ Rep.rep true w' [vm] o' fp ∧ OffF fp w w' ∧ Hid (t = true → Inn f sex o1 o' ∧ Fix f sex o') ∧ Hid (t = false → ¬ ∃ g, Val f sex g ∧ Agr f.1.length g o1)

set_option maxRecDepth 20000 in
set_option maxHeartbeats 16000000 in
theorem halves_any {z : Bool} {lo hi : Nat} (w : World) (v v2 vm : Value) (f : Fam) (h : Rd z lo hi w [v, v2] f) (sex : Int) (hsx : sexB sex = true) (hfam : famB f = true) (o1 : List Int) (fp : List Nat) (hm : Rep.rep true w [vm] o1 fp) (lm : Nat) (hzm : InZ lm w.heap.size fp) (hlm : lm ≤ w.heap.size) (hhi : hi ≤ lm) (hH : Hr f sex o1 0 o1) :
    Calls Try.prog 37 #[.agg #[v, v2], .int .i64 sex, vm] w (PostH f sex o1 fp w vm) := by
  obtain ⟨ha, hb⟩ := h.fam
  obtain ⟨ao, n, cap, rfl, hn, hnc, hcm, hnone⟩ := ha.shape
  obtain ⟨ao2, n2, cap2, rfl, hn2, hnc2, hcm2, hnone2⟩ := hb.shape
  subst hn hn2
  have hR : Rd true lm w.heap.size w [vm] o1 := ⟨fp, hm, hzm⟩
  obtain ⟨ao3, n3, cap3, rfl, hn3, hnc3, hcm3, hnone3⟩ := hR.shape
  obtain rfl : n3 = f.1.length := by rw [← hn3]; exact hH.inn.rng.1
  unfold maxLen at *
  obtain ⟨h40, h60, hP, hU⟩ := famB_facts hfam
  have HP := Lib.hid hP
  have HIN := Lib.hid (show ∀ p, p < f.1.length → fo f.1 sex p < f.1.length from fun p hp => fo_lt hP (Nat.le_refl _) sex p hp)
  have HU := Lib.hid (show ∀ (k : Nat) (u : Uni), f.2[k]? = some u → (0 ≤ u.1 ∧ u.1 < f.1.length) ∧ (0 ≤ u.2.1 ∧ u.2.1 < f.1.length) from fun k u hu => by
    obtain ⟨m, wo, fr, tl⟩ := u
    exact uniOk_facts (hU k (List.getElem?_eq_some_iff.1 hu).1) hu)
  have HSX := Lib.hid hsx
  have HH := Lib.hid hH
  have hM0 := Lib.hid hm
  have hzw := hzm
  have hlt0 := Lib.hid (show ∀ b ∈ fp, b < w.heap.size from fun b hb => (hzm b hb).2)
  clear hP hU hn3 hnone hnone2 hnone3 hR hm hH hsx hfam hzm
  have haz := Lib.hid (show ∀ W, Below lm w W → Rd z lo hi W [.slice ao f.1.length cap] f.1 from fun W hb => ha.keep (fun i h1 h2 => hb.block i (by omega)))
  have hbz := Lib.hid (show ∀ W, Below lm w W → Rd z lo hi W [.slice ao2 f.2.length cap2] f.2 from fun W hbb => hb.keep (fun i h1 h2 => hbb.block i (by omega)))
  clear ha hb h
  go_enter Try.func37, Try.ntmps37
  have qa_f0 : (w.alloc (.cells #[.slice ao f.1.length cap, .slice ao2 f.2.length cap2] 26)).cell? ⟨w.heap.size, 0, none⟩ = some (.slice ao f.1.length cap) := by simp [go_sem]
  have qa_f1 : (w.alloc (.cells #[.slice ao f.1.length cap, .slice ao2 f.2.length cap2] 26)).cell? ⟨w.heap.size, 1, none⟩ = some (.slice ao2 f.2.length cap2) := by simp [go_sem]
  have hM1 := Lib.hid (Rep.keep hM0.out (fun b hb => Below.heap_alloc w (.cells #[.slice ao f.1.length cap, .slice ao2 f.2.length cap2] 26) b (hlt0.out b hb)))
  clear hM0
  go_wp2
  go_loopw [7] (fun s7 wr => ∃ (r : Nat) (o : List Int), r ≤ f.1.length + 1 ∧ s7 = .int .i64 r ∧ Hid (Rep.rep true wr [.slice ao3 f.1.length cap3] o fp) ∧ Hid (Hr f sex o1 r o) ∧ OffF fp (w.alloc (.cells #[.slice ao f.1.length cap, .slice ao2 f.2.length cap2] 26)) wr) (fun s7 _ => f.1.length + 1 - (intOf s7).toNat)
  case atStart => exact ⟨0, o1, Nat.zero_le _, rfl, hM1, HH, OffF.refl _ _⟩
  case round =>
    clear hM1 HH
    obtain ⟨wb, hwb⟩ : ∃ wm : World, wm = wr := ⟨_, rfl⟩
    subst hwb
    obtain ⟨r, o', hr1, rfl, hM, HH, hoff⟩ := hrel
    by_cases hlr : r ≤ f.1.length
    · have hIr : (r : Int) ≤ (f.1.length : Int) := by omega
      have HS0 := Lib.hid (Sr.start HH.out.inn)
      go_wp2
      go_loopw [8, 9, 20] (fun _ _ s20 wr => ∃ (a : Nat) (p : List Int), a ≤ f.1.length ∧ s20 = .int .i64 a ∧ Hid (Rep.rep true wr [.slice ao3 f.1.length cap3] p fp) ∧ Hid (Sr f sex o1 o' a 0 p) ∧ OffF fp (w.alloc (.cells #[.slice ao f.1.length cap, .slice ao2 f.2.length cap2] 26)) wr) (fun _ _ s20 _ => f.1.length - (intOf s20).toNat)
      case atStart => exact ⟨0, o', Nat.zero_le _, rfl, hM, HS0, hoff⟩
      case round =>
        clear HS0 hM hoff
        obtain ⟨wc, hwc⟩ : ∃ wm : World, wm = wr := ⟨_, rfl⟩
        subst hwc
        obtain ⟨a, p, ha1, rfl, hM, HS, hoff⟩ := hrel
        have sR := hoff.size
        simp only [World.size_alloc] at sR
        have hbw : Below lm w wc := Below.trans ((Below.refl _ _).alloc hlm _) (hoff.toBelow (by simp; omega) (fun b hb => (hzw b hb).1))
        have q_f0 := offc hoff hzw (.inr (Nat.le_refl _)) (by simp) qa_f0
        have q_f1 := offc hoff hzw (.inr (Nat.le_refl _)) (by simp) qa_f1
        have l_f : w.heap.size < wc.heap.size := by omega
        by_cases hla : a < f.1.length
        · have hIa : (a : Int) < (f.1.length : Int) := by omega
          go_wp2_with fail
          refine (l7Founder_any _ _ _ sex f.1 (haz.out _ (by assumption)) HP.out a hla HSX.out).mono ?_
          obtain ⟨q, hq⟩ : ∃ q, q = fo f.1 sex a := ⟨_, rfl⟩
          have hqn : q < f.1.length := by rw [hq]; exact HIN.out a hla
          rw [← hq]
          rintro e w1 ⟨rfl, hb1⟩
          have hM := Lib.hid (Rep.keep hM.out (fun b hb => hb1.block b (Rep.lt hM.out b hb)))
          have hoff := hoff.below hb1
          have q_f0 := oldc hb1 l_f q_f0
          have q_f1 := oldc hb1 l_f q_f1
          have HQ := Lib.hid hq
          clear hq hb1 hbw
          have hIq : (q : Int) < (f.1.length : Int) := by omega
          obtain ⟨b, off, x, rfl, hx, hcx, hx1, hx2, hbm, hbl, hfz⟩ := rep_int_at hM.out (i := a) hla
          obtain ⟨_, _, y, ee, hy, hcy, hy1, hy2, -, -, -⟩ := rep_int_at hM.out (i := q) hqn
          simp only [Option.some.injEq, Addr.mk.injEq, and_true] at ee
          obtain ⟨rfl, rfl⟩ := ee
          have hfz := hfz rfl
          have HMX := Lib.hid (show mrk p a = x from getI_at hx.out)
          have HMY := Lib.hid (show mrk p q = y from getI_at hy.out)
          have hrx : x = -1 ∨ x = 0 ∨ x = 1 := by rw [← HMX.out]; exact HS.out.inn.rng.2 a hla
          have hry : y = -1 ∨ y = 0 ∨ y = 1 := by rw [← HMY.out]; exact HS.out.inn.rng.2 q hqn
          by_cases e1 : 0 ≤ y
          · by_cases e2 : x < 0
            · skip
              have HN := Lib.hid (HS.out.put1 hla (by rw [← HQ.out]; exact hqn) (by first | (rw [← HQ.out, HMY.out]; omega) | (rw [HMX.out]; omega)) (by first | (rw [HMX.out]; omega) | (rw [← HQ.out, HMY.out]; omega)))
              rw [← HQ.out, HMY.out] at HN
              have hne : ¬ a = q := fun e => by have h1 := HMX.out; have h2 := HMY.out; rw [e] at h1; omega
              have hen : ¬ q = a := fun e => hne e.symm
              have hset := Lib.hid (rep_int_set hM.out hx.out ⟨by omega, by omega⟩ (y := y) ⟨by omega, by omega⟩)
              have hof2 := Lib.hid (hoff.setCell (p := ⟨b, off + a, none⟩) hbm.out (.int .i64 y))
              have e7 : ¬ y < 0 := by omega
              clear HS HMX HMY hx hy hM hoff hrx hry
              go_wp2_with fail
              go_quiet (fail)
              go_wp2
              go_roundw
              case rel => exact ⟨a + 1, _, by omega, by go_num, Lib.hid (Rep.keep hset.out (fun _ _ => rfl)), HN, offF_drewN hof2.out _⟩
              case measure => simp [intOf]; omega
            · have e3 : 0 ≤ x := by omega
              have e4 : ¬ y < 0 := by omega
              by_cases e5 : x = y
              · skip
                have HN := Lib.hid (HS.out.keep (by rw [← HQ.out, HMX.out, HMY.out]; exact e5))
                clear HS HMX HMY hx hy hrx hry
                subst e5
                go_wp2_with fail
                go_quiet (fail)
                go_wp2
                go_roundw
                case rel => exact ⟨a + 1, p, by omega, by go_num, Lib.hid (Rep.keep hM.out (fun _ _ => rfl)), HN, offF_drewN hoff _⟩
                case measure => simp [intOf]; omega
              have HN := Lib.hid (HS.out.bad hla (by rw [← HQ.out]; exact hqn) (by rw [HMX.out]; exact e3) (by rw [← HQ.out, HMY.out]; exact e1) (by rw [← HQ.out, HMX.out, HMY.out]; exact e5))
              have e5a : (x == y) = false := by simpa using e5
              have e5b : (x != y) = true := by simpa using e5
              clear HS HMX HMY hx hy hrx hry e5
              go_wp2_with fail
              go_quiet (fail)
              go_wp2
              go_ret
              exact ⟨false, p, rfl, Rep.keep hM.out (fun _ _ => rfl), offF_drewN (((OffF.refl _ _).alloc _).trans hoff) _, Lib.hid (fun h => by cases h), Lib.hid (fun _ => HN.out)⟩
          · by_cases e2 : 0 ≤ x
            · have e3 : y < 0 := by omega
              have HN := Lib.hid (HS.out.put2 hla (by rw [← HQ.out]; exact hqn) (by first | (rw [← HQ.out, HMY.out]; omega) | (rw [HMX.out]; omega)) (by first | (rw [HMX.out]; omega) | (rw [← HQ.out, HMY.out]; omega)))
              rw [← HQ.out, HMX.out] at HN
              have hne : ¬ a = q := fun e => by have h1 := HMX.out; have h2 := HMY.out; rw [e] at h1; omega
              have hen : ¬ q = a := fun e => hne e.symm
              have hset := Lib.hid (rep_int_set hM.out hy.out ⟨by omega, by omega⟩ (y := x) ⟨by omega, by omega⟩)
              have hof2 := Lib.hid (hoff.setCell (p := ⟨b, off + q, none⟩) hbm.out (.int .i64 x))
              have e7 : ¬ x < 0 := by omega
              clear HS HMX HMY hx hy hM hoff hrx hry
              go_wp2_with fail
              go_quiet (fail)
              go_wp2
              go_roundw
              case rel => exact ⟨a + 1, _, by omega, by go_num, Lib.hid (Rep.keep hset.out (fun _ _ => rfl)), HN, offF_drewN hof2.out _⟩
              case measure => simp [intOf]; omega
            · have e5 : x = y := by omega
              have e3 : y < 0 := by omega
              have HN := Lib.hid (HS.out.keep (by rw [← HQ.out, HMX.out, HMY.out]; exact e5))
              clear HS HMX HMY hx hy hrx hry
              subst e5
              go_wp2_with fail
              go_quiet (fail)
              go_wp2
              go_roundw
              case rel => exact ⟨a + 1, p, by omega, by go_num, Lib.hid (Rep.keep hM.out (fun _ _ => rfl)), HN, offF_drewN hoff _⟩
              case measure => simp [intOf]; omega
        · obtain rfl : a = f.1.length := by omega
          have nIa : ¬ (f.1.length : Int) < (f.1.length : Int) := by omega
          go_wp2
          go_loopw [11, 78] (fun _ s78 wr => ∃ (j : Nat) (p : List Int), j ≤ f.2.length ∧ s78 = .int .i64 j ∧ Hid (Rep.rep true wr [.slice ao3 f.1.length cap3] p fp) ∧ Hid (Sr f sex o1 o' f.1.length j p) ∧ OffF fp (w.alloc (.cells #[.slice ao f.1.length cap, .slice ao2 f.2.length cap2] 26)) wr) (fun _ s78 _ => f.2.length - (intOf s78).toNat)
          case atStart => exact ⟨0, p, Nat.zero_le _, rfl, hM, HS, hoff⟩
          case round =>
            clear HS hM hoff sR hbw q_f0 q_f1 l_f
            obtain ⟨wd, hwd⟩ : ∃ wm : World, wm = wr := ⟨_, rfl⟩
            subst hwd
            obtain ⟨j, p, hj1, rfl, hM, HS, hoff⟩ := hrel
            have sR := hoff.size
            simp only [World.size_alloc] at sR
            have hbw : Below lm w wd := Below.trans ((Below.refl _ _).alloc hlm _) (hoff.toBelow (by simp; omega) (fun b hb => (hzw b hb).1))
            have q_f0 := offc hoff hzw (.inr (Nat.le_refl _)) (by simp) qa_f0
            have q_f1 := offc hoff hzw (.inr (Nat.le_refl _)) (by simp) qa_f1
            have l_f : w.heap.size < wd.heap.size := by omega
            by_cases hlj : j < f.2.length
            · have hIj : (j : Int) < (f.2.length : Int) := by omega
              obtain ⟨ub, uoff, ma, wo, fr, tl, rfl, hu, p0, p1, p2, p3, -, -, -, -, -, -, ubl, -⟩ := (hbz.out _ hbw).uni_at hlj
              obtain ⟨⟨um1, um2⟩, ⟨uw1, uw2⟩⟩ := HU.out j _ hu.out
              dsimp only at um1 um2 uw1 uw2
              obtain ⟨mi, rfl⟩ := Int.eq_ofNat_of_zero_le um1
              obtain ⟨wi, rfl⟩ := Int.eq_ofNat_of_zero_le uw1
              have hlm2 : mi < f.1.length := by omega
              have hlw2 : wi < f.1.length := by omega
              obtain ⟨b, off, x, rfl, hx, hcx, hx1, hx2, hbm, hbl, hfz⟩ := rep_int_at hM.out (i := mi) hlm2
              obtain ⟨_, _, y, ee, hy, hcy, hy1, hy2, -, -, -⟩ := rep_int_at hM.out (i := wi) hlw2
              simp only [Option.some.injEq, Addr.mk.injEq, and_true] at ee
              obtain ⟨rfl, rfl⟩ := ee
              have hfz := hfz rfl
              have HMX := Lib.hid (show mrk p mi = x from getI_at hx.out)
              have HMY := Lib.hid (show mrk p wi = y from getI_at hy.out)
              have hrx : x = -1 ∨ x = 0 ∨ x = 1 := by rw [← HMX.out]; exact HS.out.inn.rng.2 mi hlm2
              have hry : y = -1 ∨ y = 0 ∨ y = 1 := by rw [← HMY.out]; exact HS.out.inn.rng.2 wi hlw2
              have nO1 : ¬ b = wd.heap.size := by omega
              have nO2 : ¬ wd.heap.size = b := by omega
              by_cases e1 : 0 ≤ x
              · by_cases e2 : y < 0
                · skip
                  have HN := Lib.hid (HS.out.uput1 hu.out (by dsimp only; omega) (by dsimp only; omega) (by dsimp only; rw [Int.toNat_natCast, HMX.out]; omega) (by dsimp only; rw [Int.toNat_natCast, HMY.out]; omega))
                  dsimp only at HN
                  rw [Int.toNat_natCast, Int.toNat_natCast, HMX.out] at HN
                  have hmw : ¬ mi = wi := fun e => by have h1 := HMX.out; have h2 := HMY.out; rw [e] at h1; omega
                  have hwm : ¬ wi = mi := fun e => hmw e.symm
                  have hset := Lib.hid (rep_int_set hM.out hy.out ⟨by omega, by omega⟩ (y := 1 - x) ⟨by omega, by omega⟩)
                  have hof2 := (hoff.setCell (p := ⟨b, off + wi, none⟩) hbm.out (.int .i64 (1 - x)))
                  have hltS := Lib.hid (show ∀ c ∈ fp, c < (wd.setCell ⟨b, off + wi, none⟩ (.int .i64 (1 - x))).heap.size from fun c hc => by have := Rep.lt hM.out c hc; simpa using this)
                  have e7 : 0 ≤ 1 - x := by omega
                  have e8 : ¬ x < 0 := by omega
                  have d0 : x ≤ 1 := by omega
                  have d1 : decide (0 ≤ 1 - x) = true := by simpa using e7
                  have d2 : decide (x ≤ 1) = true := by simpa using d0
                  have e9 : (x == 1 - x) = false := by simp; omega
                  have e10 : (1 - x == x) = false := by simp; omega
                  clear HS HMX HMY hx hy hu hM hoff hrx hry
                  go_wp2
                  go_region
                  go_wp2_with fail
                  go_quiet (fail)
                  go_wp2
                  go_roundw
                  case rel => exact ⟨j + 1, _, by omega, by go_num, Lib.hid (Rep.keep hset.out (fun b hb => Below.heap_alloc _ _ b (hltS.out b hb))), HN, (by repeat' (first | (with_reducible exact OffF.refl _ _) | (with_reducible assumption) | (with_reducible refine offF_drewN ?_ _) | (with_reducible refine OffF.drew ?_) | (with_reducible refine OffF.setCell ?_ (by simp) _) | (with_reducible refine OffF.alloc ?_ _)))⟩
                  case measure => simp [intOf]; omega
                · have e3 : 0 ≤ y := by omega
                  have e4 : ¬ x < 0 := by omega
                  by_cases e5 : x = y
                  · have HN := Lib.hid (HS.out.ubad hu.out (by dsimp only; omega) (by dsimp only; omega) (by dsimp only; rw [Int.toNat_natCast, HMX.out]; exact e1) (by dsimp only; rw [Int.toNat_natCast, Int.toNat_natCast, HMX.out, HMY.out]; exact e5))
                    have e5a : (x == y) = true := by simpa using e5
                    have E5 := Lib.hid e5
                    clear HS HMX HMY hx hy hu hrx hry e5
                    go_wp2_with fail
                    go_quiet (fail)
                    go_wp2
                    go_ret
                    exact ⟨false, p, rfl, Rep.keep hM.out (fun b hb => Below.heap_alloc _ _ b (Rep.lt hM.out b hb)), offF_drewN ((((OffF.refl _ _).alloc _).trans hoff).alloc _) _, Lib.hid (fun h => by cases h), Lib.hid (fun _ => HN.out)⟩
                  · have e5a : (x == y) = false := by simpa using e5
                    have HN := Lib.hid (HS.out.ukeep hu.out (by dsimp only; rw [Int.toNat_natCast, Int.toNat_natCast, HMX.out, HMY.out]; omega) (by dsimp only; rw [Int.toNat_natCast, Int.toNat_natCast, HMX.out, HMY.out]; omega))
                    clear HS HMX HMY hx hy hu hrx hry
                    go_wp2_with fail
                    go_quiet (fail)
                    go_wp2
                    go_roundw
                    case rel => exact ⟨j + 1, p, by omega, by go_num, Lib.hid (Rep.keep hM.out (fun b hb => Below.heap_alloc _ _ b (Rep.lt hM.out b hb))), HN, (by repeat' (first | (with_reducible exact OffF.refl _ _) | (with_reducible assumption) | (with_reducible refine offF_drewN ?_ _) | (with_reducible refine OffF.drew ?_) | (with_reducible refine OffF.setCell ?_ (by simp) _) | (with_reducible refine OffF.alloc ?_ _)))⟩
                    case measure => simp [intOf]; omega
              · by_cases e2 : 0 ≤ y
                · have e3 : x < 0 := by omega
                  have HN := Lib.hid (HS.out.uput2 hu.out (by dsimp only; omega) (by dsimp only; omega) (by dsimp only; rw [Int.toNat_natCast, HMY.out]; omega) (by dsimp only; rw [Int.toNat_natCast, HMX.out]; omega))
                  dsimp only at HN
                  rw [Int.toNat_natCast, Int.toNat_natCast, HMY.out] at HN
                  have hmw : ¬ mi = wi := fun e => by have h1 := HMX.out; have h2 := HMY.out; rw [e] at h1; omega
                  have hwm : ¬ wi = mi := fun e => hmw e.symm
                  have hset := Lib.hid (rep_int_set hM.out hx.out ⟨by omega, by omega⟩ (y := 1 - y) ⟨by omega, by omega⟩)
                  have hof2 := (hoff.setCell (p := ⟨b, off + mi, none⟩) hbm.out (.int .i64 (1 - y)))
                  have hltS := Lib.hid (show ∀ c ∈ fp, c < (wd.setCell ⟨b, off + mi, none⟩ (.int .i64 (1 - y))).heap.size from fun c hc => by have := Rep.lt hM.out c hc; simpa using this)
                  have e7 : 0 ≤ 1 - y := by omega
                  have e8 : ¬ y < 0 := by omega
                  have d0 : y ≤ 1 := by omega
                  have d1 : decide (0 ≤ 1 - y) = true := by simpa using e7
                  have d2 : decide (y ≤ 1) = true := by simpa using d0
                  have e9 : (y == 1 - y) = false := by simp; omega
                  have e10 : (1 - y == y) = false := by simp; omega
                  clear HS HMX HMY hx hy hu hM hoff hrx hry
                  go_wp2
                  go_region
                  go_wp2_with fail
                  go_quiet (fail)
                  go_wp2
                  go_roundw
                  case rel => exact ⟨j + 1, _, by omega, by go_num, Lib.hid (Rep.keep hset.out (fun b hb => Below.heap_alloc _ _ b (hltS.out b hb))), HN, (by repeat' (first | (with_reducible exact OffF.refl _ _) | (with_reducible assumption) | (with_reducible refine offF_drewN ?_ _) | (with_reducible refine OffF.drew ?_) | (with_reducible refine OffF.setCell ?_ (by simp) _) | (with_reducible refine OffF.alloc ?_ _)))⟩
                  case measure => simp [intOf]; omega
                · have e3 : y < 0 := by omega
                  have d3 : decide (0 ≤ x) = false := by simpa using e1
                  have d4 : decide (0 ≤ y) = false := by simpa using e2
                  have HN := Lib.hid (HS.out.ukeep hu.out (by dsimp only; rw [Int.toNat_natCast, Int.toNat_natCast, HMX.out, HMY.out]; omega) (by dsimp only; rw [Int.toNat_natCast, Int.toNat_natCast, HMX.out, HMY.out]; omega))
                  clear HS HMX HMY hx hy hu hrx hry
                  go_wp2_with fail
                  go_quiet (fail)
                  go_wp2
                  go_roundw
                  case rel => exact ⟨j + 1, p, by omega, by go_num, Lib.hid (Rep.keep hM.out (fun b hb => Below.heap_alloc _ _ b (Rep.lt hM.out b hb))), HN, (by repeat' (first | (with_reducible exact OffF.refl _ _) | (with_reducible assumption) | (with_reducible refine offF_drewN ?_ _) | (with_reducible refine OffF.drew ?_) | (with_reducible refine OffF.setCell ?_ (by simp) _) | (with_reducible refine OffF.alloc ?_ _)))⟩
                  case measure => simp [intOf]; omega
            · obtain rfl : j = f.2.length := by omega
              have nIj : ¬ (f.2.length : Int) < (f.2.length : Int) := by omega
              have HN := Lib.hid (HS.out.round HH.out)
              clear HS HH
              go_wp2
              go_roundw
              case rel => exact ⟨r + 1, p, by omega, by go_num, hM, HN, hoff⟩
              case measure => simp [intOf]; omega
    · have nIr : ¬ (r : Int) ≤ (f.1.length : Int) := by omega
      have HF := Lib.hid (And.intro HH.out.inn (HH.out.fixed (by omega)))
      clear HH
      go_wp2
      go_ret
      exact ⟨true, o', rfl, hM.out, (((OffF.refl _ _).alloc _).trans hoff), Lib.hid (fun _ => HF.out), Lib.hid (fun h => by cases h)⟩
end Go.Proofs.Ytefbbbhidnnchaa
