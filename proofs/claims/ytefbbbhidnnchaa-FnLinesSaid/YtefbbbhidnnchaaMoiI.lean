/- Contract of MoietiesOf (impl). Written by moi_gen.py. -/
import Derived.Test.YtefbbbhidnnchaaZ14P
import Derived.Test.YtefbbbhidnnchaaExoI
namespace Go.Proofs.Ytefbbbhidnnchaa
set_option linter.unusedVariables false
set_option linter.unusedSimpArgs false
open Go.RowKit

def MoiAns (f : Fam) (sex : Int) (X : List Int) (V : Bool) : Prop := if (famB f && sexB sex) = true then MoiRes f sex X V else (X = [] ∧ V = false)
theorem MoiAns.ex (f : Fam) (sex : Int) : ∃ X V, MoiAns f sex X V := by
  unfold MoiAns
  split
  · exact MoiRes.ex f sex
  · exact ⟨_, _, rfl, rfl⟩
theorem MoiAns.len {f : Fam} {sex : Int} {X : List Int} {V : Bool} (h : MoiAns f sex X V) : X.length ≤ 40 := by
  unfold MoiAns at h
  split at h
  · rename_i e
    have hf : famB f = true := by simp at e; exact e.1
    have := (famB_facts hf).1
    have := h.len
    omega
  · rw [h.1]; simp

theorem exoU_iff (o : List Int) (u : Uni) : exoU o u = true ↔ ¬ mrk o u.1.toNat = mrk o u.2.1.toNat := by
  simp only [exoU, mrk, getI, Int.toNat_natCast, Bool.not_eq_true', decide_eq_false_iff_not]
theorem exoB_iff {f : Fam} {o : List Int} (hf : famB f = true) (hl : o.length = f.1.length) : exoB f o = true ↔ ∀ u ∈ f.2, ¬ mrk o u.1.toNat = mrk o u.2.1.toNat := by
  simp only [exoB, hf, hl, decide_true, Bool.true_and, List.all_eq_true, exoU_iff]

set_option maxRecDepth 20000 in
set_option maxHeartbeats 16000000 in
theorem moietiesI_any {z : Bool} {lo hi : Nat} (w : World) (v v2 : Value) (f : Fam) (h : Rd z lo hi w [v, v2] f) (sex : Int) (X : List Int) (V : Bool) (hXV : MoiAns f sex X V) :
    Calls Try.prog 15 #[.agg #[v, v2], .int .i64 sex] w (PostOwB w X V) := by
  have HXV := Lib.hid hXV
  obtain ⟨ha, hb⟩ := h.fam
  obtain ⟨ao, n, cap, rfl, hn, hnc, hcm, hnone⟩ := ha.shape
  obtain ⟨ao2, n2, cap2, rfl, hn2, hnc2, hcm2, hnone2⟩ := hb.shape
  subst hn hn2
  unfold maxLen at *
  obtain ⟨r1, hlet_r1⟩ : ∃ r, r = famB f := ⟨_, rfl⟩
  have H1 := Lib.hid hlet_r1
  clear hlet_r1
  obtain ⟨r2, hlet_r2⟩ : ∃ r, r = sexB sex := ⟨_, rfl⟩
  have H2 := Lib.hid hlet_r2
  clear hlet_r2
  have HQ := Lib.hid (show if (r1 && r2) = true then MoiRes f sex X V else (X = [] ∧ V = false) by rw [H1.out, H2.out]; exact hXV)
  clear hXV HXV hnone hnone2
  go_enter Try.func15, Try.ntmps15
  go_wp2_with fail
  refine (isFamI_b _ _ _ f (h.below bwT) r1 H1.out).mono ?_
  rintro e1 w1 ⟨rfl, hbw1⟩
  have hpw1 : Below w.heap.size w w1 := Below.after bwT hbw1 szT
  have sw1 := hpw1.size
  have hBw1 : Below w.heap.size w w1 := hpw1
  have l_f : w.heap.size < w1.heap.size := by have := hbw1.size; simp at this; omega
  have q_f0 : w1.cell? ⟨w.heap.size, 0, none⟩ = some (.slice ao f.1.length cap) := oldc hbw1 ltT (by simp [go_sem])
  have q_f1 : w1.cell? ⟨w.heap.size, 1, none⟩ = some (.slice ao2 f.2.length cap2) := oldc hbw1 ltT (by simp [go_sem])
  clear hbw1 hpw1
  cases r1
  · obtain ⟨rfl, rfl⟩ : X = [] ∧ V = false := by simpa using HQ.out
    clear h ha hb HQ
    go_wp2
    exact bodyPost_ret (v := .tuple #[.slice none 0 0, .bool false]) (by simp [results, go_sem]) rfl ⟨_, rfl, Ow.nil _ _ _, bwT⟩
  go_wp2_with fail
  refine (isSex_b _ sex r2 H2.out).mono ?_
  rintro e2 w2 ⟨rfl, hbw2⟩
  have hpw2 : Below w1.heap.size w1 w2 := Below.after bwT hbw2 szT
  have sw2 := hpw2.size
  have hBw2 : Below w.heap.size w w2 := Below.trans hBw1 (Below.mono hpw2 hBw1.size)
  have q_f0 := oldc hpw2 l_f q_f0
  have q_f1 := oldc hpw2 l_f q_f1
  have l_f := Nat.lt_of_lt_of_le l_f sw2
  clear hbw2 hpw2
  cases r2
  · obtain ⟨rfl, rfl⟩ : X = [] ∧ V = false := by simpa using HQ.out
    clear h ha hb HQ
    go_wp2
    exact bodyPost_ret (v := .tuple #[.slice none 0 0, .bool false]) (by simp [results, go_sem]) rfl ⟨_, rfl, Ow.nil _ _ _, bwT⟩
  have HR := Lib.hid (show MoiRes f sex X V by simpa using HQ.out)
  obtain ⟨h40, h60, hP, hU⟩ := famB_facts H1.out.symm
  have HP := Lib.hid hP
  have HIN := Lib.hid (show ∀ p, p < f.1.length → fo f.1 sex p < f.1.length from fun p hp => fo_lt hP (Nat.le_refl _) sex p hp)
  have HFF := Lib.hid (show ∀ p, p < f.1.length → fo f.1 sex (fo f.1 sex p) = fo f.1 sex p from fun p hp => fo_fo hP (Nat.le_refl _) sex p hp)
  have HU := Lib.hid (show ∀ (k : Nat) (u : Uni), f.2[k]? = some u → (0 ≤ u.1 ∧ u.1 < f.1.length) ∧ (0 ≤ u.2.1 ∧ u.2.1 < f.1.length) from fun k u hu => by
    obtain ⟨m, wo, fr, tl⟩ := u
    exact uniOk_facts (hU k (List.getElem?_eq_some_iff.1 hu).1) hu)
  have HUN := Lib.hid (show ∀ u ∈ f.2, u.1.toNat < f.1.length ∧ u.2.1.toNat < f.1.length from fun u hu => by
    obtain ⟨k, hk⟩ := List.mem_iff_getElem?.1 hu
    have := HU.out k u hk
    omega)
  clear hP hU HQ
  obtain ⟨Wa, hWa⟩ : ∃ W : World, W = w2 := ⟨_, rfl⟩
  subst hWa
  have hBa : Below w.heap.size w Wa := hBw2
  have sa := hBa.size
  go_wp2_with (at_make; refine wpList_mk (α := Int) rfl rfl slInt (y0 := 0) (fun _ => ⟨rfl, by unfold I64; omega, rfl⟩) rfl rfl rfl rfl (by omega) (by unfold maxLen; omega) ?_; intro wA how hbA hlt1)
  have qa_f0 := oldc hbA l_f q_f0
  have qa_f1 := oldc hbA l_f q_f1
  have lmf : w.heap.size < Wa.heap.size := l_f
  have la_f := Nat.lt_of_lt_of_le l_f hbA.size
  have hBA : Below w.heap.size w wA := hBa.trans (hbA.mono sa)
  have sA := hBA.size
  have hz1 := inz1 Wa.heap.size
  have how0 := Lib.hid (show Ow Wa.heap.size (Wa.heap.size + 1) wA [.slice (some ⟨Wa.heap.size, 0, none⟩) f.1.length f.1.length] (List.replicate 0 (-1) ++ List.replicate (f.1.length - 0) 0) from how)
  clear how hbA q_f0 q_f1
  go_loopw [7, 30] (fun _ s30 wr => ∃ k : Nat, k ≤ f.1.length ∧ s30 = .int .i64 k ∧ Hid (Ow Wa.heap.size (Wa.heap.size + 1) wr [.slice (some ⟨Wa.heap.size, 0, none⟩) f.1.length f.1.length] (List.replicate k (-1 : Int) ++ List.replicate (f.1.length - k) 0)) ∧ OffF [Wa.heap.size] wA wr) (fun _ s30 _ => f.1.length - (intOf s30).toNat)
  case atStart => exact ⟨0, Nat.zero_le _, rfl, how0, OffF.refl _ _⟩
  case round =>
    clear how0
    obtain ⟨wb, hwb⟩ : ∃ wm : World, wm = wr := ⟨_, rfl⟩
    subst hwb
    obtain ⟨k, hk, rfl, hM, hoff⟩ := hrel
    by_cases hlt : k < f.1.length
    · have hI : (k : Int) < (f.1.length : Int) := by omega
      obtain ⟨x, hx, hcx, hx1, hx2, hfx, -⟩ := hM.out.int_at0 (i := k) hlt
      have hset := hM.out.int_set0 (i := k) hlt (y := -1) ⟨by omega, by omega⟩
      rw [rep_set_snoc hlt] at hset
      have HS := Lib.hid hset
      clear hset hM hx
      go_wp2
      go_roundw
      case rel => exact ⟨k + 1, by omega, by go_num, HS, hoff.setCell (by simp) _⟩
      case measure => simp [intOf]; omega
    · obtain rfl : k = f.1.length := by omega
      have nI : ¬ (f.1.length : Int) < (f.1.length : Int) := by omega
      have hm0 := Lib.hid (show Ow Wa.heap.size (Wa.heap.size + 1) wb [.slice (some ⟨Wa.heap.size, 0, none⟩) f.1.length f.1.length] (List.replicate f.1.length (-1 : Int)) by simpa using hM.out)
      have HO0 := Lib.hid (Out.start (sex := sex) HIN.out HUN.out)
      clear hM
      go_wp2
      go_loopw [8, 39] (fun _ s39 wr => ∃ (k : Nat) (o : List Int), k ≤ f.1.length ∧ s39 = .int .i64 k ∧ Hid (Ow Wa.heap.size (Wa.heap.size + 1) wr [.slice (some ⟨Wa.heap.size, 0, none⟩) f.1.length f.1.length] o) ∧ Hid (Out f sex k o) ∧ OffF [Wa.heap.size] wA wr) (fun _ s39 _ => f.1.length - (intOf s39).toNat)
      case atStart => exact ⟨0, _, Nat.zero_le _, rfl, hm0, HO0, hoff⟩
      case round =>
        clear hm0 HO0 hoff
        obtain ⟨wc, hwc⟩ : ∃ wm : World, wm = wr := ⟨_, rfl⟩
        subst hwc
        obtain ⟨k, o, hk, rfl, hM, HO, hoff⟩ := hrel
        by_cases hlt : k < f.1.length
        · have hI : (k : Int) < (f.1.length : Int) := by omega
          obtain ⟨x, hx, hcx, hx1, hx2, hfx, -⟩ := hM.out.int_at0 (i := k) hlt
          have HMX := Lib.hid (show mrk o k = x from getI_at hx.out)
          by_cases h0 : 0 ≤ x
          · have HN := Lib.hid (HO.out.skip hlt (by rw [HMX.out]; exact h0))
            clear hx HMX HO
            go_wp2
            go_roundw
            case rel => exact ⟨k + 1, o, by omega, by go_num, hM, HN, hoff⟩
            case measure => simp [intOf]; omega
          · have HNM := Lib.hid (show ¬ 0 ≤ mrk o k by rw [HMX.out]; exact h0)
            have hs1 := Lib.hid (hM.out.int_set0 (i := k) hlt (y := 0) ⟨by omega, by omega⟩)
            have hI1 := Lib.hid (Inn.start (f := f) (sex := sex) HO.out.rng hlt)
            have hof1 := Lib.hid (hoff.setCell (p := ⟨Wa.heap.size, k, none⟩) (by simp) (.int .i64 0))
            clear hM hx HMX hoff
            go_wp2
            go_loopg [9] (2 * unm f.1.length (o.set k 0) + 1) (fun g s9 wr => ∃ (o' : List Int) (t : Bool), s9 = .bool t ∧ Hid (Ow Wa.heap.size (Wa.heap.size + 1) wr [.slice (some ⟨Wa.heap.size, 0, none⟩) f.1.length f.1.length] o') ∧ Hid (Inn f sex (o.set k 0) o') ∧ Hid (t = false → Clo f sex o') ∧ Hid (2 * unm f.1.length o' + t.toNat = g) ∧ OffF [Wa.heap.size] wA wr)
            case atStart => exact ⟨_, true, rfl, hs1, hI1, Lib.hid (fun h => by cases h), Lib.hid rfl, hof1.out⟩
            case round =>
              clear hs1 hI1 hof1
              obtain ⟨wd, hwd⟩ : ∃ wm : World, wm = wr := ⟨_, rfl⟩
              subst hwd
              obtain ⟨o', t, rfl, hM, HI, HC, HG, hoff⟩ := hrel
              cases t
              · have HN := Lib.hid (HO.out.next hlt (by have := HNM.out; omega) HIN.out HUN.out HI.out (HC.out rfl))
                clear HO HNM HI HC HG
                go_wp2
                go_roundw
                case rel => exact ⟨k + 1, o', by omega, by go_num, hM, HN, hoff⟩
                case measure => simp [intOf]; omega
              · have HS0 := Lib.hid (Sw.start HI.out)
                clear HI HC
                go_wp2
                go_loopw [9, 10, 53] (fun s9 _ s53 wr => ∃ (a : Nat) (p : List Int) (t : Bool), a ≤ f.1.length ∧ s53 = .int .i64 a ∧ s9 = .bool t ∧ Hid (Ow Wa.heap.size (Wa.heap.size + 1) wr [.slice (some ⟨Wa.heap.size, 0, none⟩) f.1.length f.1.length] p) ∧ Hid (Sw f sex (o.set k 0) o' a 0 0 t p) ∧ OffF [Wa.heap.size] wA wr) (fun _ _ s53 _ => f.1.length - (intOf s53).toNat)
                case atStart => exact ⟨0, o', false, Nat.zero_le _, rfl, rfl, hM, HS0, hoff⟩
                case round =>
                  clear HS0 hM hoff
                  obtain ⟨we, hwe⟩ : ∃ wm : World, wm = wr := ⟨_, rfl⟩
                  subst hwe
                  obtain ⟨a, p, t, ha1, rfl, rfl, hM, HS, hoff⟩ := hrel
                  by_cases hla : a < f.1.length
                  · have hIa : (a : Int) < (f.1.length : Int) := by omega
                    go_wp2
                    go_loopw [9, 11, 58] (fun s9 _ s58 wr => ∃ (b : Nat) (p : List Int) (t : Bool), b ≤ f.1.length ∧ s58 = .int .i64 b ∧ s9 = .bool t ∧ Hid (Ow Wa.heap.size (Wa.heap.size + 1) wr [.slice (some ⟨Wa.heap.size, 0, none⟩) f.1.length f.1.length] p) ∧ Hid (Sw f sex (o.set k 0) o' a b 0 t p) ∧ OffF [Wa.heap.size] wA wr) (fun _ _ s58 _ => f.1.length - (intOf s58).toNat)
                    case atStart => exact ⟨0, p, t, Nat.zero_le _, rfl, rfl, hM, HS, hoff⟩
                    case round =>
                      clear hM HS hoff
                      obtain ⟨wf, hwf⟩ : ∃ wm : World, wm = wr := ⟨_, rfl⟩
                      subst hwf
                      obtain ⟨b, p, t, hb1, rfl, rfl, hM, HS, hoff⟩ := hrel
                      have sR := hoff.size
                      have hbw : Below w.heap.size w wf := hBA.trans (hoff.toBelow sA (fun b hb => by simp at hb; omega))
                      have q_f0 := offc hoff hz1 (.inl lmf) la_f qa_f0
                      have q_f1 := offc hoff hz1 (.inl lmf) la_f qa_f1
                      have l_f : w.heap.size < wf.heap.size := by omega
                      have l_o : Wa.heap.size < wf.heap.size := by omega
                      by_cases hlb : b < f.1.length
                      · have hIb : (b : Int) < (f.1.length : Int) := by omega
                        obtain ⟨x, hx, hcx, hx1, hx2, hfx, -⟩ := hM.out.int_at0 (i := a) hla
                        obtain ⟨y, hy, hcy, hy1, hy2, hfy, -⟩ := hM.out.int_at0 (i := b) hlb
                        have HMX := Lib.hid (show mrk p a = x from getI_at hx.out)
                        have HMY := Lib.hid (show mrk p b = y from getI_at hy.out)
                        clear hx hy
                        by_cases e1 : 0 ≤ x
                        rotate_left
                        · have HN := Lib.hid (HS.out.keep (by rw [HMX.out, HMY.out]; omega))
                          clear HS HMX HMY
                          go_upto_region 23 with fail
                          refine wp_region_held_drew (S := (fun w' => w'.cell? ⟨w.heap.size, 0, none⟩ = some (.slice ao f.1.length cap) ∧ w'.cell? ⟨w.heap.size, 1, none⟩ = some (.slice ao2 f.2.length cap2) ∧ w'.cell? ⟨Wa.heap.size, a, none⟩ = some (.int .i64 x) ∧ w'.cell? ⟨Wa.heap.size, b, none⟩ = some (.int .i64 y))) (by kernel_rfl) ?_ (fun hHeld => ?_)
                          · (try dsimp only); go_keep
                          refine wpAnyH_take (i := 0) (oi := _) (v := ?_) (by simp only [List.getElem?_toArray, List.getElem?_cons_succ, List.getElem?_cons_zero]; rfl) (by kernel_rfl) (by kernel_rfl) (by kernel_rfl) (by exact fun _ _ _ h => h) (Or.inl ⟨by rfl, ?_⟩) (by assumption) ?_
                          rotate_left
                          · intro w hSw; (try dsimp only at hSw); go_simp <;> with_reducible rfl
                          try simp only [Act.put, List.setIfInBounds_toArray, List.set_cons_zero, List.set_cons_succ]
                          refine wpAnyH_take (i := 1) (oi := _) (v := ?_) (by simp only [List.getElem?_toArray, List.getElem?_cons_succ, List.getElem?_cons_zero]; rfl) (by kernel_rfl) (by kernel_rfl) (by kernel_rfl) (by exact fun _ _ _ h => h) (Or.inl ⟨by rfl, ?_⟩) (by assumption) ?_
                          rotate_left
                          · intro w hSw; (try dsimp only at hSw); go_simp <;> with_reducible rfl
                          try simp only [Act.put, List.setIfInBounds_toArray, List.set_cons_zero, List.set_cons_succ]
                          refine wpAnyH_take (i := 2) (oi := _) (v := ?_) (by simp only [List.getElem?_toArray, List.getElem?_cons_succ, List.getElem?_cons_zero]; rfl) (by kernel_rfl) (by kernel_rfl) (by kernel_rfl) (by exact fun _ _ _ h => h) (Or.inl ⟨by rfl, ?_⟩) (by assumption) ?_
                          rotate_left
                          · intro w hSw; (try dsimp only at hSw); go_simp <;> with_reducible rfl
                          try simp only [Act.put, List.setIfInBounds_toArray, List.set_cons_zero, List.set_cons_succ]
                          refine wpAnyH_take (i := 3) (oi := _) (v := ?_) (by simp only [List.getElem?_toArray, List.getElem?_cons_succ, List.getElem?_cons_zero]; rfl) (by kernel_rfl) (by kernel_rfl) (by kernel_rfl) (by exact fun _ _ _ h => h) (Or.inl ⟨by rfl, ?_⟩) (by assumption) ?_
                          rotate_left
                          · intro w hSw; (try dsimp only at hSw); go_simp <;> with_reducible rfl
                          try simp only [Act.put, List.setIfInBounds_toArray, List.set_cons_zero, List.set_cons_succ]
                          refine wpAnyH_take (i := 4) (oi := _) (v := ?_) (by simp only [List.getElem?_toArray, List.getElem?_cons_succ, List.getElem?_cons_zero]; rfl) (by kernel_rfl) (by kernel_rfl) (by kernel_rfl) (by exact fun _ _ _ h => h) (Or.inl ⟨by rfl, ?_⟩) (by assumption) ?_
                          rotate_left
                          · intro w hSw; (try dsimp only at hSw); go_simp <;> with_reducible rfl
                          try simp only [Act.put, List.setIfInBounds_toArray, List.set_cons_zero, List.set_cons_succ]
                          refine wpAnyH_take (i := 5) (oi := _) (v := ?_) (by simp only [List.getElem?_toArray, List.getElem?_cons_succ, List.getElem?_cons_zero]; rfl) (by kernel_rfl) (by kernel_rfl) (by kernel_rfl) (by exact fun _ _ _ h => h) (Or.inl ⟨by rfl, ?_⟩) (by assumption) ?_
                          rotate_left
                          · intro w hSw; (try dsimp only at hSw); go_simp <;> with_reducible rfl
                          try simp only [Act.put, List.setIfInBounds_toArray, List.set_cons_zero, List.set_cons_succ]
                          refine wpAnyH_take (i := 6) (oi := _) (v := undef) (by simp only [List.getElem?_toArray, List.getElem?_cons_succ, List.getElem?_cons_zero]; rfl) (by kernel_rfl) (by kernel_rfl) (by kernel_rfl) (by exact fun _ _ _ h => h) (Or.inr ⟨by kernel_rfl, rfl⟩) (by assumption) ?_
                          try simp only [Act.put, List.setIfInBounds_toArray, List.set_cons_zero, List.set_cons_succ]
                          refine wpAnyH_take (i := 7) (oi := _) (v := undef) (by simp only [List.getElem?_toArray, List.getElem?_cons_succ, List.getElem?_cons_zero]; rfl) (by kernel_rfl) (by kernel_rfl) (by kernel_rfl) (by exact fun _ _ _ h => h) (Or.inr ⟨by kernel_rfl, rfl⟩) (by assumption) ?_
                          try simp only [Act.put, List.setIfInBounds_toArray, List.set_cons_zero, List.set_cons_succ]
                          refine wpAnyH_take (i := 8) (oi := _) (v := undef) (by simp only [List.getElem?_toArray, List.getElem?_cons_succ, List.getElem?_cons_zero]; rfl) (by kernel_rfl) (by kernel_rfl) (by kernel_rfl) (by exact fun _ _ _ h => h) (Or.inr ⟨by kernel_rfl, rfl⟩) (by assumption) ?_
                          try simp only [Act.put, List.setIfInBounds_toArray, List.set_cons_zero, List.set_cons_succ]
                          refine wpAnyH_take (i := 9) (oi := _) (v := undef) (by simp only [List.getElem?_toArray, List.getElem?_cons_succ, List.getElem?_cons_zero]; rfl) (by kernel_rfl) (by kernel_rfl) (by kernel_rfl) (by exact fun _ _ _ h => h) (Or.inr ⟨by kernel_rfl, rfl⟩) (by assumption) ?_
                          try simp only [Act.put, List.setIfInBounds_toArray, List.set_cons_zero, List.set_cons_succ]
                          refine wpAnyH_take (i := 10) (oi := _) (v := undef) (by simp only [List.getElem?_toArray, List.getElem?_cons_succ, List.getElem?_cons_zero]; rfl) (by kernel_rfl) (by kernel_rfl) (by kernel_rfl) (by exact fun _ _ _ h => h) (Or.inr ⟨by kernel_rfl, rfl⟩) (by assumption) ?_
                          try simp only [Act.put, List.setIfInBounds_toArray, List.set_cons_zero, List.set_cons_succ]
                          refine wpAnyH_take (i := 11) (oi := _) (v := ?_) (by simp only [List.getElem?_toArray, List.getElem?_cons_succ, List.getElem?_cons_zero]; rfl) (by kernel_rfl) (by kernel_rfl) (by kernel_rfl) (by exact fun _ _ _ h => h) (Or.inl ⟨by rfl, ?_⟩) (by assumption) ?_
                          rotate_left
                          · intro w hSw; (try dsimp only at hSw); go_simp <;> with_reducible rfl
                          try simp only [Act.put, List.setIfInBounds_toArray, List.set_cons_zero, List.set_cons_succ]
                          refine wpAnyH_take (i := 12) (oi := _) (v := ?_) (by simp only [List.getElem?_toArray, List.getElem?_cons_succ, List.getElem?_cons_zero]; rfl) (by kernel_rfl) (by kernel_rfl) (by kernel_rfl) (by exact fun _ _ _ h => h) (Or.inl ⟨by rfl, ?_⟩) (by assumption) ?_
                          rotate_left
                          · intro w hSw; (try dsimp only at hSw); go_simp <;> with_reducible rfl
                          try simp only [Act.put, List.setIfInBounds_toArray, List.set_cons_zero, List.set_cons_succ]
                          refine wpAnyH_take (i := 13) (oi := _) (v := undef) (by simp only [List.getElem?_toArray, List.getElem?_cons_succ, List.getElem?_cons_zero]; rfl) (by kernel_rfl) (by kernel_rfl) (by kernel_rfl) (by exact fun _ _ _ h => h) (Or.inr ⟨by kernel_rfl, rfl⟩) (by assumption) ?_
                          try simp only [Act.put, List.setIfInBounds_toArray, List.set_cons_zero, List.set_cons_succ]
                          refine wpAnyH_take (i := 14) (oi := _) (v := undef) (by simp only [List.getElem?_toArray, List.getElem?_cons_succ, List.getElem?_cons_zero]; rfl) (by kernel_rfl) (by kernel_rfl) (by kernel_rfl) (by exact fun _ _ _ h => h) (Or.inr ⟨by kernel_rfl, rfl⟩) (by assumption) ?_
                          try simp only [Act.put, List.setIfInBounds_toArray, List.set_cons_zero, List.set_cons_succ]
                          refine wpAnyH_take (i := 15) (oi := _) (v := undef) (by simp only [List.getElem?_toArray, List.getElem?_cons_succ, List.getElem?_cons_zero]; rfl) (by kernel_rfl) (by kernel_rfl) (by kernel_rfl) (by exact fun _ _ _ h => h) (Or.inr ⟨by kernel_rfl, rfl⟩) (by assumption) ?_
                          try simp only [Act.put, List.setIfInBounds_toArray, List.set_cons_zero, List.set_cons_succ]
                          refine wpAnyH_take (i := 17) (oi := _) (v := undef) (by simp only [List.getElem?_toArray, List.getElem?_cons_succ, List.getElem?_cons_zero]; rfl) (by kernel_rfl) (by kernel_rfl) (by kernel_rfl) (by exact fun _ _ _ h => h) (Or.inr ⟨by kernel_rfl, rfl⟩) (by assumption) ?_
                          try simp only [Act.put, List.setIfInBounds_toArray, List.set_cons_zero, List.set_cons_succ]
                          refine wpAnyH_take (i := 18) (oi := _) (v := undef) (by simp only [List.getElem?_toArray, List.getElem?_cons_succ, List.getElem?_cons_zero]; rfl) (by kernel_rfl) (by kernel_rfl) (by kernel_rfl) (by exact fun _ _ _ h => h) (Or.inr ⟨by kernel_rfl, rfl⟩) (by assumption) ?_
                          try simp only [Act.put, List.setIfInBounds_toArray, List.set_cons_zero, List.set_cons_succ]
                          refine wpAnyH_take (i := 19) (oi := _) (v := undef) (by simp only [List.getElem?_toArray, List.getElem?_cons_succ, List.getElem?_cons_zero]; rfl) (by kernel_rfl) (by kernel_rfl) (by kernel_rfl) (by exact fun _ _ _ h => h) (Or.inr ⟨by kernel_rfl, rfl⟩) (by assumption) ?_
                          try simp only [Act.put, List.setIfInBounds_toArray, List.set_cons_zero, List.set_cons_succ]
                          refine wpAnyH_take (i := 16) (oi := _) (v := undef) (by simp only [List.getElem?_toArray, List.getElem?_cons_succ, List.getElem?_cons_zero]; rfl) (by kernel_rfl) (by kernel_rfl) (by kernel_rfl) (by exact fun _ _ _ h => h) (Or.inr ⟨by kernel_rfl, rfl⟩) (by assumption) ?_
                          try simp only [Act.put, List.setIfInBounds_toArray, List.set_cons_zero, List.set_cons_succ]
                          refine wpAnyH_take (i := 20) (oi := _) (v := undef) (by simp only [List.getElem?_toArray, List.getElem?_cons_succ, List.getElem?_cons_zero]; rfl) (by kernel_rfl) (by kernel_rfl) (by kernel_rfl) (by exact fun _ _ _ h => h) (Or.inr ⟨by kernel_rfl, rfl⟩) (by assumption) ?_
                          try simp only [Act.put, List.setIfInBounds_toArray, List.set_cons_zero, List.set_cons_succ]
                          refine wpAnyH_take (i := 21) (oi := _) (v := undef) (by simp only [List.getElem?_toArray, List.getElem?_cons_succ, List.getElem?_cons_zero]; rfl) (by kernel_rfl) (by kernel_rfl) (by kernel_rfl) (by exact fun _ _ _ h => h) (Or.inr ⟨by kernel_rfl, rfl⟩) (by assumption) ?_
                          try simp only [Act.put, List.setIfInBounds_toArray, List.set_cons_zero, List.set_cons_succ]
                          refine wpAnyH_take (i := 22) (oi := _) (v := ?_) (by simp only [List.getElem?_toArray, List.getElem?_cons_succ, List.getElem?_cons_zero]; rfl) (by kernel_rfl) (by kernel_rfl) (by kernel_rfl) (by exact fun _ _ _ h => h) (Or.inl ⟨by rfl, ?_⟩) (by assumption) ?_
                          rotate_left
                          · intro w hSw; (try dsimp only at hSw); go_simp <;> with_reducible rfl
                          try simp only [Act.put, List.setIfInBounds_toArray, List.set_cons_zero, List.set_cons_succ]
                          refine wpAnyH_done (by kernel_rfl) ?_ _
                          go_wp2
                          go_roundw
                          case rel => exact ⟨b + 1, p, _, by omega, by go_num, rfl, Lib.hid (hM.out.keep zgT), HN, (by repeat' (first | (with_reducible exact OffF.refl _ _) | (with_reducible assumption) | (with_reducible refine offF_drewN ?_ _) | (with_reducible refine OffF.drew ?_) | (with_reducible refine OffF.setCell ?_ (by simp) _) | (with_reducible refine OffF.alloc ?_ _)))⟩
                          case measure => simp [intOf]; omega
                        by_cases e2 : y < 0
                        rotate_left
                        · have HN := Lib.hid (HS.out.keep (by rw [HMX.out, HMY.out]; omega))
                          clear HS HMX HMY
                          go_upto_region 23 with fail
                          refine wp_region_held_drew (S := (fun w' => w'.cell? ⟨w.heap.size, 0, none⟩ = some (.slice ao f.1.length cap) ∧ w'.cell? ⟨w.heap.size, 1, none⟩ = some (.slice ao2 f.2.length cap2) ∧ w'.cell? ⟨Wa.heap.size, a, none⟩ = some (.int .i64 x) ∧ w'.cell? ⟨Wa.heap.size, b, none⟩ = some (.int .i64 y))) (by kernel_rfl) ?_ (fun hHeld => ?_)
                          · (try dsimp only); go_keep
                          refine wpAnyH_take (i := 0) (oi := _) (v := ?_) (by simp only [List.getElem?_toArray, List.getElem?_cons_succ, List.getElem?_cons_zero]; rfl) (by kernel_rfl) (by kernel_rfl) (by kernel_rfl) (by exact fun _ _ _ h => h) (Or.inl ⟨by rfl, ?_⟩) (by assumption) ?_
                          rotate_left
                          · intro w hSw; (try dsimp only at hSw); go_simp <;> with_reducible rfl
                          try simp only [Act.put, List.setIfInBounds_toArray, List.set_cons_zero, List.set_cons_succ]
                          refine wpAnyH_take (i := 1) (oi := _) (v := ?_) (by simp only [List.getElem?_toArray, List.getElem?_cons_succ, List.getElem?_cons_zero]; rfl) (by kernel_rfl) (by kernel_rfl) (by kernel_rfl) (by exact fun _ _ _ h => h) (Or.inl ⟨by rfl, ?_⟩) (by assumption) ?_
                          rotate_left
                          · intro w hSw; (try dsimp only at hSw); go_simp <;> with_reducible rfl
                          try simp only [Act.put, List.setIfInBounds_toArray, List.set_cons_zero, List.set_cons_succ]
                          refine wpAnyH_take (i := 2) (oi := _) (v := ?_) (by simp only [List.getElem?_toArray, List.getElem?_cons_succ, List.getElem?_cons_zero]; rfl) (by kernel_rfl) (by kernel_rfl) (by kernel_rfl) (by exact fun _ _ _ h => h) (Or.inl ⟨by rfl, ?_⟩) (by assumption) ?_
                          rotate_left
                          · intro w hSw; (try dsimp only at hSw); go_simp <;> with_reducible rfl
                          try simp only [Act.put, List.setIfInBounds_toArray, List.set_cons_zero, List.set_cons_succ]
                          refine wpAnyH_take (i := 3) (oi := _) (v := ?_) (by simp only [List.getElem?_toArray, List.getElem?_cons_succ, List.getElem?_cons_zero]; rfl) (by kernel_rfl) (by kernel_rfl) (by kernel_rfl) (by exact fun _ _ _ h => h) (Or.inl ⟨by rfl, ?_⟩) (by assumption) ?_
                          rotate_left
                          · intro w hSw; (try dsimp only at hSw); go_simp <;> with_reducible rfl
                          try simp only [Act.put, List.setIfInBounds_toArray, List.set_cons_zero, List.set_cons_succ]
                          refine wpAnyH_take (i := 4) (oi := _) (v := ?_) (by simp only [List.getElem?_toArray, List.getElem?_cons_succ, List.getElem?_cons_zero]; rfl) (by kernel_rfl) (by kernel_rfl) (by kernel_rfl) (by exact fun _ _ _ h => h) (Or.inl ⟨by rfl, ?_⟩) (by assumption) ?_
                          rotate_left
                          · intro w hSw; (try dsimp only at hSw); go_simp <;> with_reducible rfl
                          try simp only [Act.put, List.setIfInBounds_toArray, List.set_cons_zero, List.set_cons_succ]
                          refine wpAnyH_take (i := 5) (oi := _) (v := ?_) (by simp only [List.getElem?_toArray, List.getElem?_cons_succ, List.getElem?_cons_zero]; rfl) (by kernel_rfl) (by kernel_rfl) (by kernel_rfl) (by exact fun _ _ _ h => h) (Or.inl ⟨by rfl, ?_⟩) (by assumption) ?_
                          rotate_left
                          · intro w hSw; (try dsimp only at hSw); go_simp <;> with_reducible rfl
                          try simp only [Act.put, List.setIfInBounds_toArray, List.set_cons_zero, List.set_cons_succ]
                          refine wpAnyH_take (i := 6) (oi := _) (v := ?_) (by simp only [List.getElem?_toArray, List.getElem?_cons_succ, List.getElem?_cons_zero]; rfl) (by kernel_rfl) (by kernel_rfl) (by kernel_rfl) (by exact fun _ _ _ h => h) (Or.inl ⟨by rfl, ?_⟩) (by assumption) ?_
                          rotate_left
                          · intro w hSw; (try dsimp only at hSw); go_simp <;> with_reducible rfl
                          try simp only [Act.put, List.setIfInBounds_toArray, List.set_cons_zero, List.set_cons_succ]
                          refine wpAnyH_take (i := 7) (oi := _) (v := ?_) (by simp only [List.getElem?_toArray, List.getElem?_cons_succ, List.getElem?_cons_zero]; rfl) (by kernel_rfl) (by kernel_rfl) (by kernel_rfl) (by exact fun _ _ _ h => h) (Or.inl ⟨by rfl, ?_⟩) (by assumption) ?_
                          rotate_left
                          · intro w hSw; (try dsimp only at hSw); go_simp <;> with_reducible rfl
                          try simp only [Act.put, List.setIfInBounds_toArray, List.set_cons_zero, List.set_cons_succ]
                          refine wpAnyH_take (i := 8) (oi := _) (v := ?_) (by simp only [List.getElem?_toArray, List.getElem?_cons_succ, List.getElem?_cons_zero]; rfl) (by kernel_rfl) (by kernel_rfl) (by kernel_rfl) (by exact fun _ _ _ h => h) (Or.inl ⟨by rfl, ?_⟩) (by assumption) ?_
                          rotate_left
                          · intro w hSw; (try dsimp only at hSw); go_simp <;> with_reducible rfl
                          try simp only [Act.put, List.setIfInBounds_toArray, List.set_cons_zero, List.set_cons_succ]
                          refine wpAnyH_take (i := 9) (oi := _) (v := ?_) (by simp only [List.getElem?_toArray, List.getElem?_cons_succ, List.getElem?_cons_zero]; rfl) (by kernel_rfl) (by kernel_rfl) (by kernel_rfl) (by exact fun _ _ _ h => h) (Or.inl ⟨by rfl, ?_⟩) (by assumption) ?_
                          rotate_left
                          · intro w hSw; (try dsimp only at hSw); go_simp <;> with_reducible rfl
                          try simp only [Act.put, List.setIfInBounds_toArray, List.set_cons_zero, List.set_cons_succ]
                          refine wpAnyH_take (i := 10) (oi := _) (v := ?_) (by simp only [List.getElem?_toArray, List.getElem?_cons_succ, List.getElem?_cons_zero]; rfl) (by kernel_rfl) (by kernel_rfl) (by kernel_rfl) (by exact fun _ _ _ h => h) (Or.inl ⟨by rfl, ?_⟩) (by assumption) ?_
                          rotate_left
                          · intro w hSw; (try dsimp only at hSw); go_simp <;> with_reducible rfl
                          try simp only [Act.put, List.setIfInBounds_toArray, List.set_cons_zero, List.set_cons_succ]
                          refine wpAnyH_take (i := 11) (oi := _) (v := ?_) (by simp only [List.getElem?_toArray, List.getElem?_cons_succ, List.getElem?_cons_zero]; rfl) (by kernel_rfl) (by kernel_rfl) (by kernel_rfl) (by exact fun _ _ _ h => h) (Or.inl ⟨by rfl, ?_⟩) (by assumption) ?_
                          rotate_left
                          · intro w hSw; (try dsimp only at hSw); go_simp <;> with_reducible rfl
                          try simp only [Act.put, List.setIfInBounds_toArray, List.set_cons_zero, List.set_cons_succ]
                          refine wpAnyH_take (i := 12) (oi := _) (v := ?_) (by simp only [List.getElem?_toArray, List.getElem?_cons_succ, List.getElem?_cons_zero]; rfl) (by kernel_rfl) (by kernel_rfl) (by kernel_rfl) (by exact fun _ _ _ h => h) (Or.inl ⟨by rfl, ?_⟩) (by assumption) ?_
                          rotate_left
                          · intro w hSw; (try dsimp only at hSw); go_simp <;> with_reducible rfl
                          try simp only [Act.put, List.setIfInBounds_toArray, List.set_cons_zero, List.set_cons_succ]
                          refine wpAnyH_take (i := 13) (oi := _) (v := undef) (by simp only [List.getElem?_toArray, List.getElem?_cons_succ, List.getElem?_cons_zero]; rfl) (by kernel_rfl) (by kernel_rfl) (by kernel_rfl) (by exact fun _ _ _ h => h) (Or.inr ⟨by kernel_rfl, rfl⟩) (by assumption) ?_
                          try simp only [Act.put, List.setIfInBounds_toArray, List.set_cons_zero, List.set_cons_succ]
                          refine wpAnyH_take (i := 14) (oi := _) (v := undef) (by simp only [List.getElem?_toArray, List.getElem?_cons_succ, List.getElem?_cons_zero]; rfl) (by kernel_rfl) (by kernel_rfl) (by kernel_rfl) (by exact fun _ _ _ h => h) (Or.inr ⟨by kernel_rfl, rfl⟩) (by assumption) ?_
                          try simp only [Act.put, List.setIfInBounds_toArray, List.set_cons_zero, List.set_cons_succ]
                          refine wpAnyH_take (i := 15) (oi := _) (v := undef) (by simp only [List.getElem?_toArray, List.getElem?_cons_succ, List.getElem?_cons_zero]; rfl) (by kernel_rfl) (by kernel_rfl) (by kernel_rfl) (by exact fun _ _ _ h => h) (Or.inr ⟨by kernel_rfl, rfl⟩) (by assumption) ?_
                          try simp only [Act.put, List.setIfInBounds_toArray, List.set_cons_zero, List.set_cons_succ]
                          refine wpAnyH_take (i := 17) (oi := _) (v := undef) (by simp only [List.getElem?_toArray, List.getElem?_cons_succ, List.getElem?_cons_zero]; rfl) (by kernel_rfl) (by kernel_rfl) (by kernel_rfl) (by exact fun _ _ _ h => h) (Or.inr ⟨by kernel_rfl, rfl⟩) (by assumption) ?_
                          try simp only [Act.put, List.setIfInBounds_toArray, List.set_cons_zero, List.set_cons_succ]
                          refine wpAnyH_take (i := 18) (oi := _) (v := undef) (by simp only [List.getElem?_toArray, List.getElem?_cons_succ, List.getElem?_cons_zero]; rfl) (by kernel_rfl) (by kernel_rfl) (by kernel_rfl) (by exact fun _ _ _ h => h) (Or.inr ⟨by kernel_rfl, rfl⟩) (by assumption) ?_
                          try simp only [Act.put, List.setIfInBounds_toArray, List.set_cons_zero, List.set_cons_succ]
                          refine wpAnyH_take (i := 19) (oi := _) (v := undef) (by simp only [List.getElem?_toArray, List.getElem?_cons_succ, List.getElem?_cons_zero]; rfl) (by kernel_rfl) (by kernel_rfl) (by kernel_rfl) (by exact fun _ _ _ h => h) (Or.inr ⟨by kernel_rfl, rfl⟩) (by assumption) ?_
                          try simp only [Act.put, List.setIfInBounds_toArray, List.set_cons_zero, List.set_cons_succ]
                          refine wpAnyH_take (i := 16) (oi := _) (v := undef) (by simp only [List.getElem?_toArray, List.getElem?_cons_succ, List.getElem?_cons_zero]; rfl) (by kernel_rfl) (by kernel_rfl) (by kernel_rfl) (by exact fun _ _ _ h => h) (Or.inr ⟨by kernel_rfl, rfl⟩) (by assumption) ?_
                          try simp only [Act.put, List.setIfInBounds_toArray, List.set_cons_zero, List.set_cons_succ]
                          refine wpAnyH_take (i := 20) (oi := _) (v := undef) (by simp only [List.getElem?_toArray, List.getElem?_cons_succ, List.getElem?_cons_zero]; rfl) (by kernel_rfl) (by kernel_rfl) (by kernel_rfl) (by exact fun _ _ _ h => h) (Or.inr ⟨by kernel_rfl, rfl⟩) (by assumption) ?_
                          try simp only [Act.put, List.setIfInBounds_toArray, List.set_cons_zero, List.set_cons_succ]
                          refine wpAnyH_take (i := 21) (oi := _) (v := undef) (by simp only [List.getElem?_toArray, List.getElem?_cons_succ, List.getElem?_cons_zero]; rfl) (by kernel_rfl) (by kernel_rfl) (by kernel_rfl) (by exact fun _ _ _ h => h) (Or.inr ⟨by kernel_rfl, rfl⟩) (by assumption) ?_
                          try simp only [Act.put, List.setIfInBounds_toArray, List.set_cons_zero, List.set_cons_succ]
                          refine wpAnyH_take (i := 22) (oi := _) (v := ?_) (by simp only [List.getElem?_toArray, List.getElem?_cons_succ, List.getElem?_cons_zero]; rfl) (by kernel_rfl) (by kernel_rfl) (by kernel_rfl) (by exact fun _ _ _ h => h) (Or.inl ⟨by rfl, ?_⟩) (by assumption) ?_
                          rotate_left
                          · intro w hSw; (try dsimp only at hSw); go_simp <;> with_reducible rfl
                          try simp only [Act.put, List.setIfInBounds_toArray, List.set_cons_zero, List.set_cons_succ]
                          refine wpAnyH_done (by kernel_rfl) ?_ _
                          go_wp2
                          go_roundw
                          case rel => exact ⟨b + 1, p, _, by omega, by go_num, rfl, Lib.hid (hM.out.keep zgT), HN, (by repeat' (first | (with_reducible exact OffF.refl _ _) | (with_reducible assumption) | (with_reducible refine offF_drewN ?_ _) | (with_reducible refine OffF.drew ?_) | (with_reducible refine OffF.setCell ?_ (by simp) _) | (with_reducible refine OffF.alloc ?_ _)))⟩
                          case measure => simp [intOf]; omega
                        obtain ⟨ta, hta⟩ : ∃ t, t = fo f.1 sex a := ⟨_, rfl⟩
                        obtain ⟨tb, htb⟩ : ∃ t, t = fo f.1 sex b := ⟨_, rfl⟩
                        have HTA := Lib.hid hta
                        have HTB := Lib.hid htb
                        clear hta htb
                        by_cases e3 : ta = tb
                        rotate_left
                        · have e3' : ¬ (ta : Int) = (tb : Int) := by omega
                          have HN := Lib.hid (HS.out.keep (by rw [← HTA.out, ← HTB.out]; exact fun h => e3 h.2.2))
                          clear HS HMX HMY
                          go_upto_region 23 with fail
                          refine wp_region_held_drew (S := (fun w' => w'.cell? ⟨w.heap.size, 0, none⟩ = some (.slice ao f.1.length cap) ∧ w'.cell? ⟨w.heap.size, 1, none⟩ = some (.slice ao2 f.2.length cap2) ∧ w'.cell? ⟨Wa.heap.size, a, none⟩ = some (.int .i64 x) ∧ w'.cell? ⟨Wa.heap.size, b, none⟩ = some (.int .i64 y))) (by kernel_rfl) ?_ (fun hHeld => ?_)
                          · (try dsimp only); go_keep
                          refine wpAnyH_take (i := 0) (oi := _) (v := ?_) (by simp only [List.getElem?_toArray, List.getElem?_cons_succ, List.getElem?_cons_zero]; rfl) (by kernel_rfl) (by kernel_rfl) (by kernel_rfl) (by exact fun _ _ _ h => h) (Or.inl ⟨by rfl, ?_⟩) (by assumption) ?_
                          rotate_left
                          · intro w hSw; (try dsimp only at hSw); go_simp <;> with_reducible rfl
                          try simp only [Act.put, List.setIfInBounds_toArray, List.set_cons_zero, List.set_cons_succ]
                          refine wpAnyH_take (i := 1) (oi := _) (v := ?_) (by simp only [List.getElem?_toArray, List.getElem?_cons_succ, List.getElem?_cons_zero]; rfl) (by kernel_rfl) (by kernel_rfl) (by kernel_rfl) (by exact fun _ _ _ h => h) (Or.inl ⟨by rfl, ?_⟩) (by assumption) ?_
                          rotate_left
                          · intro w hSw; (try dsimp only at hSw); go_simp <;> with_reducible rfl
                          try simp only [Act.put, List.setIfInBounds_toArray, List.set_cons_zero, List.set_cons_succ]
                          refine wpAnyH_take (i := 2) (oi := _) (v := ?_) (by simp only [List.getElem?_toArray, List.getElem?_cons_succ, List.getElem?_cons_zero]; rfl) (by kernel_rfl) (by kernel_rfl) (by kernel_rfl) (by exact fun _ _ _ h => h) (Or.inl ⟨by rfl, ?_⟩) (by assumption) ?_
                          rotate_left
                          · intro w hSw; (try dsimp only at hSw); go_simp <;> with_reducible rfl
                          try simp only [Act.put, List.setIfInBounds_toArray, List.set_cons_zero, List.set_cons_succ]
                          refine wpAnyH_take (i := 3) (oi := _) (v := ?_) (by simp only [List.getElem?_toArray, List.getElem?_cons_succ, List.getElem?_cons_zero]; rfl) (by kernel_rfl) (by kernel_rfl) (by kernel_rfl) (by exact fun _ _ _ h => h) (Or.inl ⟨by rfl, ?_⟩) (by assumption) ?_
                          rotate_left
                          · intro w hSw; (try dsimp only at hSw); go_simp <;> with_reducible rfl
                          try simp only [Act.put, List.setIfInBounds_toArray, List.set_cons_zero, List.set_cons_succ]
                          refine wpAnyH_take (i := 4) (oi := _) (v := ?_) (by simp only [List.getElem?_toArray, List.getElem?_cons_succ, List.getElem?_cons_zero]; rfl) (by kernel_rfl) (by kernel_rfl) (by kernel_rfl) (by exact fun _ _ _ h => h) (Or.inl ⟨by rfl, ?_⟩) (by assumption) ?_
                          rotate_left
                          · intro w hSw; (try dsimp only at hSw); go_simp <;> with_reducible rfl
                          try simp only [Act.put, List.setIfInBounds_toArray, List.set_cons_zero, List.set_cons_succ]
                          refine wpAnyH_take (i := 5) (oi := _) (v := ?_) (by simp only [List.getElem?_toArray, List.getElem?_cons_succ, List.getElem?_cons_zero]; rfl) (by kernel_rfl) (by kernel_rfl) (by kernel_rfl) (by exact fun _ _ _ h => h) (Or.inl ⟨by rfl, ?_⟩) (by assumption) ?_
                          rotate_left
                          · intro w hSw; (try dsimp only at hSw); go_simp <;> with_reducible rfl
                          try simp only [Act.put, List.setIfInBounds_toArray, List.set_cons_zero, List.set_cons_succ]
                          refine wpAnyH_take (i := 6) (oi := _) (v := ?_) (by simp only [List.getElem?_toArray, List.getElem?_cons_succ, List.getElem?_cons_zero]; rfl) (by kernel_rfl) (by kernel_rfl) (by kernel_rfl) (by exact fun _ _ _ h => h) (Or.inl ⟨by rfl, ?_⟩) (by assumption) ?_
                          rotate_left
                          · intro w hSw; (try dsimp only at hSw); go_simp <;> with_reducible rfl
                          try simp only [Act.put, List.setIfInBounds_toArray, List.set_cons_zero, List.set_cons_succ]
                          refine wpAnyH_take (i := 7) (oi := _) (v := ?_) (by simp only [List.getElem?_toArray, List.getElem?_cons_succ, List.getElem?_cons_zero]; rfl) (by kernel_rfl) (by kernel_rfl) (by kernel_rfl) (by exact fun _ _ _ h => h) (Or.inl ⟨by rfl, ?_⟩) (by assumption) ?_
                          rotate_left
                          · intro w hSw; (try dsimp only at hSw); go_simp <;> with_reducible rfl
                          try simp only [Act.put, List.setIfInBounds_toArray, List.set_cons_zero, List.set_cons_succ]
                          refine wpAnyH_take (i := 8) (oi := _) (v := ?_) (by simp only [List.getElem?_toArray, List.getElem?_cons_succ, List.getElem?_cons_zero]; rfl) (by kernel_rfl) (by kernel_rfl) (by kernel_rfl) (by exact fun _ _ _ h => h) (Or.inl ⟨by rfl, ?_⟩) (by assumption) ?_
                          rotate_left
                          · intro w hSw; (try dsimp only at hSw); go_simp <;> with_reducible rfl
                          try simp only [Act.put, List.setIfInBounds_toArray, List.set_cons_zero, List.set_cons_succ]
                          refine wpAnyH_take (i := 9) (oi := _) (v := ?_) (by simp only [List.getElem?_toArray, List.getElem?_cons_succ, List.getElem?_cons_zero]; rfl) (by kernel_rfl) (by kernel_rfl) (by kernel_rfl) (by exact fun _ _ _ h => h) (Or.inl ⟨by rfl, ?_⟩) (by assumption) ?_
                          rotate_left
                          · intro w hSw; (try dsimp only at hSw); go_simp <;> with_reducible rfl
                          try simp only [Act.put, List.setIfInBounds_toArray, List.set_cons_zero, List.set_cons_succ]
                          refine wpAnyH_take (i := 10) (oi := _) (v := ?_) (by simp only [List.getElem?_toArray, List.getElem?_cons_succ, List.getElem?_cons_zero]; rfl) (by kernel_rfl) (by kernel_rfl) (by kernel_rfl) (by exact fun _ _ _ h => h) (Or.inl ⟨by rfl, ?_⟩) (by assumption) ?_
                          rotate_left
                          · intro w hSw; (try dsimp only at hSw); go_simp <;> with_reducible rfl
                          try simp only [Act.put, List.setIfInBounds_toArray, List.set_cons_zero, List.set_cons_succ]
                          refine wpAnyH_take (i := 11) (oi := _) (v := ?_) (by simp only [List.getElem?_toArray, List.getElem?_cons_succ, List.getElem?_cons_zero]; rfl) (by kernel_rfl) (by kernel_rfl) (by kernel_rfl) (by exact fun _ _ _ h => h) (Or.inl ⟨by rfl, ?_⟩) (by assumption) ?_
                          rotate_left
                          · intro w hSw; (try dsimp only at hSw); go_simp <;> with_reducible rfl
                          try simp only [Act.put, List.setIfInBounds_toArray, List.set_cons_zero, List.set_cons_succ]
                          refine wpAnyH_take (i := 12) (oi := _) (v := ?_) (by simp only [List.getElem?_toArray, List.getElem?_cons_succ, List.getElem?_cons_zero]; rfl) (by kernel_rfl) (by kernel_rfl) (by kernel_rfl) (by exact fun _ _ _ h => h) (Or.inl ⟨by rfl, ?_⟩) (by assumption) ?_
                          rotate_left
                          · intro w hSw; (try dsimp only at hSw); go_simp <;> with_reducible rfl
                          try simp only [Act.put, List.setIfInBounds_toArray, List.set_cons_zero, List.set_cons_succ]
                          refine wpAnyH_take (i := 13) (oi := _) (v := ?_) (by simp only [List.getElem?_toArray, List.getElem?_cons_succ, List.getElem?_cons_zero]; rfl) (by kernel_rfl) (by kernel_rfl) (by kernel_rfl) (by exact fun _ _ _ h => h) (Or.inl ⟨by rfl, ?_⟩) (by assumption) ?_
                          rotate_left
                          · intro w hSw; (try dsimp only at hSw); go_simp <;> with_reducible rfl
                          try simp only [Act.put, List.setIfInBounds_toArray, List.set_cons_zero, List.set_cons_succ]
                          refine wpAnyH_take (i := 14) (oi := _) (v := ?_) (by simp only [List.getElem?_toArray, List.getElem?_cons_succ, List.getElem?_cons_zero]; rfl) (by kernel_rfl) (by kernel_rfl) (by kernel_rfl) (by exact fun _ _ _ h => h) (Or.inl ⟨by rfl, ?_⟩) (by assumption) ?_
                          rotate_left
                          · intro w hSw; (try dsimp only at hSw); go_simp <;> with_reducible rfl
                          try simp only [Act.put, List.setIfInBounds_toArray, List.set_cons_zero, List.set_cons_succ]
                          refine wpAnyH_take (i := 15) (oi := _) (v := ?_) (by simp only [List.getElem?_toArray, List.getElem?_cons_succ, List.getElem?_cons_zero]; rfl) (by kernel_rfl) (by kernel_rfl) (by kernel_rfl) (by exact fun _ _ _ h => h) (Or.inl ⟨by rfl, ?_⟩) (by assumption) ?_
                          rotate_left
                          · intro w hSw; (try dsimp only at hSw); go_simp <;> with_reducible rfl
                          try simp only [Act.put, List.setIfInBounds_toArray, List.set_cons_zero, List.set_cons_succ]
                          refine wpAnyH_take (i := 17) (oi := _) (v := ?_) (by simp only [List.getElem?_toArray, List.getElem?_cons_succ, List.getElem?_cons_zero]; rfl) (by kernel_rfl) (by kernel_rfl) (by kernel_rfl) (by exact fun _ _ _ h => h) (Or.inl ⟨by rfl, ?_⟩) (by assumption) ?_
                          rotate_left
                          · intro w hSw; (try dsimp only at hSw); go_simp <;> with_reducible rfl
                          try simp only [Act.put, List.setIfInBounds_toArray, List.set_cons_zero, List.set_cons_succ]
                          refine wpAnyH_take (i := 18) (oi := _) (v := ?_) (by simp only [List.getElem?_toArray, List.getElem?_cons_succ, List.getElem?_cons_zero]; rfl) (by kernel_rfl) (by kernel_rfl) (by kernel_rfl) (by exact fun _ _ _ h => h) (Or.inl ⟨by rfl, ?_⟩) (by assumption) ?_
                          rotate_left
                          · intro w hSw; (try dsimp only at hSw); go_simp <;> with_reducible rfl
                          try simp only [Act.put, List.setIfInBounds_toArray, List.set_cons_zero, List.set_cons_succ]
                          refine wpAnyH_take (i := 19) (oi := _) (v := ?_) (by simp only [List.getElem?_toArray, List.getElem?_cons_succ, List.getElem?_cons_zero]; rfl) (by kernel_rfl) (by kernel_rfl) (by kernel_rfl) (by exact fun _ _ _ h => h) (Or.inl ⟨by rfl, ?_⟩) (by assumption) ?_
                          rotate_left
                          · intro w hSw; (try dsimp only at hSw); go_simp <;> with_reducible rfl
                          try simp only [Act.put, List.setIfInBounds_toArray, List.set_cons_zero, List.set_cons_succ]
                          refine wpAnyH_ready (rs := [16]) (by kernel_rfl) (by simp) ?_
                          refine AllReadyH.cons (o := _) (by simp only [List.getElem?_toArray, List.getElem?_cons_succ, List.getElem?_cons_zero]; rfl) (fun K hK => ?_) ?_
                          · go_simp
                            refine (founder_any _ sex _ _ f.1 (ha.below bwT) HP.out a hla).mono ?_
                            rw [← HTA.out]
                            rintro e w1 ⟨rfl, hb1⟩
                            have hM := Lib.hid ((Ow.keep hM.out zgT).below hb1)
                            have hoff := OffF.below (show OffF [Wa.heap.size] wA _ from (by repeat' (first | (with_reducible exact OffF.refl _ _) | (with_reducible assumption) | (with_reducible refine offF_drewN ?_ _) | (with_reducible refine OffF.drew ?_) | (with_reducible refine OffF.setCell ?_ (by simp) _) | (with_reducible refine OffF.alloc ?_ _)))) hb1
                            have sz1 := hb1.size
                            obtain ⟨hc1, hf1⟩ := bcell hb1
                            (try simp only [World.size_alloc, World.size_drew] at sz1 hc1 hf1)
                            have lf1 : w.heap.size < w1.heap.size := by omega
                            have lo1 : Wa.heap.size < w1.heap.size := by omega
                            have hbw : Below w.heap.size w w1 := hBA.trans (hoff.toBelow sA (fun b hb => by simp at hb; omega))
                            clear hb1
                            (try go_wp2_with fail)
                            refine hK.out _ _ ?_ (fun hHeld => ?_)
                            · (try dsimp only); first | (go_keep; done) | (simp [go_sem, *]; done) | go_keep
                            clear hK K
                            try simp only [Act.put, List.setIfInBounds_toArray, List.set_cons_zero, List.set_cons_succ]
                            refine wpAnyH_ready (rs := [20]) (by kernel_rfl) (by simp) ?_
                            refine AllReadyH.cons (o := _) (by simp only [List.getElem?_toArray, List.getElem?_cons_succ, List.getElem?_cons_zero]; rfl) (fun K hK => ?_) ?_
                            · go_simp
                              refine (founder_any _ sex _ _ f.1 (ha.below bwT) HP.out b hlb).mono ?_
                              rw [← HTB.out]
                              rintro e w2 ⟨rfl, hb2⟩
                              have hM := Lib.hid ((Ow.keep hM.out zgT).below hb2)
                              have hoff := OffF.below (show OffF [Wa.heap.size] wA _ from (by repeat' (first | (with_reducible exact OffF.refl _ _) | (with_reducible assumption) | (with_reducible refine offF_drewN ?_ _) | (with_reducible refine OffF.drew ?_) | (with_reducible refine OffF.setCell ?_ (by simp) _) | (with_reducible refine OffF.alloc ?_ _)))) hb2
                              have sz2 := hb2.size
                              obtain ⟨hc2, hf2⟩ := bcell hb2
                              (try simp only [World.size_alloc, World.size_drew] at sz2 hc2 hf2)
                              have lf2 : w.heap.size < w2.heap.size := by omega
                              have lo2 : Wa.heap.size < w2.heap.size := by omega
                              have hbw : Below w.heap.size w w2 := hBA.trans (hoff.toBelow sA (fun b hb => by simp at hb; omega))
                              clear hb2
                              (try go_wp2_with fail)
                              refine hK.out _ _ ?_ (fun hHeld => ?_)
                              · (try dsimp only); first | (go_keep; done) | (simp [go_sem, *]; done) | go_keep
                              clear hK K
                              try simp only [Act.put, List.setIfInBounds_toArray, List.set_cons_zero, List.set_cons_succ]
                              refine wpAnyH_take (i := 21) (oi := _) (v := ?_) (by simp only [List.getElem?_toArray, List.getElem?_cons_succ, List.getElem?_cons_zero]; rfl) (by kernel_rfl) (by kernel_rfl) (by kernel_rfl) (by exact fun _ _ _ h => h) (Or.inl ⟨by rfl, ?_⟩) (by assumption) ?_
                              rotate_left
                              · intro w hSw; (try dsimp only at hSw); go_simp <;> with_reducible rfl
                              try simp only [Act.put, List.setIfInBounds_toArray, List.set_cons_zero, List.set_cons_succ]
                              refine wpAnyH_take (i := 22) (oi := _) (v := ?_) (by simp only [List.getElem?_toArray, List.getElem?_cons_succ, List.getElem?_cons_zero]; rfl) (by kernel_rfl) (by kernel_rfl) (by kernel_rfl) (by exact fun _ _ _ h => h) (Or.inl ⟨by rfl, ?_⟩) (by assumption) ?_
                              rotate_left
                              · intro w hSw; (try dsimp only at hSw); go_simp <;> with_reducible rfl
                              try simp only [Act.put, List.setIfInBounds_toArray, List.set_cons_zero, List.set_cons_succ]
                              refine wpAnyH_done (by kernel_rfl) ?_ _
                              go_wp2
                              go_roundw
                              case rel => exact ⟨b + 1, p, _, by omega, by go_num, rfl, Lib.hid (hM.out.keep zgT), HN, (by repeat' (first | (with_reducible exact OffF.refl _ _) | (with_reducible assumption) | (with_reducible refine offF_drewN ?_ _) | (with_reducible refine OffF.drew ?_) | (with_reducible refine OffF.setCell ?_ (by simp) _) | (with_reducible refine OffF.alloc ?_ _)))⟩
                              case measure => simp [intOf]; omega
                            exact AllReadyH.nil
                          exact AllReadyH.nil
                        have HN := Lib.hid (HS.out.put hla hlb (by rw [HMX.out]; exact e1) (by rw [HMY.out]; exact e2) (by rw [← HTA.out, ← HTB.out]; exact e3))
                        rw [HMX.out] at HN
                        subst e3
                        clear HS HMX HMY
                        go_upto_region 23 with fail
                        refine wp_region_held_drew (S := (fun w' => w'.cell? ⟨w.heap.size, 0, none⟩ = some (.slice ao f.1.length cap) ∧ w'.cell? ⟨w.heap.size, 1, none⟩ = some (.slice ao2 f.2.length cap2) ∧ w'.cell? ⟨Wa.heap.size, a, none⟩ = some (.int .i64 x) ∧ w'.cell? ⟨Wa.heap.size, b, none⟩ = some (.int .i64 y))) (by kernel_rfl) ?_ (fun hHeld => ?_)
                        · (try dsimp only); go_keep
                        refine wpAnyH_take (i := 0) (oi := _) (v := ?_) (by simp only [List.getElem?_toArray, List.getElem?_cons_succ, List.getElem?_cons_zero]; rfl) (by kernel_rfl) (by kernel_rfl) (by kernel_rfl) (by exact fun _ _ _ h => h) (Or.inl ⟨by rfl, ?_⟩) (by assumption) ?_
                        rotate_left
                        · intro w hSw; (try dsimp only at hSw); go_simp <;> with_reducible rfl
                        try simp only [Act.put, List.setIfInBounds_toArray, List.set_cons_zero, List.set_cons_succ]
                        refine wpAnyH_take (i := 1) (oi := _) (v := ?_) (by simp only [List.getElem?_toArray, List.getElem?_cons_succ, List.getElem?_cons_zero]; rfl) (by kernel_rfl) (by kernel_rfl) (by kernel_rfl) (by exact fun _ _ _ h => h) (Or.inl ⟨by rfl, ?_⟩) (by assumption) ?_
                        rotate_left
                        · intro w hSw; (try dsimp only at hSw); go_simp <;> with_reducible rfl
                        try simp only [Act.put, List.setIfInBounds_toArray, List.set_cons_zero, List.set_cons_succ]
                        refine wpAnyH_take (i := 2) (oi := _) (v := ?_) (by simp only [List.getElem?_toArray, List.getElem?_cons_succ, List.getElem?_cons_zero]; rfl) (by kernel_rfl) (by kernel_rfl) (by kernel_rfl) (by exact fun _ _ _ h => h) (Or.inl ⟨by rfl, ?_⟩) (by assumption) ?_
                        rotate_left
                        · intro w hSw; (try dsimp only at hSw); go_simp <;> with_reducible rfl
                        try simp only [Act.put, List.setIfInBounds_toArray, List.set_cons_zero, List.set_cons_succ]
                        refine wpAnyH_take (i := 3) (oi := _) (v := ?_) (by simp only [List.getElem?_toArray, List.getElem?_cons_succ, List.getElem?_cons_zero]; rfl) (by kernel_rfl) (by kernel_rfl) (by kernel_rfl) (by exact fun _ _ _ h => h) (Or.inl ⟨by rfl, ?_⟩) (by assumption) ?_
                        rotate_left
                        · intro w hSw; (try dsimp only at hSw); go_simp <;> with_reducible rfl
                        try simp only [Act.put, List.setIfInBounds_toArray, List.set_cons_zero, List.set_cons_succ]
                        refine wpAnyH_take (i := 4) (oi := _) (v := ?_) (by simp only [List.getElem?_toArray, List.getElem?_cons_succ, List.getElem?_cons_zero]; rfl) (by kernel_rfl) (by kernel_rfl) (by kernel_rfl) (by exact fun _ _ _ h => h) (Or.inl ⟨by rfl, ?_⟩) (by assumption) ?_
                        rotate_left
                        · intro w hSw; (try dsimp only at hSw); go_simp <;> with_reducible rfl
                        try simp only [Act.put, List.setIfInBounds_toArray, List.set_cons_zero, List.set_cons_succ]
                        refine wpAnyH_take (i := 5) (oi := _) (v := ?_) (by simp only [List.getElem?_toArray, List.getElem?_cons_succ, List.getElem?_cons_zero]; rfl) (by kernel_rfl) (by kernel_rfl) (by kernel_rfl) (by exact fun _ _ _ h => h) (Or.inl ⟨by rfl, ?_⟩) (by assumption) ?_
                        rotate_left
                        · intro w hSw; (try dsimp only at hSw); go_simp <;> with_reducible rfl
                        try simp only [Act.put, List.setIfInBounds_toArray, List.set_cons_zero, List.set_cons_succ]
                        refine wpAnyH_take (i := 6) (oi := _) (v := ?_) (by simp only [List.getElem?_toArray, List.getElem?_cons_succ, List.getElem?_cons_zero]; rfl) (by kernel_rfl) (by kernel_rfl) (by kernel_rfl) (by exact fun _ _ _ h => h) (Or.inl ⟨by rfl, ?_⟩) (by assumption) ?_
                        rotate_left
                        · intro w hSw; (try dsimp only at hSw); go_simp <;> with_reducible rfl
                        try simp only [Act.put, List.setIfInBounds_toArray, List.set_cons_zero, List.set_cons_succ]
                        refine wpAnyH_take (i := 7) (oi := _) (v := ?_) (by simp only [List.getElem?_toArray, List.getElem?_cons_succ, List.getElem?_cons_zero]; rfl) (by kernel_rfl) (by kernel_rfl) (by kernel_rfl) (by exact fun _ _ _ h => h) (Or.inl ⟨by rfl, ?_⟩) (by assumption) ?_
                        rotate_left
                        · intro w hSw; (try dsimp only at hSw); go_simp <;> with_reducible rfl
                        try simp only [Act.put, List.setIfInBounds_toArray, List.set_cons_zero, List.set_cons_succ]
                        refine wpAnyH_take (i := 8) (oi := _) (v := ?_) (by simp only [List.getElem?_toArray, List.getElem?_cons_succ, List.getElem?_cons_zero]; rfl) (by kernel_rfl) (by kernel_rfl) (by kernel_rfl) (by exact fun _ _ _ h => h) (Or.inl ⟨by rfl, ?_⟩) (by assumption) ?_
                        rotate_left
                        · intro w hSw; (try dsimp only at hSw); go_simp <;> with_reducible rfl
                        try simp only [Act.put, List.setIfInBounds_toArray, List.set_cons_zero, List.set_cons_succ]
                        refine wpAnyH_take (i := 9) (oi := _) (v := ?_) (by simp only [List.getElem?_toArray, List.getElem?_cons_succ, List.getElem?_cons_zero]; rfl) (by kernel_rfl) (by kernel_rfl) (by kernel_rfl) (by exact fun _ _ _ h => h) (Or.inl ⟨by rfl, ?_⟩) (by assumption) ?_
                        rotate_left
                        · intro w hSw; (try dsimp only at hSw); go_simp <;> with_reducible rfl
                        try simp only [Act.put, List.setIfInBounds_toArray, List.set_cons_zero, List.set_cons_succ]
                        refine wpAnyH_take (i := 10) (oi := _) (v := ?_) (by simp only [List.getElem?_toArray, List.getElem?_cons_succ, List.getElem?_cons_zero]; rfl) (by kernel_rfl) (by kernel_rfl) (by kernel_rfl) (by exact fun _ _ _ h => h) (Or.inl ⟨by rfl, ?_⟩) (by assumption) ?_
                        rotate_left
                        · intro w hSw; (try dsimp only at hSw); go_simp <;> with_reducible rfl
                        try simp only [Act.put, List.setIfInBounds_toArray, List.set_cons_zero, List.set_cons_succ]
                        refine wpAnyH_take (i := 11) (oi := _) (v := ?_) (by simp only [List.getElem?_toArray, List.getElem?_cons_succ, List.getElem?_cons_zero]; rfl) (by kernel_rfl) (by kernel_rfl) (by kernel_rfl) (by exact fun _ _ _ h => h) (Or.inl ⟨by rfl, ?_⟩) (by assumption) ?_
                        rotate_left
                        · intro w hSw; (try dsimp only at hSw); go_simp <;> with_reducible rfl
                        try simp only [Act.put, List.setIfInBounds_toArray, List.set_cons_zero, List.set_cons_succ]
                        refine wpAnyH_take (i := 12) (oi := _) (v := ?_) (by simp only [List.getElem?_toArray, List.getElem?_cons_succ, List.getElem?_cons_zero]; rfl) (by kernel_rfl) (by kernel_rfl) (by kernel_rfl) (by exact fun _ _ _ h => h) (Or.inl ⟨by rfl, ?_⟩) (by assumption) ?_
                        rotate_left
                        · intro w hSw; (try dsimp only at hSw); go_simp <;> with_reducible rfl
                        try simp only [Act.put, List.setIfInBounds_toArray, List.set_cons_zero, List.set_cons_succ]
                        refine wpAnyH_take (i := 13) (oi := _) (v := ?_) (by simp only [List.getElem?_toArray, List.getElem?_cons_succ, List.getElem?_cons_zero]; rfl) (by kernel_rfl) (by kernel_rfl) (by kernel_rfl) (by exact fun _ _ _ h => h) (Or.inl ⟨by rfl, ?_⟩) (by assumption) ?_
                        rotate_left
                        · intro w hSw; (try dsimp only at hSw); go_simp <;> with_reducible rfl
                        try simp only [Act.put, List.setIfInBounds_toArray, List.set_cons_zero, List.set_cons_succ]
                        refine wpAnyH_take (i := 14) (oi := _) (v := ?_) (by simp only [List.getElem?_toArray, List.getElem?_cons_succ, List.getElem?_cons_zero]; rfl) (by kernel_rfl) (by kernel_rfl) (by kernel_rfl) (by exact fun _ _ _ h => h) (Or.inl ⟨by rfl, ?_⟩) (by assumption) ?_
                        rotate_left
                        · intro w hSw; (try dsimp only at hSw); go_simp <;> with_reducible rfl
                        try simp only [Act.put, List.setIfInBounds_toArray, List.set_cons_zero, List.set_cons_succ]
                        refine wpAnyH_take (i := 15) (oi := _) (v := ?_) (by simp only [List.getElem?_toArray, List.getElem?_cons_succ, List.getElem?_cons_zero]; rfl) (by kernel_rfl) (by kernel_rfl) (by kernel_rfl) (by exact fun _ _ _ h => h) (Or.inl ⟨by rfl, ?_⟩) (by assumption) ?_
                        rotate_left
                        · intro w hSw; (try dsimp only at hSw); go_simp <;> with_reducible rfl
                        try simp only [Act.put, List.setIfInBounds_toArray, List.set_cons_zero, List.set_cons_succ]
                        refine wpAnyH_take (i := 17) (oi := _) (v := ?_) (by simp only [List.getElem?_toArray, List.getElem?_cons_succ, List.getElem?_cons_zero]; rfl) (by kernel_rfl) (by kernel_rfl) (by kernel_rfl) (by exact fun _ _ _ h => h) (Or.inl ⟨by rfl, ?_⟩) (by assumption) ?_
                        rotate_left
                        · intro w hSw; (try dsimp only at hSw); go_simp <;> with_reducible rfl
                        try simp only [Act.put, List.setIfInBounds_toArray, List.set_cons_zero, List.set_cons_succ]
                        refine wpAnyH_take (i := 18) (oi := _) (v := ?_) (by simp only [List.getElem?_toArray, List.getElem?_cons_succ, List.getElem?_cons_zero]; rfl) (by kernel_rfl) (by kernel_rfl) (by kernel_rfl) (by exact fun _ _ _ h => h) (Or.inl ⟨by rfl, ?_⟩) (by assumption) ?_
                        rotate_left
                        · intro w hSw; (try dsimp only at hSw); go_simp <;> with_reducible rfl
                        try simp only [Act.put, List.setIfInBounds_toArray, List.set_cons_zero, List.set_cons_succ]
                        refine wpAnyH_take (i := 19) (oi := _) (v := ?_) (by simp only [List.getElem?_toArray, List.getElem?_cons_succ, List.getElem?_cons_zero]; rfl) (by kernel_rfl) (by kernel_rfl) (by kernel_rfl) (by exact fun _ _ _ h => h) (Or.inl ⟨by rfl, ?_⟩) (by assumption) ?_
                        rotate_left
                        · intro w hSw; (try dsimp only at hSw); go_simp <;> with_reducible rfl
                        try simp only [Act.put, List.setIfInBounds_toArray, List.set_cons_zero, List.set_cons_succ]
                        refine wpAnyH_ready (rs := [16]) (by kernel_rfl) (by simp) ?_
                        refine AllReadyH.cons (o := _) (by simp only [List.getElem?_toArray, List.getElem?_cons_succ, List.getElem?_cons_zero]; rfl) (fun K hK => ?_) ?_
                        · go_simp
                          refine (founder_any _ sex _ _ f.1 (ha.below bwT) HP.out a hla).mono ?_
                          rw [← HTA.out]
                          rintro e w1 ⟨rfl, hb1⟩
                          have hM := Lib.hid ((Ow.keep hM.out zgT).below hb1)
                          have hoff := OffF.below (show OffF [Wa.heap.size] wA _ from (by repeat' (first | (with_reducible exact OffF.refl _ _) | (with_reducible assumption) | (with_reducible refine offF_drewN ?_ _) | (with_reducible refine OffF.drew ?_) | (with_reducible refine OffF.setCell ?_ (by simp) _) | (with_reducible refine OffF.alloc ?_ _)))) hb1
                          have sz1 := hb1.size
                          obtain ⟨hc1, hf1⟩ := bcell hb1
                          (try simp only [World.size_alloc, World.size_drew] at sz1 hc1 hf1)
                          have lf1 : w.heap.size < w1.heap.size := by omega
                          have lo1 : Wa.heap.size < w1.heap.size := by omega
                          have hbw : Below w.heap.size w w1 := hBA.trans (hoff.toBelow sA (fun b hb => by simp at hb; omega))
                          clear hb1
                          (try go_wp2_with fail)
                          refine hK.out _ _ ?_ (fun hHeld => ?_)
                          · (try dsimp only); first | (go_keep; done) | (simp [go_sem, *]; done) | go_keep
                          clear hK K
                          try simp only [Act.put, List.setIfInBounds_toArray, List.set_cons_zero, List.set_cons_succ]
                          refine wpAnyH_ready (rs := [20]) (by kernel_rfl) (by simp) ?_
                          refine AllReadyH.cons (o := _) (by simp only [List.getElem?_toArray, List.getElem?_cons_succ, List.getElem?_cons_zero]; rfl) (fun K hK => ?_) ?_
                          · go_simp
                            refine (founder_any _ sex _ _ f.1 (ha.below bwT) HP.out b hlb).mono ?_
                            rw [← HTB.out]
                            rintro e w2 ⟨rfl, hb2⟩
                            have hM := Lib.hid ((Ow.keep hM.out zgT).below hb2)
                            have hoff := OffF.below (show OffF [Wa.heap.size] wA _ from (by repeat' (first | (with_reducible exact OffF.refl _ _) | (with_reducible assumption) | (with_reducible refine offF_drewN ?_ _) | (with_reducible refine OffF.drew ?_) | (with_reducible refine OffF.setCell ?_ (by simp) _) | (with_reducible refine OffF.alloc ?_ _)))) hb2
                            have sz2 := hb2.size
                            obtain ⟨hc2, hf2⟩ := bcell hb2
                            (try simp only [World.size_alloc, World.size_drew] at sz2 hc2 hf2)
                            have lf2 : w.heap.size < w2.heap.size := by omega
                            have lo2 : Wa.heap.size < w2.heap.size := by omega
                            have hbw : Below w.heap.size w w2 := hBA.trans (hoff.toBelow sA (fun b hb => by simp at hb; omega))
                            clear hb2
                            (try go_wp2_with fail)
                            refine hK.out _ _ ?_ (fun hHeld => ?_)
                            · (try dsimp only); first | (go_keep; done) | (simp [go_sem, *]; done) | go_keep
                            clear hK K
                            try simp only [Act.put, List.setIfInBounds_toArray, List.set_cons_zero, List.set_cons_succ]
                            refine wpAnyH_take (i := 21) (oi := _) (v := ?_) (by simp only [List.getElem?_toArray, List.getElem?_cons_succ, List.getElem?_cons_zero]; rfl) (by kernel_rfl) (by kernel_rfl) (by kernel_rfl) (by exact fun _ _ _ h => h) (Or.inl ⟨by rfl, ?_⟩) (by assumption) ?_
                            rotate_left
                            · intro w hSw; (try dsimp only at hSw); go_simp <;> with_reducible rfl
                            try simp only [Act.put, List.setIfInBounds_toArray, List.set_cons_zero, List.set_cons_succ]
                            refine wpAnyH_take (i := 22) (oi := _) (v := ?_) (by simp only [List.getElem?_toArray, List.getElem?_cons_succ, List.getElem?_cons_zero]; rfl) (by kernel_rfl) (by kernel_rfl) (by kernel_rfl) (by exact fun _ _ _ h => h) (Or.inl ⟨by rfl, ?_⟩) (by assumption) ?_
                            rotate_left
                            · intro w hSw; (try dsimp only at hSw); go_simp <;> with_reducible rfl
                            try simp only [Act.put, List.setIfInBounds_toArray, List.set_cons_zero, List.set_cons_succ]
                            refine wpAnyH_done (by kernel_rfl) ?_ _
                            go_wp2
                            go_roundw
                            case rel => exact ⟨b + 1, p.set b x, true, by omega, by go_num, rfl, Lib.hid (Ow.int_set0 (hM.out.keep zgT) hlb ⟨hx1, hx2⟩), HN, (by repeat' (first | (with_reducible exact OffF.refl _ _) | (with_reducible assumption) | (with_reducible refine offF_drewN ?_ _) | (with_reducible refine OffF.drew ?_) | (with_reducible refine OffF.setCell ?_ (by simp) _) | (with_reducible refine OffF.alloc ?_ _)))⟩
                            case measure => simp [intOf]; omega
                          exact AllReadyH.nil
                        exact AllReadyH.nil
                      · obtain rfl : b = f.1.length := by omega
                        have nIb : ¬ (f.1.length : Int) < (f.1.length : Int) := by omega
                        have HN := Lib.hid HS.out.row
                        clear HS
                        go_wp2
                        go_roundw
                        case rel => exact ⟨a + 1, p, t, by omega, by go_num, rfl, hM, HN, hoff⟩
                        case measure => simp [intOf]; omega
                  · obtain rfl : a = f.1.length := by omega
                    have nIa : ¬ (f.1.length : Int) < (f.1.length : Int) := by omega
                    have sR := hoff.size
                    have hbw : Below w.heap.size w we := hBA.trans (hoff.toBelow sA (fun b hb => by simp at hb; omega))
                    have q_f0 := offc hoff hz1 (.inl lmf) la_f qa_f0
                    have q_f1 := offc hoff hz1 (.inl lmf) la_f qa_f1
                    have l_f : w.heap.size < we.heap.size := by omega
                    have l_o : Wa.heap.size < we.heap.size := by omega
                    go_wp2
                    go_loopw [9, 13, 96] (fun s9 _ s96 wr => ∃ (j : Nat) (p : List Int) (t : Bool), j ≤ f.2.length ∧ s96 = .int .i64 j ∧ s9 = .bool t ∧ Hid (Ow Wa.heap.size (Wa.heap.size + 1) wr [.slice (some ⟨Wa.heap.size, 0, none⟩) f.1.length f.1.length] p) ∧ Hid (Sw f sex (o.set k 0) o' f.1.length 0 j t p) ∧ OffF [Wa.heap.size] wA wr) (fun _ _ s96 _ => f.2.length - (intOf s96).toNat)
                    case atStart => exact ⟨0, p, t, Nat.zero_le _, rfl, rfl, hM, HS, hoff⟩
                    case round =>
                      clear hM HS hoff sR hbw q_f0 q_f1 l_f l_o
                      obtain ⟨wf, hwf⟩ : ∃ wm : World, wm = wr := ⟨_, rfl⟩
                      subst hwf
                      obtain ⟨j, p, t, hj1, rfl, rfl, hM, HS, hoff⟩ := hrel
                      have sR := hoff.size
                      have hbw : Below w.heap.size w wf := hBA.trans (hoff.toBelow sA (fun b hb => by simp at hb; omega))
                      have q_f0 := offc hoff hz1 (.inl lmf) la_f qa_f0
                      have q_f1 := offc hoff hz1 (.inl lmf) la_f qa_f1
                      have l_f : w.heap.size < wf.heap.size := by omega
                      have l_o : Wa.heap.size < wf.heap.size := by omega
                      by_cases hlj : j < f.2.length
                      · have hIj : (j : Int) < (f.2.length : Int) := by omega
                        obtain ⟨ub, uoff, ma, wo, fr, tl, rfl, hu, p0, p1, p2, p3, -, -, -, -, -, -, ubl, -⟩ := (hb.below hbw).uni_at hlj
                        obtain ⟨⟨um1, um2⟩, ⟨uw1, uw2⟩⟩ := HU.out j _ hu.out
                        dsimp only at um1 um2 uw1 uw2
                        obtain ⟨mi, rfl⟩ := Int.eq_ofNat_of_zero_le um1
                        obtain ⟨wi, rfl⟩ := Int.eq_ofNat_of_zero_le uw1
                        have hlm : mi < f.1.length := by omega
                        have hlw : wi < f.1.length := by omega
                        obtain ⟨x, hx, hcx, hx1, hx2, hfx, -⟩ := hM.out.int_at0 (i := mi) hlm
                        obtain ⟨y, hy, hcy, hy1, hy2, hfy, -⟩ := hM.out.int_at0 (i := wi) hlw
                        have HMX := Lib.hid (show mrk p mi = x from getI_at hx.out)
                        have HMY := Lib.hid (show mrk p wi = y from getI_at hy.out)
                        have hrx : x = -1 ∨ x = 0 ∨ x = 1 := by rw [← HMX.out]; exact HS.out.inn.rng.2 mi hlm
                        have hry : y = -1 ∨ y = 0 ∨ y = 1 := by rw [← HMY.out]; exact HS.out.inn.rng.2 wi hlw
                        have nO1 : ¬ Wa.heap.size = wf.heap.size := by omega
                        have nO2 : ¬ wf.heap.size = Wa.heap.size := by omega
                        clear hx hy
                        by_cases e1 : 0 ≤ x
                        · by_cases e2 : y < 0
                          · skip
                            have HN := Lib.hid (HS.out.uput1 hu.out (by dsimp only; omega) (by dsimp only; omega) (by dsimp only; rw [Int.toNat_natCast, HMX.out]; omega) (by dsimp only; rw [Int.toNat_natCast, HMY.out]; omega))
                            dsimp only at HN
                            rw [Int.toNat_natCast, Int.toNat_natCast, HMX.out] at HN
                            have hmw : ¬ mi = wi := fun e => by have h1 := HMX.out; have h2 := HMY.out; rw [e] at h1; omega
                            have hwm : ¬ wi = mi := fun e => hmw e.symm
                            have e7 : 0 ≤ 1 - x := by omega
                            have e8 : ¬ x < 0 := by omega
                            clear HS HMX HMY hu
                            go_wp2
                            go_region
                            go_wp2
                            go_roundw
                            case rel => exact ⟨j + 1, p.set wi (1 - x), true, by omega, by go_num, rfl, Lib.hid ((Ow.int_set0 hM.out hlw ⟨by omega, by omega⟩).keep zgT), HN, (by repeat' (first | (with_reducible exact OffF.refl _ _) | (with_reducible assumption) | (with_reducible refine offF_drewN ?_ _) | (with_reducible refine OffF.drew ?_) | (with_reducible refine OffF.setCell ?_ (by simp) _) | (with_reducible refine OffF.alloc ?_ _)))⟩
                            case measure => simp [intOf]; omega
                          · have e3 : 0 ≤ y := by omega
                            have e4 : ¬ x < 0 := by omega
                            have HN := Lib.hid (HS.out.ukeep hu.out (by dsimp only; rw [Int.toNat_natCast, Int.toNat_natCast, HMX.out, HMY.out]; omega))
                            clear HS HMX HMY hu
                            go_wp2
                            go_roundw
                            case rel => exact ⟨j + 1, p, _, by omega, by go_num, rfl, Lib.hid (hM.out.keep zgT), HN, (by repeat' (first | (with_reducible exact OffF.refl _ _) | (with_reducible assumption) | (with_reducible refine offF_drewN ?_ _) | (with_reducible refine OffF.drew ?_) | (with_reducible refine OffF.setCell ?_ (by simp) _) | (with_reducible refine OffF.alloc ?_ _)))⟩
                            case measure => simp [intOf]; omega
                        · by_cases e2 : 0 ≤ y
                          · have e3 : x < 0 := by omega
                            have HN := Lib.hid (HS.out.uput2 hu.out (by dsimp only; omega) (by dsimp only; omega) (by dsimp only; rw [Int.toNat_natCast, HMY.out]; omega) (by dsimp only; rw [Int.toNat_natCast, HMX.out]; omega))
                            dsimp only at HN
                            rw [Int.toNat_natCast, Int.toNat_natCast, HMY.out] at HN
                            have hmw : ¬ mi = wi := fun e => by have h1 := HMX.out; have h2 := HMY.out; rw [e] at h1; omega
                            have hwm : ¬ wi = mi := fun e => hmw e.symm
                            have e7 : 0 ≤ 1 - y := by omega
                            have e8 : ¬ y < 0 := by omega
                            clear HS HMX HMY hu
                            go_wp2
                            go_region
                            go_wp2
                            go_roundw
                            case rel => exact ⟨j + 1, p.set mi (1 - y), true, by omega, by go_num, rfl, Lib.hid ((Ow.int_set0 hM.out hlm ⟨by omega, by omega⟩).keep zgT), HN, (by repeat' (first | (with_reducible exact OffF.refl _ _) | (with_reducible assumption) | (with_reducible refine offF_drewN ?_ _) | (with_reducible refine OffF.drew ?_) | (with_reducible refine OffF.setCell ?_ (by simp) _) | (with_reducible refine OffF.alloc ?_ _)))⟩
                            case measure => simp [intOf]; omega
                          · have e3 : y < 0 := by omega
                            have HN := Lib.hid (HS.out.ukeep hu.out (by dsimp only; rw [Int.toNat_natCast, Int.toNat_natCast, HMX.out, HMY.out]; omega))
                            clear HS HMX HMY hu
                            go_wp2
                            go_roundw
                            case rel => exact ⟨j + 1, p, _, by omega, by go_num, rfl, Lib.hid (hM.out.keep zgT), HN, (by repeat' (first | (with_reducible exact OffF.refl _ _) | (with_reducible assumption) | (with_reducible refine offF_drewN ?_ _) | (with_reducible refine OffF.drew ?_) | (with_reducible refine OffF.setCell ?_ (by simp) _) | (with_reducible refine OffF.alloc ?_ _)))⟩
                            case measure => simp [intOf]; omega
                      · obtain rfl : j = f.2.length := by omega
                        have nIj : ¬ (f.2.length : Int) < (f.2.length : Int) := by omega
                        have HI := Lib.hid HS.out.inn
                        have HC := Lib.hid (show t = false → Clo f sex p from fun e => by subst e; exact HS.out.clo HIN.out HFF.out)
                        have HL := Lib.hid (show 2 * unm f.1.length p + t.toNat < gk by
                          have h1 := HG.out
                          have h2 := HS.out.cnt
                          cases t
                          · simp at h1 ⊢; omega
                          · have := h2.2 rfl
                            simp at h1 ⊢; omega)
                        clear HS HG
                        go_wp2
                        go_roundg (2 * unm f.1.length p + t.toNat)
                        case measure => exact HL.out
                        case rel => exact ⟨p, t, rfl, hM, HI, HC, Lib.hid rfl, hoff⟩
        · obtain rfl : k = f.1.length := by omega
          have nIk : ¬ (f.1.length : Int) < (f.1.length : Int) := by omega
          have HT0 := Lib.hid (Tog.start (f := f) (sex := sex) (o := o))
          go_wp2
          go_loopw [14, 152] (fun _ s152 wr => ∃ a : Nat, a ≤ f.1.length ∧ s152 = .int .i64 a ∧ Hid (Ow Wa.heap.size (Wa.heap.size + 1) wr [.slice (some ⟨Wa.heap.size, 0, none⟩) f.1.length f.1.length] o) ∧ Hid (Tog f sex a 0 o) ∧ OffF [Wa.heap.size] wA wr) (fun _ s152 _ => f.1.length - (intOf s152).toNat)
          case atStart => exact ⟨0, Nat.zero_le _, rfl, hM, HT0, hoff⟩
          case round =>
            clear HT0 hM hoff
            obtain ⟨we, hwe⟩ : ∃ wm : World, wm = wr := ⟨_, rfl⟩
            subst hwe
            obtain ⟨a, ha1, rfl, hM, HT, hoff⟩ := hrel
            by_cases hla : a < f.1.length
            · have hIa : (a : Int) < (f.1.length : Int) := by omega
              go_wp2
              go_loopw [15, 157] (fun _ s157 wr => ∃ b : Nat, b ≤ f.1.length ∧ s157 = .int .i64 b ∧ Hid (Ow Wa.heap.size (Wa.heap.size + 1) wr [.slice (some ⟨Wa.heap.size, 0, none⟩) f.1.length f.1.length] o) ∧ Hid (Tog f sex a b o) ∧ OffF [Wa.heap.size] wA wr) (fun _ s157 _ => f.1.length - (intOf s157).toNat)
              case atStart => exact ⟨0, Nat.zero_le _, rfl, hM, HT, hoff⟩
              case round =>
                clear HT hM hoff
                obtain ⟨wf, hwf⟩ : ∃ wm : World, wm = wr := ⟨_, rfl⟩
                subst hwf
                obtain ⟨b, hb1, rfl, hM, HT, hoff⟩ := hrel
                have sR := hoff.size
                have hbw : Below w.heap.size w wf := hBA.trans (hoff.toBelow sA (fun b hb => by simp at hb; omega))
                have q_f0 := offc hoff hz1 (.inl lmf) la_f qa_f0
                have q_f1 := offc hoff hz1 (.inl lmf) la_f qa_f1
                have l_f : w.heap.size < wf.heap.size := by omega
                have l_o : Wa.heap.size < wf.heap.size := by omega
                by_cases hlb : b < f.1.length
                · have hIb : (b : Int) < (f.1.length : Int) := by omega
                  obtain ⟨x, hx, hcx, hx1, hx2, hfx, -⟩ := hM.out.int_at0 (i := a) hla
                  obtain ⟨y, hy, hcy, hy1, hy2, hfy, -⟩ := hM.out.int_at0 (i := b) hlb
                  have HMX := Lib.hid (show mrk o a = x from getI_at hx.out)
                  have HMY := Lib.hid (show mrk o b = y from getI_at hy.out)
                  clear hx hy
                  obtain ⟨ta, hta⟩ : ∃ t : Int, t = (fo f.1 sex a : Nat) := ⟨_, rfl⟩
                  obtain ⟨tb, htb⟩ : ∃ t : Int, t = (fo f.1 sex b : Nat) := ⟨_, rfl⟩
                  have HTA := Lib.hid hta
                  have HTB := Lib.hid htb
                  clear hta htb
                  by_cases e3 : ta = tb
                  rotate_left
                  · have e3b : (ta == tb) = false := by simpa using e3
                    have HN := Lib.hid (HT.out.keep (fun h => e3 (by rw [HTA.out, HTB.out, h.1])))
                    have E3 := Lib.hid e3
                    clear e3
                    clear HT HMX HMY HO
                    go_upto_region 45 with fail
                    refine wp_region_held_drew (S := (fun w' => w'.cell? ⟨w.heap.size, 0, none⟩ = some (.slice ao f.1.length cap) ∧ w'.cell? ⟨w.heap.size, 1, none⟩ = some (.slice ao2 f.2.length cap2) ∧ w'.cell? ⟨Wa.heap.size, a, none⟩ = some (.int .i64 x) ∧ w'.cell? ⟨Wa.heap.size, b, none⟩ = some (.int .i64 y))) (by kernel_rfl) ?_ (fun hHeld => ?_)
                    · (try dsimp only); go_keep
                    refine wpAnyH_take (i := 0) (oi := _) (v := ?_) (by simp only [List.getElem?_toArray, List.getElem?_cons_succ, List.getElem?_cons_zero]; rfl) (by kernel_rfl) (by kernel_rfl) (by kernel_rfl) (by exact fun _ _ _ h => h) (Or.inl ⟨by rfl, ?_⟩) (by assumption) ?_
                    rotate_left
                    · intro w hSw; (try dsimp only at hSw); go_simp <;> with_reducible rfl
                    try simp only [Act.put, List.setIfInBounds_toArray, List.set_cons_zero, List.set_cons_succ]
                    refine wpAnyH_take (i := 1) (oi := _) (v := ?_) (by simp only [List.getElem?_toArray, List.getElem?_cons_succ, List.getElem?_cons_zero]; rfl) (by kernel_rfl) (by kernel_rfl) (by kernel_rfl) (by exact fun _ _ _ h => h) (Or.inl ⟨by rfl, ?_⟩) (by assumption) ?_
                    rotate_left
                    · intro w hSw; (try dsimp only at hSw); go_simp <;> with_reducible rfl
                    try simp only [Act.put, List.setIfInBounds_toArray, List.set_cons_zero, List.set_cons_succ]
                    refine wpAnyH_take (i := 2) (oi := _) (v := ?_) (by simp only [List.getElem?_toArray, List.getElem?_cons_succ, List.getElem?_cons_zero]; rfl) (by kernel_rfl) (by kernel_rfl) (by kernel_rfl) (by exact fun _ _ _ h => h) (Or.inl ⟨by rfl, ?_⟩) (by assumption) ?_
                    rotate_left
                    · intro w hSw; (try dsimp only at hSw); go_simp <;> with_reducible rfl
                    try simp only [Act.put, List.setIfInBounds_toArray, List.set_cons_zero, List.set_cons_succ]
                    refine wpAnyH_take (i := 4) (oi := _) (v := ?_) (by simp only [List.getElem?_toArray, List.getElem?_cons_succ, List.getElem?_cons_zero]; rfl) (by kernel_rfl) (by kernel_rfl) (by kernel_rfl) (by exact fun _ _ _ h => h) (Or.inl ⟨by rfl, ?_⟩) (by assumption) ?_
                    rotate_left
                    · intro w hSw; (try dsimp only at hSw); go_simp <;> with_reducible rfl
                    try simp only [Act.put, List.setIfInBounds_toArray, List.set_cons_zero, List.set_cons_succ]
                    refine wpAnyH_take (i := 5) (oi := _) (v := ?_) (by simp only [List.getElem?_toArray, List.getElem?_cons_succ, List.getElem?_cons_zero]; rfl) (by kernel_rfl) (by kernel_rfl) (by kernel_rfl) (by exact fun _ _ _ h => h) (Or.inl ⟨by rfl, ?_⟩) (by assumption) ?_
                    rotate_left
                    · intro w hSw; (try dsimp only at hSw); go_simp <;> with_reducible rfl
                    try simp only [Act.put, List.setIfInBounds_toArray, List.set_cons_zero, List.set_cons_succ]
                    refine wpAnyH_take (i := 6) (oi := _) (v := ?_) (by simp only [List.getElem?_toArray, List.getElem?_cons_succ, List.getElem?_cons_zero]; rfl) (by kernel_rfl) (by kernel_rfl) (by kernel_rfl) (by exact fun _ _ _ h => h) (Or.inl ⟨by rfl, ?_⟩) (by assumption) ?_
                    rotate_left
                    · intro w hSw; (try dsimp only at hSw); go_simp <;> with_reducible rfl
                    try simp only [Act.put, List.setIfInBounds_toArray, List.set_cons_zero, List.set_cons_succ]
                    refine wpAnyH_ready (rs := [3]) (by kernel_rfl) (by simp) ?_
                    refine AllReadyH.cons (o := _) (by simp only [List.getElem?_toArray, List.getElem?_cons_succ, List.getElem?_cons_zero]; rfl) (fun K hK => ?_) ?_
                    · go_simp
                      refine (founder_any _ sex _ _ f.1 (ha.below bwT) HP.out a hla).mono ?_
                      rw [← HTA.out]
                      rintro e w1 ⟨rfl, hb1⟩
                      have hM := Lib.hid ((Ow.keep hM.out zgT).below hb1)
                      have hoff := OffF.below (show OffF [Wa.heap.size] wA _ from (by repeat' (first | (with_reducible exact OffF.refl _ _) | (with_reducible assumption) | (with_reducible refine offF_drewN ?_ _) | (with_reducible refine OffF.drew ?_) | (with_reducible refine OffF.setCell ?_ (by simp) _) | (with_reducible refine OffF.alloc ?_ _)))) hb1
                      have sz1 := hb1.size
                      obtain ⟨hc1, hf1⟩ := bcell hb1
                      (try simp only [World.size_alloc, World.size_drew] at sz1 hc1 hf1)
                      have lf1 : w.heap.size < w1.heap.size := by omega
                      have lo1 : Wa.heap.size < w1.heap.size := by omega
                      have hbw : Below w.heap.size w w1 := hBA.trans (hoff.toBelow sA (fun b hb => by simp at hb; omega))
                      clear hb1
                      (try go_wp2_with fail)
                      refine hK.out _ _ ?_ (fun hHeld => ?_)
                      · (try dsimp only); first | (go_keep; done) | (simp [go_sem, *]; done) | go_keep
                      clear hK K
                      try simp only [Act.put, List.setIfInBounds_toArray, List.set_cons_zero, List.set_cons_succ]
                      refine wpAnyH_ready (rs := [7]) (by kernel_rfl) (by simp) ?_
                      refine AllReadyH.cons (o := _) (by simp only [List.getElem?_toArray, List.getElem?_cons_succ, List.getElem?_cons_zero]; rfl) (fun K hK => ?_) ?_
                      · go_simp
                        refine (founder_any _ sex _ _ f.1 (ha.below bwT) HP.out b hlb).mono ?_
                        rw [← HTB.out]
                        rintro e w2 ⟨rfl, hb2⟩
                        have hM := Lib.hid ((Ow.keep hM.out zgT).below hb2)
                        have hoff := OffF.below (show OffF [Wa.heap.size] wA _ from (by repeat' (first | (with_reducible exact OffF.refl _ _) | (with_reducible assumption) | (with_reducible refine offF_drewN ?_ _) | (with_reducible refine OffF.drew ?_) | (with_reducible refine OffF.setCell ?_ (by simp) _) | (with_reducible refine OffF.alloc ?_ _)))) hb2
                        have sz2 := hb2.size
                        obtain ⟨hc2, hf2⟩ := bcell hb2
                        (try simp only [World.size_alloc, World.size_drew] at sz2 hc2 hf2)
                        have lf2 : w.heap.size < w2.heap.size := by omega
                        have lo2 : Wa.heap.size < w2.heap.size := by omega
                        have hbw : Below w.heap.size w w2 := hBA.trans (hoff.toBelow sA (fun b hb => by simp at hb; omega))
                        clear hb2
                        (try go_wp2_with fail)
                        refine hK.out _ _ ?_ (fun hHeld => ?_)
                        · (try dsimp only); first | (go_keep; done) | (simp [go_sem, *]; done) | go_keep
                        clear hK K
                        try simp only [Act.put, List.setIfInBounds_toArray, List.set_cons_zero, List.set_cons_succ]
                        refine wpAnyH_take (i := 8) (oi := _) (v := ?_) (by simp only [List.getElem?_toArray, List.getElem?_cons_succ, List.getElem?_cons_zero]; rfl) (by kernel_rfl) (by kernel_rfl) (by kernel_rfl) (by exact fun _ _ _ h => h) (Or.inl ⟨by rfl, ?_⟩) (by assumption) ?_
                        rotate_left
                        · intro w hSw; (try dsimp only at hSw); go_simp <;> with_reducible rfl
                        try simp only [Act.put, List.setIfInBounds_toArray, List.set_cons_zero, List.set_cons_succ]
                        refine wpAnyH_take (i := 9) (oi := _) (v := ?_) (by simp only [List.getElem?_toArray, List.getElem?_cons_succ, List.getElem?_cons_zero]; rfl) (by kernel_rfl) (by kernel_rfl) (by kernel_rfl) (by exact fun _ _ _ h => h) (Or.inl ⟨by rfl, ?_⟩) (by assumption) ?_
                        rotate_left
                        · intro w hSw; (try dsimp only at hSw); go_simp <;> with_reducible rfl
                        try simp only [Act.put, List.setIfInBounds_toArray, List.set_cons_zero, List.set_cons_succ]
                        refine wpAnyH_take (i := 10) (oi := _) (v := undef) (by simp only [List.getElem?_toArray, List.getElem?_cons_succ, List.getElem?_cons_zero]; rfl) (by kernel_rfl) (by kernel_rfl) (by kernel_rfl) (by exact fun _ _ _ h => h) (Or.inr ⟨by kernel_rfl, rfl⟩) (by assumption) ?_
                        try simp only [Act.put, List.setIfInBounds_toArray, List.set_cons_zero, List.set_cons_succ]
                        refine wpAnyH_take (i := 11) (oi := _) (v := undef) (by simp only [List.getElem?_toArray, List.getElem?_cons_succ, List.getElem?_cons_zero]; rfl) (by kernel_rfl) (by kernel_rfl) (by kernel_rfl) (by exact fun _ _ _ h => h) (Or.inr ⟨by kernel_rfl, rfl⟩) (by assumption) ?_
                        try simp only [Act.put, List.setIfInBounds_toArray, List.set_cons_zero, List.set_cons_succ]
                        refine wpAnyH_take (i := 14) (oi := _) (v := undef) (by simp only [List.getElem?_toArray, List.getElem?_cons_succ, List.getElem?_cons_zero]; rfl) (by kernel_rfl) (by kernel_rfl) (by kernel_rfl) (by exact fun _ _ _ h => h) (Or.inr ⟨by kernel_rfl, rfl⟩) (by assumption) ?_
                        try simp only [Act.put, List.setIfInBounds_toArray, List.set_cons_zero, List.set_cons_succ]
                        refine wpAnyH_take (i := 15) (oi := _) (v := undef) (by simp only [List.getElem?_toArray, List.getElem?_cons_succ, List.getElem?_cons_zero]; rfl) (by kernel_rfl) (by kernel_rfl) (by kernel_rfl) (by exact fun _ _ _ h => h) (Or.inr ⟨by kernel_rfl, rfl⟩) (by assumption) ?_
                        try simp only [Act.put, List.setIfInBounds_toArray, List.set_cons_zero, List.set_cons_succ]
                        refine wpAnyH_take (i := 12) (oi := _) (v := undef) (by simp only [List.getElem?_toArray, List.getElem?_cons_succ, List.getElem?_cons_zero]; rfl) (by kernel_rfl) (by kernel_rfl) (by kernel_rfl) (by exact fun _ _ _ h => h) (Or.inr ⟨by kernel_rfl, rfl⟩) (by assumption) ?_
                        try simp only [Act.put, List.setIfInBounds_toArray, List.set_cons_zero, List.set_cons_succ]
                        refine wpAnyH_take (i := 16) (oi := _) (v := undef) (by simp only [List.getElem?_toArray, List.getElem?_cons_succ, List.getElem?_cons_zero]; rfl) (by kernel_rfl) (by kernel_rfl) (by kernel_rfl) (by exact fun _ _ _ h => h) (Or.inr ⟨by kernel_rfl, rfl⟩) (by assumption) ?_
                        try simp only [Act.put, List.setIfInBounds_toArray, List.set_cons_zero, List.set_cons_succ]
                        refine wpAnyH_take (i := 13) (oi := _) (v := undef) (by simp only [List.getElem?_toArray, List.getElem?_cons_succ, List.getElem?_cons_zero]; rfl) (by kernel_rfl) (by kernel_rfl) (by kernel_rfl) (by exact fun _ _ _ h => h) (Or.inr ⟨by kernel_rfl, rfl⟩) (by assumption) ?_
                        try simp only [Act.put, List.setIfInBounds_toArray, List.set_cons_zero, List.set_cons_succ]
                        refine wpAnyH_take (i := 17) (oi := _) (v := undef) (by simp only [List.getElem?_toArray, List.getElem?_cons_succ, List.getElem?_cons_zero]; rfl) (by kernel_rfl) (by kernel_rfl) (by kernel_rfl) (by exact fun _ _ _ h => h) (Or.inr ⟨by kernel_rfl, rfl⟩) (by assumption) ?_
                        try simp only [Act.put, List.setIfInBounds_toArray, List.set_cons_zero, List.set_cons_succ]
                        refine wpAnyH_take (i := 18) (oi := _) (v := undef) (by simp only [List.getElem?_toArray, List.getElem?_cons_succ, List.getElem?_cons_zero]; rfl) (by kernel_rfl) (by kernel_rfl) (by kernel_rfl) (by exact fun _ _ _ h => h) (Or.inr ⟨by kernel_rfl, rfl⟩) (by assumption) ?_
                        try simp only [Act.put, List.setIfInBounds_toArray, List.set_cons_zero, List.set_cons_succ]
                        refine wpAnyH_take (i := 19) (oi := _) (v := ?_) (by simp only [List.getElem?_toArray, List.getElem?_cons_succ, List.getElem?_cons_zero]; rfl) (by kernel_rfl) (by kernel_rfl) (by kernel_rfl) (by exact fun _ _ _ h => h) (Or.inl ⟨by rfl, ?_⟩) (by assumption) ?_
                        rotate_left
                        · intro w hSw; (try dsimp only at hSw); go_simp <;> with_reducible rfl
                        try simp only [Act.put, List.setIfInBounds_toArray, List.set_cons_zero, List.set_cons_succ]
                        refine wpAnyH_done (by kernel_rfl) ?_ _
                        go_wp2
                        go_roundw
                        case rel => exact ⟨b + 1, by omega, by go_num, Lib.hid (hM.out.keep zgT), HN, (by repeat' (first | (with_reducible exact OffF.refl _ _) | (with_reducible assumption) | (with_reducible refine offF_drewN ?_ _) | (with_reducible refine OffF.drew ?_) | (with_reducible refine OffF.setCell ?_ (by simp) _) | (with_reducible refine OffF.alloc ?_ _)))⟩
                        case measure => simp [intOf]; omega
                      exact AllReadyH.nil
                    exact AllReadyH.nil
                  by_cases e4 : x = y
                  · have e4a : (x == y) = true := by simpa using e4
                    have e4b : (x != y) = false := by simpa using e4
                    have HN := Lib.hid (HT.out.keep (by rw [HMX.out, HMY.out]; exact fun h => h.2 e4))
                    subst e3
                    clear HT HMX HMY HO e4
                    go_upto_region 45 with fail
                    refine wp_region_held_drew (S := (fun w' => w'.cell? ⟨w.heap.size, 0, none⟩ = some (.slice ao f.1.length cap) ∧ w'.cell? ⟨w.heap.size, 1, none⟩ = some (.slice ao2 f.2.length cap2) ∧ w'.cell? ⟨Wa.heap.size, a, none⟩ = some (.int .i64 x) ∧ w'.cell? ⟨Wa.heap.size, b, none⟩ = some (.int .i64 y))) (by kernel_rfl) ?_ (fun hHeld => ?_)
                    · (try dsimp only); go_keep
                    refine wpAnyH_take (i := 0) (oi := _) (v := ?_) (by simp only [List.getElem?_toArray, List.getElem?_cons_succ, List.getElem?_cons_zero]; rfl) (by kernel_rfl) (by kernel_rfl) (by kernel_rfl) (by exact fun _ _ _ h => h) (Or.inl ⟨by rfl, ?_⟩) (by assumption) ?_
                    rotate_left
                    · intro w hSw; (try dsimp only at hSw); go_simp <;> with_reducible rfl
                    try simp only [Act.put, List.setIfInBounds_toArray, List.set_cons_zero, List.set_cons_succ]
                    refine wpAnyH_take (i := 1) (oi := _) (v := ?_) (by simp only [List.getElem?_toArray, List.getElem?_cons_succ, List.getElem?_cons_zero]; rfl) (by kernel_rfl) (by kernel_rfl) (by kernel_rfl) (by exact fun _ _ _ h => h) (Or.inl ⟨by rfl, ?_⟩) (by assumption) ?_
                    rotate_left
                    · intro w hSw; (try dsimp only at hSw); go_simp <;> with_reducible rfl
                    try simp only [Act.put, List.setIfInBounds_toArray, List.set_cons_zero, List.set_cons_succ]
                    refine wpAnyH_take (i := 2) (oi := _) (v := ?_) (by simp only [List.getElem?_toArray, List.getElem?_cons_succ, List.getElem?_cons_zero]; rfl) (by kernel_rfl) (by kernel_rfl) (by kernel_rfl) (by exact fun _ _ _ h => h) (Or.inl ⟨by rfl, ?_⟩) (by assumption) ?_
                    rotate_left
                    · intro w hSw; (try dsimp only at hSw); go_simp <;> with_reducible rfl
                    try simp only [Act.put, List.setIfInBounds_toArray, List.set_cons_zero, List.set_cons_succ]
                    refine wpAnyH_take (i := 4) (oi := _) (v := ?_) (by simp only [List.getElem?_toArray, List.getElem?_cons_succ, List.getElem?_cons_zero]; rfl) (by kernel_rfl) (by kernel_rfl) (by kernel_rfl) (by exact fun _ _ _ h => h) (Or.inl ⟨by rfl, ?_⟩) (by assumption) ?_
                    rotate_left
                    · intro w hSw; (try dsimp only at hSw); go_simp <;> with_reducible rfl
                    try simp only [Act.put, List.setIfInBounds_toArray, List.set_cons_zero, List.set_cons_succ]
                    refine wpAnyH_take (i := 5) (oi := _) (v := ?_) (by simp only [List.getElem?_toArray, List.getElem?_cons_succ, List.getElem?_cons_zero]; rfl) (by kernel_rfl) (by kernel_rfl) (by kernel_rfl) (by exact fun _ _ _ h => h) (Or.inl ⟨by rfl, ?_⟩) (by assumption) ?_
                    rotate_left
                    · intro w hSw; (try dsimp only at hSw); go_simp <;> with_reducible rfl
                    try simp only [Act.put, List.setIfInBounds_toArray, List.set_cons_zero, List.set_cons_succ]
                    refine wpAnyH_take (i := 6) (oi := _) (v := ?_) (by simp only [List.getElem?_toArray, List.getElem?_cons_succ, List.getElem?_cons_zero]; rfl) (by kernel_rfl) (by kernel_rfl) (by kernel_rfl) (by exact fun _ _ _ h => h) (Or.inl ⟨by rfl, ?_⟩) (by assumption) ?_
                    rotate_left
                    · intro w hSw; (try dsimp only at hSw); go_simp <;> with_reducible rfl
                    try simp only [Act.put, List.setIfInBounds_toArray, List.set_cons_zero, List.set_cons_succ]
                    refine wpAnyH_ready (rs := [3]) (by kernel_rfl) (by simp) ?_
                    refine AllReadyH.cons (o := _) (by simp only [List.getElem?_toArray, List.getElem?_cons_succ, List.getElem?_cons_zero]; rfl) (fun K hK => ?_) ?_
                    · go_simp
                      refine (founder_any _ sex _ _ f.1 (ha.below bwT) HP.out a hla).mono ?_
                      rw [← HTA.out]
                      rintro e w1 ⟨rfl, hb1⟩
                      have hM := Lib.hid ((Ow.keep hM.out zgT).below hb1)
                      have hoff := OffF.below (show OffF [Wa.heap.size] wA _ from (by repeat' (first | (with_reducible exact OffF.refl _ _) | (with_reducible assumption) | (with_reducible refine offF_drewN ?_ _) | (with_reducible refine OffF.drew ?_) | (with_reducible refine OffF.setCell ?_ (by simp) _) | (with_reducible refine OffF.alloc ?_ _)))) hb1
                      have sz1 := hb1.size
                      obtain ⟨hc1, hf1⟩ := bcell hb1
                      (try simp only [World.size_alloc, World.size_drew] at sz1 hc1 hf1)
                      have lf1 : w.heap.size < w1.heap.size := by omega
                      have lo1 : Wa.heap.size < w1.heap.size := by omega
                      have hbw : Below w.heap.size w w1 := hBA.trans (hoff.toBelow sA (fun b hb => by simp at hb; omega))
                      clear hb1
                      (try go_wp2_with fail)
                      refine hK.out _ _ ?_ (fun hHeld => ?_)
                      · (try dsimp only); first | (go_keep; done) | (simp [go_sem, *]; done) | go_keep
                      clear hK K
                      try simp only [Act.put, List.setIfInBounds_toArray, List.set_cons_zero, List.set_cons_succ]
                      refine wpAnyH_ready (rs := [7]) (by kernel_rfl) (by simp) ?_
                      refine AllReadyH.cons (o := _) (by simp only [List.getElem?_toArray, List.getElem?_cons_succ, List.getElem?_cons_zero]; rfl) (fun K hK => ?_) ?_
                      · go_simp
                        refine (founder_any _ sex _ _ f.1 (ha.below bwT) HP.out b hlb).mono ?_
                        rw [← HTB.out]
                        rintro e w2 ⟨rfl, hb2⟩
                        have hM := Lib.hid ((Ow.keep hM.out zgT).below hb2)
                        have hoff := OffF.below (show OffF [Wa.heap.size] wA _ from (by repeat' (first | (with_reducible exact OffF.refl _ _) | (with_reducible assumption) | (with_reducible refine offF_drewN ?_ _) | (with_reducible refine OffF.drew ?_) | (with_reducible refine OffF.setCell ?_ (by simp) _) | (with_reducible refine OffF.alloc ?_ _)))) hb2
                        have sz2 := hb2.size
                        obtain ⟨hc2, hf2⟩ := bcell hb2
                        (try simp only [World.size_alloc, World.size_drew] at sz2 hc2 hf2)
                        have lf2 : w.heap.size < w2.heap.size := by omega
                        have lo2 : Wa.heap.size < w2.heap.size := by omega
                        have hbw : Below w.heap.size w w2 := hBA.trans (hoff.toBelow sA (fun b hb => by simp at hb; omega))
                        clear hb2
                        (try go_wp2_with fail)
                        refine hK.out _ _ ?_ (fun hHeld => ?_)
                        · (try dsimp only); first | (go_keep; done) | (simp [go_sem, *]; done) | go_keep
                        clear hK K
                        try simp only [Act.put, List.setIfInBounds_toArray, List.set_cons_zero, List.set_cons_succ]
                        refine wpAnyH_take (i := 8) (oi := _) (v := ?_) (by simp only [List.getElem?_toArray, List.getElem?_cons_succ, List.getElem?_cons_zero]; rfl) (by kernel_rfl) (by kernel_rfl) (by kernel_rfl) (by exact fun _ _ _ h => h) (Or.inl ⟨by rfl, ?_⟩) (by assumption) ?_
                        rotate_left
                        · intro w hSw; (try dsimp only at hSw); go_simp <;> with_reducible rfl
                        try simp only [Act.put, List.setIfInBounds_toArray, List.set_cons_zero, List.set_cons_succ]
                        refine wpAnyH_take (i := 9) (oi := _) (v := ?_) (by simp only [List.getElem?_toArray, List.getElem?_cons_succ, List.getElem?_cons_zero]; rfl) (by kernel_rfl) (by kernel_rfl) (by kernel_rfl) (by exact fun _ _ _ h => h) (Or.inl ⟨by rfl, ?_⟩) (by assumption) ?_
                        rotate_left
                        · intro w hSw; (try dsimp only at hSw); go_simp <;> with_reducible rfl
                        try simp only [Act.put, List.setIfInBounds_toArray, List.set_cons_zero, List.set_cons_succ]
                        refine wpAnyH_take (i := 10) (oi := _) (v := ?_) (by simp only [List.getElem?_toArray, List.getElem?_cons_succ, List.getElem?_cons_zero]; rfl) (by kernel_rfl) (by kernel_rfl) (by kernel_rfl) (by exact fun _ _ _ h => h) (Or.inl ⟨by rfl, ?_⟩) (by assumption) ?_
                        rotate_left
                        · intro w hSw; (try dsimp only at hSw); go_simp <;> with_reducible rfl
                        try simp only [Act.put, List.setIfInBounds_toArray, List.set_cons_zero, List.set_cons_succ]
                        refine wpAnyH_take (i := 11) (oi := _) (v := ?_) (by simp only [List.getElem?_toArray, List.getElem?_cons_succ, List.getElem?_cons_zero]; rfl) (by kernel_rfl) (by kernel_rfl) (by kernel_rfl) (by exact fun _ _ _ h => h) (Or.inl ⟨by rfl, ?_⟩) (by assumption) ?_
                        rotate_left
                        · intro w hSw; (try dsimp only at hSw); go_simp <;> with_reducible rfl
                        try simp only [Act.put, List.setIfInBounds_toArray, List.set_cons_zero, List.set_cons_succ]
                        refine wpAnyH_take (i := 14) (oi := _) (v := ?_) (by simp only [List.getElem?_toArray, List.getElem?_cons_succ, List.getElem?_cons_zero]; rfl) (by kernel_rfl) (by kernel_rfl) (by kernel_rfl) (by exact fun _ _ _ h => h) (Or.inl ⟨by rfl, ?_⟩) (by assumption) ?_
                        rotate_left
                        · intro w hSw; (try dsimp only at hSw); go_simp <;> with_reducible rfl
                        try simp only [Act.put, List.setIfInBounds_toArray, List.set_cons_zero, List.set_cons_succ]
                        refine wpAnyH_take (i := 15) (oi := _) (v := ?_) (by simp only [List.getElem?_toArray, List.getElem?_cons_succ, List.getElem?_cons_zero]; rfl) (by kernel_rfl) (by kernel_rfl) (by kernel_rfl) (by exact fun _ _ _ h => h) (Or.inl ⟨by rfl, ?_⟩) (by assumption) ?_
                        rotate_left
                        · intro w hSw; (try dsimp only at hSw); go_simp <;> with_reducible rfl
                        try simp only [Act.put, List.setIfInBounds_toArray, List.set_cons_zero, List.set_cons_succ]
                        refine wpAnyH_take (i := 12) (oi := _) (v := ?_) (by simp only [List.getElem?_toArray, List.getElem?_cons_succ, List.getElem?_cons_zero]; rfl) (by kernel_rfl) (by kernel_rfl) (by kernel_rfl) (by exact fun _ _ _ h => h) (Or.inl ⟨by rfl, ?_⟩) (by assumption) ?_
                        rotate_left
                        · intro w hSw; (try dsimp only at hSw); go_simp <;> with_reducible rfl
                        try simp only [Act.put, List.setIfInBounds_toArray, List.set_cons_zero, List.set_cons_succ]
                        refine wpAnyH_take (i := 16) (oi := _) (v := ?_) (by simp only [List.getElem?_toArray, List.getElem?_cons_succ, List.getElem?_cons_zero]; rfl) (by kernel_rfl) (by kernel_rfl) (by kernel_rfl) (by exact fun _ _ _ h => h) (Or.inl ⟨by rfl, ?_⟩) (by assumption) ?_
                        rotate_left
                        · intro w hSw; (try dsimp only at hSw); go_simp <;> with_reducible rfl
                        try simp only [Act.put, List.setIfInBounds_toArray, List.set_cons_zero, List.set_cons_succ]
                        refine wpAnyH_take (i := 13) (oi := _) (v := ?_) (by simp only [List.getElem?_toArray, List.getElem?_cons_succ, List.getElem?_cons_zero]; rfl) (by kernel_rfl) (by kernel_rfl) (by kernel_rfl) (by exact fun _ _ _ h => h) (Or.inl ⟨by rfl, ?_⟩) (by assumption) ?_
                        rotate_left
                        · intro w hSw; (try dsimp only at hSw); go_simp <;> with_reducible rfl
                        try simp only [Act.put, List.setIfInBounds_toArray, List.set_cons_zero, List.set_cons_succ]
                        refine wpAnyH_take (i := 17) (oi := _) (v := ?_) (by simp only [List.getElem?_toArray, List.getElem?_cons_succ, List.getElem?_cons_zero]; rfl) (by kernel_rfl) (by kernel_rfl) (by kernel_rfl) (by exact fun _ _ _ h => h) (Or.inl ⟨by rfl, ?_⟩) (by assumption) ?_
                        rotate_left
                        · intro w hSw; (try dsimp only at hSw); go_simp <;> with_reducible rfl
                        try simp only [Act.put, List.setIfInBounds_toArray, List.set_cons_zero, List.set_cons_succ]
                        refine wpAnyH_take (i := 18) (oi := _) (v := ?_) (by simp only [List.getElem?_toArray, List.getElem?_cons_succ, List.getElem?_cons_zero]; rfl) (by kernel_rfl) (by kernel_rfl) (by kernel_rfl) (by exact fun _ _ _ h => h) (Or.inl ⟨by rfl, ?_⟩) (by assumption) ?_
                        rotate_left
                        · intro w hSw; (try dsimp only at hSw); go_simp <;> with_reducible rfl
                        try simp only [Act.put, List.setIfInBounds_toArray, List.set_cons_zero, List.set_cons_succ]
                        refine wpAnyH_take (i := 19) (oi := _) (v := ?_) (by simp only [List.getElem?_toArray, List.getElem?_cons_succ, List.getElem?_cons_zero]; rfl) (by kernel_rfl) (by kernel_rfl) (by kernel_rfl) (by exact fun _ _ _ h => h) (Or.inl ⟨by rfl, ?_⟩) (by assumption) ?_
                        rotate_left
                        · intro w hSw; (try dsimp only at hSw); go_simp <;> with_reducible rfl
                        try simp only [Act.put, List.setIfInBounds_toArray, List.set_cons_zero, List.set_cons_succ]
                        refine wpAnyH_done (by kernel_rfl) ?_ _
                        go_wp2
                        go_roundw
                        case rel => exact ⟨b + 1, by omega, by go_num, Lib.hid (hM.out.keep zgT), HN, (by repeat' (first | (with_reducible exact OffF.refl _ _) | (with_reducible assumption) | (with_reducible refine offF_drewN ?_ _) | (with_reducible refine OffF.drew ?_) | (with_reducible refine OffF.setCell ?_ (by simp) _) | (with_reducible refine OffF.alloc ?_ _)))⟩
                        case measure => simp [intOf]; omega
                      exact AllReadyH.nil
                    exact AllReadyH.nil
                  obtain ⟨rfl, rfl⟩ := HR.out.no (HO.out.none_of HIN.out HUN.out (fun hv => e4 (by rw [← HMX.out, ← HMY.out]; exact val_tog hv hla hlb (by have h1 := HTA.out; have h2 := HTB.out; omega))))
                  have e4a : (x == y) = false := by simpa using e4
                  have e4b : (x != y) = true := by simpa using e4
                  subst e3
                  clear HT HMX HMY HO e4 HR
                  go_upto_region 45 with fail
                  refine wp_region_held_drew (S := (fun w' => w'.cell? ⟨w.heap.size, 0, none⟩ = some (.slice ao f.1.length cap) ∧ w'.cell? ⟨w.heap.size, 1, none⟩ = some (.slice ao2 f.2.length cap2) ∧ w'.cell? ⟨Wa.heap.size, a, none⟩ = some (.int .i64 x) ∧ w'.cell? ⟨Wa.heap.size, b, none⟩ = some (.int .i64 y))) (by kernel_rfl) ?_ (fun hHeld => ?_)
                  · (try dsimp only); go_keep
                  refine wpAnyH_take (i := 0) (oi := _) (v := ?_) (by simp only [List.getElem?_toArray, List.getElem?_cons_succ, List.getElem?_cons_zero]; rfl) (by kernel_rfl) (by kernel_rfl) (by kernel_rfl) (by exact fun _ _ _ h => h) (Or.inl ⟨by rfl, ?_⟩) (by assumption) ?_
                  rotate_left
                  · intro w hSw; (try dsimp only at hSw); go_simp <;> with_reducible rfl
                  try simp only [Act.put, List.setIfInBounds_toArray, List.set_cons_zero, List.set_cons_succ]
                  refine wpAnyH_take (i := 1) (oi := _) (v := ?_) (by simp only [List.getElem?_toArray, List.getElem?_cons_succ, List.getElem?_cons_zero]; rfl) (by kernel_rfl) (by kernel_rfl) (by kernel_rfl) (by exact fun _ _ _ h => h) (Or.inl ⟨by rfl, ?_⟩) (by assumption) ?_
                  rotate_left
                  · intro w hSw; (try dsimp only at hSw); go_simp <;> with_reducible rfl
                  try simp only [Act.put, List.setIfInBounds_toArray, List.set_cons_zero, List.set_cons_succ]
                  refine wpAnyH_take (i := 2) (oi := _) (v := ?_) (by simp only [List.getElem?_toArray, List.getElem?_cons_succ, List.getElem?_cons_zero]; rfl) (by kernel_rfl) (by kernel_rfl) (by kernel_rfl) (by exact fun _ _ _ h => h) (Or.inl ⟨by rfl, ?_⟩) (by assumption) ?_
                  rotate_left
                  · intro w hSw; (try dsimp only at hSw); go_simp <;> with_reducible rfl
                  try simp only [Act.put, List.setIfInBounds_toArray, List.set_cons_zero, List.set_cons_succ]
                  refine wpAnyH_take (i := 4) (oi := _) (v := ?_) (by simp only [List.getElem?_toArray, List.getElem?_cons_succ, List.getElem?_cons_zero]; rfl) (by kernel_rfl) (by kernel_rfl) (by kernel_rfl) (by exact fun _ _ _ h => h) (Or.inl ⟨by rfl, ?_⟩) (by assumption) ?_
                  rotate_left
                  · intro w hSw; (try dsimp only at hSw); go_simp <;> with_reducible rfl
                  try simp only [Act.put, List.setIfInBounds_toArray, List.set_cons_zero, List.set_cons_succ]
                  refine wpAnyH_take (i := 5) (oi := _) (v := ?_) (by simp only [List.getElem?_toArray, List.getElem?_cons_succ, List.getElem?_cons_zero]; rfl) (by kernel_rfl) (by kernel_rfl) (by kernel_rfl) (by exact fun _ _ _ h => h) (Or.inl ⟨by rfl, ?_⟩) (by assumption) ?_
                  rotate_left
                  · intro w hSw; (try dsimp only at hSw); go_simp <;> with_reducible rfl
                  try simp only [Act.put, List.setIfInBounds_toArray, List.set_cons_zero, List.set_cons_succ]
                  refine wpAnyH_take (i := 6) (oi := _) (v := ?_) (by simp only [List.getElem?_toArray, List.getElem?_cons_succ, List.getElem?_cons_zero]; rfl) (by kernel_rfl) (by kernel_rfl) (by kernel_rfl) (by exact fun _ _ _ h => h) (Or.inl ⟨by rfl, ?_⟩) (by assumption) ?_
                  rotate_left
                  · intro w hSw; (try dsimp only at hSw); go_simp <;> with_reducible rfl
                  try simp only [Act.put, List.setIfInBounds_toArray, List.set_cons_zero, List.set_cons_succ]
                  refine wpAnyH_ready (rs := [3]) (by kernel_rfl) (by simp) ?_
                  refine AllReadyH.cons (o := _) (by simp only [List.getElem?_toArray, List.getElem?_cons_succ, List.getElem?_cons_zero]; rfl) (fun K hK => ?_) ?_
                  · go_simp
                    refine (founder_any _ sex _ _ f.1 (ha.below bwT) HP.out a hla).mono ?_
                    rw [← HTA.out]
                    rintro e w1 ⟨rfl, hb1⟩
                    have hM := Lib.hid ((Ow.keep hM.out zgT).below hb1)
                    have hoff := OffF.below (show OffF [Wa.heap.size] wA _ from (by repeat' (first | (with_reducible exact OffF.refl _ _) | (with_reducible assumption) | (with_reducible refine offF_drewN ?_ _) | (with_reducible refine OffF.drew ?_) | (with_reducible refine OffF.setCell ?_ (by simp) _) | (with_reducible refine OffF.alloc ?_ _)))) hb1
                    have sz1 := hb1.size
                    obtain ⟨hc1, hf1⟩ := bcell hb1
                    (try simp only [World.size_alloc, World.size_drew] at sz1 hc1 hf1)
                    have lf1 : w.heap.size < w1.heap.size := by omega
                    have lo1 : Wa.heap.size < w1.heap.size := by omega
                    have hbw : Below w.heap.size w w1 := hBA.trans (hoff.toBelow sA (fun b hb => by simp at hb; omega))
                    clear hb1
                    (try go_wp2_with fail)
                    refine hK.out _ _ ?_ (fun hHeld => ?_)
                    · (try dsimp only); first | (go_keep; done) | (simp [go_sem, *]; done) | go_keep
                    clear hK K
                    try simp only [Act.put, List.setIfInBounds_toArray, List.set_cons_zero, List.set_cons_succ]
                    refine wpAnyH_ready (rs := [7]) (by kernel_rfl) (by simp) ?_
                    refine AllReadyH.cons (o := _) (by simp only [List.getElem?_toArray, List.getElem?_cons_succ, List.getElem?_cons_zero]; rfl) (fun K hK => ?_) ?_
                    · go_simp
                      refine (founder_any _ sex _ _ f.1 (ha.below bwT) HP.out b hlb).mono ?_
                      rw [← HTB.out]
                      rintro e w2 ⟨rfl, hb2⟩
                      have hM := Lib.hid ((Ow.keep hM.out zgT).below hb2)
                      have hoff := OffF.below (show OffF [Wa.heap.size] wA _ from (by repeat' (first | (with_reducible exact OffF.refl _ _) | (with_reducible assumption) | (with_reducible refine offF_drewN ?_ _) | (with_reducible refine OffF.drew ?_) | (with_reducible refine OffF.setCell ?_ (by simp) _) | (with_reducible refine OffF.alloc ?_ _)))) hb2
                      have sz2 := hb2.size
                      obtain ⟨hc2, hf2⟩ := bcell hb2
                      (try simp only [World.size_alloc, World.size_drew] at sz2 hc2 hf2)
                      have lf2 : w.heap.size < w2.heap.size := by omega
                      have lo2 : Wa.heap.size < w2.heap.size := by omega
                      have hbw : Below w.heap.size w w2 := hBA.trans (hoff.toBelow sA (fun b hb => by simp at hb; omega))
                      clear hb2
                      (try go_wp2_with fail)
                      refine hK.out _ _ ?_ (fun hHeld => ?_)
                      · (try dsimp only); first | (go_keep; done) | (simp [go_sem, *]; done) | go_keep
                      clear hK K
                      try simp only [Act.put, List.setIfInBounds_toArray, List.set_cons_zero, List.set_cons_succ]
                      refine wpAnyH_take (i := 8) (oi := _) (v := ?_) (by simp only [List.getElem?_toArray, List.getElem?_cons_succ, List.getElem?_cons_zero]; rfl) (by kernel_rfl) (by kernel_rfl) (by kernel_rfl) (by exact fun _ _ _ h => h) (Or.inl ⟨by rfl, ?_⟩) (by assumption) ?_
                      rotate_left
                      · intro w hSw; (try dsimp only at hSw); go_simp <;> with_reducible rfl
                      try simp only [Act.put, List.setIfInBounds_toArray, List.set_cons_zero, List.set_cons_succ]
                      refine wpAnyH_take (i := 9) (oi := _) (v := ?_) (by simp only [List.getElem?_toArray, List.getElem?_cons_succ, List.getElem?_cons_zero]; rfl) (by kernel_rfl) (by kernel_rfl) (by kernel_rfl) (by exact fun _ _ _ h => h) (Or.inl ⟨by rfl, ?_⟩) (by assumption) ?_
                      rotate_left
                      · intro w hSw; (try dsimp only at hSw); go_simp <;> with_reducible rfl
                      try simp only [Act.put, List.setIfInBounds_toArray, List.set_cons_zero, List.set_cons_succ]
                      refine wpAnyH_take (i := 10) (oi := _) (v := ?_) (by simp only [List.getElem?_toArray, List.getElem?_cons_succ, List.getElem?_cons_zero]; rfl) (by kernel_rfl) (by kernel_rfl) (by kernel_rfl) (by exact fun _ _ _ h => h) (Or.inl ⟨by rfl, ?_⟩) (by assumption) ?_
                      rotate_left
                      · intro w hSw; (try dsimp only at hSw); go_simp <;> with_reducible rfl
                      try simp only [Act.put, List.setIfInBounds_toArray, List.set_cons_zero, List.set_cons_succ]
                      refine wpAnyH_take (i := 11) (oi := _) (v := ?_) (by simp only [List.getElem?_toArray, List.getElem?_cons_succ, List.getElem?_cons_zero]; rfl) (by kernel_rfl) (by kernel_rfl) (by kernel_rfl) (by exact fun _ _ _ h => h) (Or.inl ⟨by rfl, ?_⟩) (by assumption) ?_
                      rotate_left
                      · intro w hSw; (try dsimp only at hSw); go_simp <;> with_reducible rfl
                      try simp only [Act.put, List.setIfInBounds_toArray, List.set_cons_zero, List.set_cons_succ]
                      refine wpAnyH_take (i := 14) (oi := _) (v := ?_) (by simp only [List.getElem?_toArray, List.getElem?_cons_succ, List.getElem?_cons_zero]; rfl) (by kernel_rfl) (by kernel_rfl) (by kernel_rfl) (by exact fun _ _ _ h => h) (Or.inl ⟨by rfl, ?_⟩) (by assumption) ?_
                      rotate_left
                      · intro w hSw; (try dsimp only at hSw); go_simp <;> with_reducible rfl
                      try simp only [Act.put, List.setIfInBounds_toArray, List.set_cons_zero, List.set_cons_succ]
                      refine wpAnyH_take (i := 15) (oi := _) (v := ?_) (by simp only [List.getElem?_toArray, List.getElem?_cons_succ, List.getElem?_cons_zero]; rfl) (by kernel_rfl) (by kernel_rfl) (by kernel_rfl) (by exact fun _ _ _ h => h) (Or.inl ⟨by rfl, ?_⟩) (by assumption) ?_
                      rotate_left
                      · intro w hSw; (try dsimp only at hSw); go_simp <;> with_reducible rfl
                      try simp only [Act.put, List.setIfInBounds_toArray, List.set_cons_zero, List.set_cons_succ]
                      refine wpAnyH_take (i := 12) (oi := _) (v := ?_) (by simp only [List.getElem?_toArray, List.getElem?_cons_succ, List.getElem?_cons_zero]; rfl) (by kernel_rfl) (by kernel_rfl) (by kernel_rfl) (by exact fun _ _ _ h => h) (Or.inl ⟨by rfl, ?_⟩) (by assumption) ?_
                      rotate_left
                      · intro w hSw; (try dsimp only at hSw); go_simp <;> with_reducible rfl
                      try simp only [Act.put, List.setIfInBounds_toArray, List.set_cons_zero, List.set_cons_succ]
                      refine wpAnyH_take (i := 16) (oi := _) (v := ?_) (by simp only [List.getElem?_toArray, List.getElem?_cons_succ, List.getElem?_cons_zero]; rfl) (by kernel_rfl) (by kernel_rfl) (by kernel_rfl) (by exact fun _ _ _ h => h) (Or.inl ⟨by rfl, ?_⟩) (by assumption) ?_
                      rotate_left
                      · intro w hSw; (try dsimp only at hSw); go_simp <;> with_reducible rfl
                      try simp only [Act.put, List.setIfInBounds_toArray, List.set_cons_zero, List.set_cons_succ]
                      refine wpAnyH_take (i := 13) (oi := _) (v := ?_) (by simp only [List.getElem?_toArray, List.getElem?_cons_succ, List.getElem?_cons_zero]; rfl) (by kernel_rfl) (by kernel_rfl) (by kernel_rfl) (by exact fun _ _ _ h => h) (Or.inl ⟨by rfl, ?_⟩) (by assumption) ?_
                      rotate_left
                      · intro w hSw; (try dsimp only at hSw); go_simp <;> with_reducible rfl
                      try simp only [Act.put, List.setIfInBounds_toArray, List.set_cons_zero, List.set_cons_succ]
                      refine wpAnyH_take (i := 17) (oi := _) (v := ?_) (by simp only [List.getElem?_toArray, List.getElem?_cons_succ, List.getElem?_cons_zero]; rfl) (by kernel_rfl) (by kernel_rfl) (by kernel_rfl) (by exact fun _ _ _ h => h) (Or.inl ⟨by rfl, ?_⟩) (by assumption) ?_
                      rotate_left
                      · intro w hSw; (try dsimp only at hSw); go_simp <;> with_reducible rfl
                      try simp only [Act.put, List.setIfInBounds_toArray, List.set_cons_zero, List.set_cons_succ]
                      refine wpAnyH_take (i := 18) (oi := _) (v := ?_) (by simp only [List.getElem?_toArray, List.getElem?_cons_succ, List.getElem?_cons_zero]; rfl) (by kernel_rfl) (by kernel_rfl) (by kernel_rfl) (by exact fun _ _ _ h => h) (Or.inl ⟨by rfl, ?_⟩) (by assumption) ?_
                      rotate_left
                      · intro w hSw; (try dsimp only at hSw); go_simp <;> with_reducible rfl
                      try simp only [Act.put, List.setIfInBounds_toArray, List.set_cons_zero, List.set_cons_succ]
                      refine wpAnyH_take (i := 19) (oi := _) (v := ?_) (by simp only [List.getElem?_toArray, List.getElem?_cons_succ, List.getElem?_cons_zero]; rfl) (by kernel_rfl) (by kernel_rfl) (by kernel_rfl) (by exact fun _ _ _ h => h) (Or.inl ⟨by rfl, ?_⟩) (by assumption) ?_
                      rotate_left
                      · intro w hSw; (try dsimp only at hSw); go_simp <;> with_reducible rfl
                      try simp only [Act.put, List.setIfInBounds_toArray, List.set_cons_zero, List.set_cons_succ]
                      refine wpAnyH_done (by kernel_rfl) ?_ _
                      go_wp2
                      exact bodyPost_ret (v := .tuple #[.slice none 0 0, .bool false]) (by simp [results, go_sem]) rfl ⟨_, rfl, Ow.nil _ _ _, bwT⟩
                    exact AllReadyH.nil
                  exact AllReadyH.nil
                · obtain rfl : b = f.1.length := by omega
                  have nIb : ¬ (f.1.length : Int) < (f.1.length : Int) := by omega
                  have HN := Lib.hid HT.out.row
                  clear HT
                  go_wp2
                  go_roundw
                  case rel => exact ⟨a + 1, by omega, by go_num, hM, HN, hoff⟩
                  case measure => simp [intOf]; omega
            · obtain rfl : a = f.1.length := by omega
              have nIa : ¬ (f.1.length : Int) < (f.1.length : Int) := by omega
              have sR := hoff.size
              have hbw : Below w.heap.size w we := hBA.trans (hoff.toBelow sA (fun b hb => by simp at hb; omega))
              have q_f0 := offc hoff hz1 (.inl lmf) la_f qa_f0
              have q_f1 := offc hoff hz1 (.inl lmf) la_f qa_f1
              have l_f : w.heap.size < we.heap.size := by omega
              have l_o : Wa.heap.size < we.heap.size := by omega
              obtain ⟨r3, hlet_r3⟩ : ∃ r, r = exoB f o := ⟨_, rfl⟩
              have H3 := Lib.hid hlet_r3
              clear hlet_r3
              have HE := Lib.hid (show r3 = true ↔ ∀ u ∈ f.2, ¬ mrk o u.1.toNat = mrk o u.2.1.toNat by rw [H3.out]; exact exoB_iff H1.out.symm HO.out.rng.1)
              go_wp2_with fail
              refine (exoI_b _ _ _ _ f o (h.below bwT) hM.out.rd r3 H3.out).mono ?_
              rintro e w9 ⟨rfl, hb9⟩
              have hbw9 : Below w.heap.size w w9 := Below.after hbw hb9 hbw.size
              cases r3
              · obtain ⟨rfl, rfl⟩ := HR.out.no (HO.out.none_of HIN.out HUN.out (fun hv => absurd (HE.out.2 (fun u hu => val_un hv hu)) (by decide)))
                clear HO HE HT HR hM h hb9
                go_wp2
                exact bodyPost_ret (v := .tuple #[.slice none 0 0, .bool false]) (by simp [results, go_sem]) rfl ⟨_, rfl, Ow.nil _ _ _, bwT⟩
              obtain ⟨rfl, rfl⟩ := HR.out.yes (HO.out.least_of (val_of HO.out.rng HO.out.done HT.out HIN.out HFF.out HUN.out (HE.out.1 rfl)))
              have HF := Lib.hid ((hM.out.below hb9).mono (show w.heap.size ≤ Wa.heap.size by omega) (show Wa.heap.size + 1 ≤ w9.heap.size by have := hb9.size; omega))
              clear HO HE HT HR hM h hb9
              go_wp2
              exact bodyPost_ret (v := .tuple #[.slice (some ⟨Wa.heap.size, 0, none⟩) f.1.length f.1.length, .bool true]) (by simp [results, go_sem]) rfl ⟨_, rfl, HF.out, bwT⟩
end Go.Proofs.Ytefbbbhidnnchaa
