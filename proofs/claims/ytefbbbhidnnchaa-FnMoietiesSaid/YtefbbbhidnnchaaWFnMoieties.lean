/- The walk of the law FnMoieties. -/
import Derived.Test.YtefbbbhidnnchaaZ14M
import Derived.Test.YtefbbbhidnnchaaMol
import Derived.Test.YtefbbbhidnnchaaZ14Q
import Derived.Test.YtefbbbhidnnchaaExoI
namespace Go.Proofs.Ytefbbbhidnnchaa
set_option linter.unusedVariables false
set_option linter.unusedSimpArgs false
open Go.RowKit

theorem Rd.up {α : Type} [Rep α] {z : Bool} {lo : Nat} {w w' : World} {cs : List Value} {x : α} (h : Rd z lo w.heap.size w cs x) (hb : Below w.heap.size w w') : Rd z lo w'.heap.size w' cs x := (h.below hb).mono (Nat.le_refl _) hb.size
set_option maxRecDepth 20000 in
set_option maxHeartbeats 40000000 in
theorem walk_FnMoieties (w : World) (c0a : Value) (code : List UInt8) (h0 : Rd false 0 w.heap.size w [c0a] code) :
    Calls Try.prog 4 #[c0a] w (PostB w true) := by
  obtain ⟨ao0, len0, cap0, hcs0, hln0, hcn0, hcm0, -⟩ := h0.shape
  subst hcs0
  subst hln0
  unfold maxLen at hcm0
  have hle0 : code.length ≤ 9223372036854775807 := by omega
  clear hcm0 hcn0
  by_cases hg0 : 1048576 < code.length
  · go_enter Try.func4, Try.ntmps4
    go_wp2
    go_ret
    exact ⟨rfl, bwT⟩
  have hq1 : code.length ≤ 1048576 := by omega
  have HC := Lib.hid h0
  clear h0 hg0
  go_enter Try.func4, Try.ntmps4
  go_wp2_with fail
  refine (crowd_any _ _ code HC.out hq1 14 (by omega)).mono ?_
  rintro e1 w1 ⟨a, b, f, rfl, hrf, hff, hb1⟩
  obtain ⟨xa, xn, xc, ya, yn, yc, rfl, rfl⟩ := shapeFam hrf
  obtain ⟨_, _, _, ea, eb, -⟩ := (hrf.fam).1.shape
  simp only [Value.slice.injEq] at ea
  obtain ⟨rfl, rfl, rfl⟩ := ea
  subst eb
  have HR := Lib.hid hrf
  have HFF := Lib.hid hff.out
  have hB : Below w.heap.size w w1 := hb1
  obtain ⟨F, hF⟩ : ∃ F, F = w1.heap.size := ⟨_, rfl⟩
  obtain ⟨WA, hWA⟩ : ∃ W : World, W = w1.alloc (.cells #[.slice xa f.1.length xc, .slice ya yn yc] 26) := ⟨_, rfl⟩
  have hbx : Below w1.heap.size w1 WA := by rw [hWA]; exact (Below.refl _ _).alloc (Nat.le_refl _) _
  have q0 : WA.cell? ⟨F, 0, none⟩ = some (.slice xa f.1.length xc) := by rw [hWA, hF]; simp [go_sem]
  have q1 : WA.cell? ⟨F, 1, none⟩ = some (.slice ya yn yc) := by rw [hWA, hF]; simp [go_sem]
  have lF : F < WA.heap.size := by rw [hWA, hF]; simp
  replace HR := Lib.hid (HR.out.up hbx)
  replace hB := hB.trans (Below.mono hbx hB.size)
  go_upto_region 4 with fail
  rw [← hWA, ← hF]
  clear hWA hF hbx hrf hff hb1
  go_wp2_with fail
  refine (at_any _ _ code (HC.out.below hB) hq1 1 (by omega) (by omega)).mono ?_
  rintro e2 w2 ⟨x, rfl, hx, hb2⟩
  have u2 : x.tmod 2 = x % 2 := Int.tmod_eq_emod_of_nonneg hx.1
  obtain ⟨E, hE⟩ : ∃ E : Int, E = 1 + x % 2 := ⟨_, rfl⟩
  have hE2 : E = 1 ∨ E = 2 := by omega
  have hEw : IntKind.i64.wrap (1 + x % 2) = E := by rw [hE]; exact IntWalk.i64_in _ (by omega)
  replace HR := Lib.hid (HR.out.up hb2)
  replace q0 := oldc hb2 lF q0
  replace q1 := oldc hb2 lF q1
  replace lF := Nat.lt_of_lt_of_le lF hb2.size
  replace hB := hB.trans (Below.mono hb2 hB.size)
  clear hb2 hE
  obtain ⟨X, V, hXV⟩ := MoiAns.ex f E
  have HXV := Lib.hid hXV
  clear hXV
  go_wp2_with fail
  refine (moietiesI_any _ _ _ f HR.out E X V HXV.out).mono ?_
  rintro e3 w3 ⟨u3, rfl, ho3, hb3⟩
  obtain ⟨ma, mn, mcap, rfl, hmn, -⟩ := ho3.rd.shape
  subst hmn
  have HX := Lib.hid ho3.rd
  replace HR := Lib.hid (HR.out.up hb3)
  replace q0 := oldc hb3 lF q0
  replace q1 := oldc hb3 lF q1
  replace lF := Nat.lt_of_lt_of_le lF hb3.size
  replace hB := hB.trans (Below.mono hb3 hB.size)
  clear hb3 ho3 hEw
  go_wp2_with fail
  refine (moietiesS_any _ _ _ f HR.out E X V HXV.out).mono ?_
  rintro e4 w4 ⟨u4, rfl, ho4, hb4⟩
  replace HX := Lib.hid (HX.out.up hb4)
  replace HR := Lib.hid (HR.out.up hb4)
  replace q0 := oldc hb4 lF q0
  replace q1 := oldc hb4 lF q1
  replace lF := Nat.lt_of_lt_of_le lF hb4.size
  replace hB := hB.trans (Below.mono hb4 hB.size)
  clear hb4 ho4
  cases V
  · go_wp2
    go_ret
    exact ⟨rfl, hB⟩
  have HLS := Lib.hid (show Least f E X by
    have h := HXV.out
    unfold MoiAns at h
    rw [HFF.out.1, show sexB E = true by (rcases hE2 with rfl | rfl <;> rfl), if_pos (show (true && true) = true from rfl)] at h
    rcases h with ⟨_, h⟩ | ⟨h, _⟩
    · exact h
    · cases h)
  have HXL := Lib.hid HLS.out.1
  have hxlB : ((X.length : Int) != (f.1.length : Int)) = false := by rw [HXL.out]; simp
  have hx40 : X.length ≤ 40 := by rw [HXL.out]; exact HFF.out.2.2
  have hx0 : 0 < X.length := by rw [HXL.out]; exact HFF.out.2.1
  have hxI : (0 : Int) < (X.length : Int) := by omega
  go_upto_region 11 with fail
  go_cut [9] (fun s9 wx => Hid (GL (α := Int) true w4.heap.size w4.heap.size wx.heap.size wx 3 s9 []) ∧ Below w4.heap.size w4 wx)
  case first =>
    go_wp2_with fail
    go_meet
    exact ⟨Lib.hid (GL.lit0 true _ _ w4 _ (Nat.le_refl _)).top, bwT⟩
  case rest =>
    obtain ⟨HG0, hb5⟩ := hcut
    obtain ⟨w5, hw5⟩ : ∃ W : World, W = wc := ⟨_, rfl⟩
    subst hw5
    go_wp2
    go_loopw [9, 10, 11, 12, 13, 54] (fun s9 _ _ _ _ s54 wl => ∃ k : Nat, k ≤ X.length ∧ s54 = .int .i64 k ∧ Hid (GL (α := Int) true w4.heap.size w4.heap.size wl.heap.size wl 3 s9 ((X.take k).map fun x => 1 - x)) ∧ Below w4.heap.size w4 wl) (fun _ _ _ _ _ s54 _ => X.length - (intOf s54).toNat)
    case atStart => exact ⟨0, Nat.zero_le _, rfl, HG0, hb5⟩
    case round =>
      clear HG0 hb5
      obtain ⟨wl, hwl⟩ : ∃ y : World, y = wr := ⟨_, rfl⟩
      subst hwl
      obtain ⟨k, hk, rfl, HG, hbl⟩ := hrel
      obtain ⟨O, hO⟩ : ∃ O, O = (X.take k).map fun x => 1 - x := ⟨_, rfl⟩
      rw [← hO] at HG
      have hOl : O.length ≤ 40 := by rw [hO]; simp; omega
      have HO := Lib.hid hO
      clear hO
      obtain ⟨ga, gc, rfl, -, -⟩ := HG.out.len
      have HXk := Lib.hid (HX.out.up hbl)
      have HRk := Lib.hid (HR.out.up hbl)
      have q0 := oldc hbl lF q0
      have q1 := oldc hbl lF q1
      have hBk := hB.trans (Below.mono hbl hB.size)
      by_cases hkl : k < X.length
      · have hkI : (k : Int) < (X.length : Int) := by omega
        have hkf : k < f.1.length := by rw [← HXL.out]; exact hkl
        obtain ⟨q, hq⟩ : ∃ q, q = fo f.1 E k := ⟨_, rfl⟩
        have hqf : q < f.1.length := by rw [hq]; exact fo_lt (famB_facts HFF.out.1).2.2.1 (Nat.le_refl _) E k hkf
        have hql : q < X.length := by rw [HXL.out]; exact hqf
        obtain ⟨bx, ofx, y, rfl, hy, y0, -⟩ := HXk.out.int_at hkl
        obtain ⟨_, _, y2, e, hy2, y3, -⟩ := HXk.out.int_at hql
        simp only [Option.some.injEq, Addr.mk.injEq, and_true] at e
        obtain ⟨rfl, rfl⟩ := e
        obtain ⟨hy01, hyq⟩ := least_at HLS.out hy.out
        obtain rfl : y2 = y := by rw [← hyq, ← hq]; exact (mrk_at hy2.out).symm
        have HY := Lib.hid hy.out
        have hqI : (q : Int) < (X.length : Int) := by omega
        have hfv : true = foV f (k : Int) E := by
          unfold foV inB
          rw [HFF.out.1, show sexB E = true by (rcases hE2 with rfl | rfl <;> rfl), decide_eq_true (show (0 : Int) ≤ (k : Int) ∧ (k : Int) < (f.1.length : Int) by omega)]
          rfl
        have hfx : (q : Int) = foX f (k : Int) E := by
          unfold foX
          rw [if_pos hfv.symm, Int.toNat_natCast, hq]
        have HFX := Lib.hid hfx
        have HFV := Lib.hid hfv
        clear hy hy2 hyq hq hfx hfv
        go_wp2_with fail
        refine (founderOfS_b _ _ _ f HRk.out (k : Int) E (q : Int) true HFX.out HFV.out).mono ?_
        rintro e w6 ⟨rfl, hb6⟩
        have y0 := oldc hb6 (World.block_lt_of_cell? wl ⟨bx, _, none⟩ y0) y0
        have y3 := oldc hb6 (World.block_lt_of_cell? wl ⟨bx, _, none⟩ y3) y3
        have HG6 := Lib.hid ((HG.out.below hb6).top)
        have hbl6 := hbl.trans (Below.mono hb6 hbl.size)
        have hyI : I64 (1 - y2) := by unfold I64; omega
        have hw1 : IntKind.i64.wrap (1 - y2) = 1 - y2 := IntWalk.i64_in _ (by omega)
        have s6 := hbl6.size
        clear hb6 HG hbl
        go_wp2_with (at_builtin; refine wpList_push rfl rfl slInt (by show (0 : Nat) < 1; omega) (HG6.out.below bwT) rfl (ad := ⟨w6.heap.size, 0, none⟩) rfl (cs := [.int .i64 (1 - y2)]) (y := 1 - y2) (lx := w6.heap.size) (hx' := w6.heap.size) (cells_one _ _ _) (It.int1 (w0 := w6) _ hyI) (by first | omega | (simp; done) | (simp; omega)) (.inl (Nat.le_refl _)) (by unfold maxLen; omega) (by omega) (by first | omega | (simp; done) | (simp; omega)) ?_)
        intro v9 w9 hG9 _ hb9
        have hO2 : O ++ [1 - y2] = (X.take (k + 1)).map fun x => 1 - x := by rw [take_snoc HY.out, List.map_append, ← HO.out]; rfl
        rw [hO2] at hG9
        have HG9 := Lib.hid hG9
        have hbl9 : Below w4.heap.size w4 w9 := hbl6.trans (Below.trans bwT hb9)
        clear hG9 hb9 HG6
        go_wp2
        go_roundw
        case rel => exact ⟨k + 1, by omega, by go_num, HG9, hbl9⟩
        case measure => simp [intOf]; omega
      · obtain rfl : k = X.length := by omega
        have hkI : ¬ (X.length : Int) < (X.length : Int) := by omega
        obtain ⟨bx, ofx, y, rfl, hy, y0, -⟩ := HXk.out.int_at hx0
        obtain rfl : y = 0 := by rw [← mrk_at hy.out]; exact least_zero HLS.out HFF.out.2.1
        have HOX := Lib.hid (show true = exoB f O by
          rw [HO.out, List.take_length]
          exact (other_exo HFF.out.1 HLS.out).symm)
        have HEX := Lib.hid (least_exo HFF.out.1 HLS.out).symm
        have HOR := Lib.hid ((HG.out.ow (Nat.le_refl _) (Nat.le_refl _)).rd.mono (lo' := 0) (Nat.zero_le _) (Nat.le_refl _))
        have lFk := Nat.lt_of_lt_of_le lF hbl.size
        rw [Nat.add_zero] at y0
        clear hy HG
        go_wp2_with fail
        refine (exoI_b _ _ _ _ f X HRk.out HXk.out true HEX.out).mono ?_
        rintro e w6 ⟨rfl, hb6⟩
        have HR6 := Lib.hid (HRk.out.up hb6)
        have HO6 := Lib.hid (HOR.out.up hb6)
        have q0 := oldc hb6 lFk q0
        have q1 := oldc hb6 lFk q1
        have hB6 := hBk.trans (Below.mono hb6 hBk.size)
        clear hb6
        go_wp2_with fail
        refine (exoI_b _ _ _ _ f O HR6.out HO6.out true HOX.out).mono ?_
        rintro e w7 ⟨rfl, hb7⟩
        have hB7 := hB6.trans (Below.mono hb7 hB6.size)
        clear hb7
        go_wp2
        go_ret
        exact ⟨rfl, hB7⟩
end Go.Proofs.Ytefbbbhidnnchaa
