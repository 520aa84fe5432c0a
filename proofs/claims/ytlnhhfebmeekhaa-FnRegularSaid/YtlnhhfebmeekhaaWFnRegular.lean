/- The walk of the law FnRegular. Written by wfreg_gen.py. -/
import Derived.Test.YtlnhhfebmeekhaaArgI
import Derived.Test.YtlnhhfebmeekhaaArgL
import Derived.Test.YtlnhhfebmeekhaaDrwC
import Derived.Test.YtlnhhfebmeekhaaProdI
import Derived.Test.YtlnhhfebmeekhaaCan2I
namespace Go.Proofs.Ytlnhhfebmeekhaa
set_option linter.unusedVariables false
set_option linter.unusedSimpArgs false
open Go.RowKit

theorem pair_dec {r k : Cls} {q1 q2 : Bool} (h1 : q1 = decide (r.1 = k.1)) (h2 : q2 = decide (r.2 = k.2)) : decide (k = r) = (q1 && q2) := by
  subst h1; subst h2
  rw [Bool.eq_iff_iff]
  simp only [decide_eq_true_eq, Bool.and_eq_true]
  exact ⟨fun h => by subst h; exact ⟨rfl, rfl⟩, fun h => (Prod.ext h.1 h.2).symm⟩
set_option maxRecDepth 20000 in
set_option maxHeartbeats 40000000 in
theorem walk_FnRegular (w : World) (c0a : Value) (code : List UInt8) (h0 : Rd false 0 w.heap.size w [c0a] code) :
    Calls Try.prog 4 #[c0a] w (PostB w true) := by
  obtain ⟨ao0, len0, cap0, hcs0, hln0, hcn0, hcm0, -⟩ := h0.shape
  subst hcs0
  subst hln0
  unfold maxLen at hcm0
  have hle0 : code.length ≤ 9223372036854775807 := by omega
  clear hcm0 hcn0
  by_cases hg0 : 1048576 < code.length
  · go_enter Try.func4, Try.ntmps4
    go_wp2
    go_ret
    exact ⟨rfl, bwT⟩
  have hq1 : code.length ≤ 1048576 := by omega
  go_enter Try.func4, Try.ntmps4
  go_wp2_with fail
  refine (makeClasses_any _ _ code (h0.below bwT) hq1 4 (by omega) (by omega)).mono ?_
  rintro e W1 ⟨ca, cb, c, rfl, hoc, hcl, hb1⟩
  have hB1 : Below w.heap.size w W1 := Below.after bwT hb1 szT
  have sW1 := hB1.size
  obtain ⟨ac, nc, kc, bc, mc, lc, rfl, rfl⟩ := shapeCls hoc.rd
  obtain ⟨_, _, _, e3, hn3, -⟩ := (hoc.rd.two rfl).1.shape
  simp only [Value.slice.injEq] at e3
  obtain ⟨-, rfl, -⟩ := e3
  subst hn3
  have hc4 : c.1.length ≤ 4 := hcl.out.2
  have HCC := Lib.hid hcl.out.1
  have hc1 : 1 ≤ c.1.length := (isCls_parts hcl.out.1).1
  have HH0 := Lib.hid h0
  have HLST := Lib.hid (listed hcl.out.1 hc4)
  have HKR := Lib.hid (canonR_of hcl.out.1 (by omega))
  obtain ⟨wA, hwA⟩ : ∃ W : World, W = W1.alloc (.cells #[.slice ac c.1.length kc, .slice bc mc lc] 30) := ⟨_, rfl⟩
  have hqwA : Below W1.heap.size W1 wA := by rw [hwA]; exact (Below.refl _ _).alloc (Nat.le_refl _) _
  have p0 : wA.cell? ⟨W1.heap.size, 0, none⟩ = some (.slice ac c.1.length kc) := by rw [hwA]; simp [go_sem]
  have p1 : wA.cell? ⟨W1.heap.size, 1, none⟩ = some (.slice bc mc lc) := by rw [hwA]; simp [go_sem]
  have lp : W1.heap.size < wA.heap.size := by rw [hwA]; simp
  have swA := hqwA.size

  have HC := Lib.hid (hoc.rd.below hqwA)
  have hBA : Below w.heap.size w wA := hB1.trans (hqwA.mono sW1)
  clear hoc hcl hb1 h0
  go_upto_region 4 with fail
  rw [← hwA]
  clear hwA
  obtain ⟨L, hL⟩ : ∃ L, L = sAll c.1.length := ⟨_, rfl⟩
  have HLX := Lib.hid (show L = if 1 ≤ (c.1.length : Int) ∧ (c.1.length : Int) ≤ 4 then sAll (c.1.length : Int).toNat else [] by rw [if_pos (by omega), hL]; rfl)
  have HLE := Lib.hid hL
  have hLl : L.length ≤ 12 := by
    have h := (aAll_facts hc4).2.1.length_eq
    have h2 := (aAll_facts hc4).1
    rw [hL]; omega
  have HEA := Lib.hid (sAll_each hc4)
  rw [← hL] at HEA HLST
  clear hL
  go_wp2_with fail
  refine (aregI_any _ (c.1.length : Int) L HLX.out).mono ?_
  rintro e2 w2 ⟨u2, rfl, ho2, hb2⟩
  have s2 := hb2.size
  have p0 := oldc hb2 lp p0
  have p1 := oldc hb2 lp p1
  have lp := Nat.lt_of_lt_of_le lp s2

  obtain ⟨a2, n2, cap2, rfl, hn2, -⟩ := ho2.rd.shape
  subst hn2
  have HL2 := Lib.hid ho2.rd
  have HC2 := Lib.hid (HC.out.below hb2)
  have hB2 : Below w.heap.size w w2 := hBA.trans (hb2.mono hBA.size)
  clear ho2 hb2 HC
  obtain ⟨K, hK⟩ : ∃ K, K = canonC c := ⟨_, rfl⟩
  rw [← hK] at HLST HKR
  clear hK
  have hkr := HKR.out.1
  have hkv := HKR.out.2
  go_wp2_with fail
  refine (canonicalI_any _ _ _ c HC2.out).mono ?_
  rw [hkr, hkv]
  rintro e3 w3 ⟨ka, kb, rfl, ho3, hb3⟩
  have s3 := hb3.size
  have p0 := oldc hb3 lp p0
  have p1 := oldc hb3 lp p1
  have lp := Nat.lt_of_lt_of_le lp s3

  obtain ⟨ha3, hb3'⟩ := ho3.rd.two rfl
  obtain ⟨k1a, k1n, k1c, rfl, -⟩ := ha3.shape
  obtain ⟨k2a, k2n, k2c, rfl, -⟩ := hb3'.shape
  obtain ⟨wB, hwB⟩ : ∃ W : World, W = w3.alloc (.cells #[.slice k1a k1n k1c, .slice k2a k2n k2c] 30) := ⟨_, rfl⟩
  have hqwB : Below w3.heap.size w3 wB := by rw [hwB]; exact (Below.refl _ _).alloc (Nat.le_refl _) _
  have z0 : wB.cell? ⟨w3.heap.size, 0, none⟩ = some (.slice k1a k1n k1c) := by rw [hwB]; simp [go_sem]
  have z1 : wB.cell? ⟨w3.heap.size, 1, none⟩ = some (.slice k2a k2n k2c) := by rw [hwB]; simp [go_sem]
  have lz : w3.heap.size < wB.heap.size := by rw [hwB]; simp
  have swB := hqwB.size

  have p0 := oldc hqwB lp p0
  have p1 := oldc hqwB lp p1
  have lp := Nat.lt_of_lt_of_le lp swB

  have HKW := Lib.hid (ha3.below hqwB)
  have HKC := Lib.hid (hb3'.below hqwB)
  have HL := Lib.hid ((HL2.out.below hb3).below hqwB)
  have HC := Lib.hid ((HC2.out.below hb3).below hqwB)
  have hBB : Below w.heap.size w wB := (hB2.trans (hb3.mono hB2.size)).trans (hqwB.mono (by have := hB2.size; omega))
  clear ho3 ha3 hb3' hb3 HL2 HC2 hkr hkv
  go_upto_region 8 with fail
  rw [← hwB]
  clear hwB
  go_wp2
  go_loopw [6, 10, 11, 12, 33] (fun s6 _ _ _ s33 wr => ∃ (i : Nat) (b : Bool), i ≤ L.length ∧ s33 = .int .i64 i ∧ s6 = .bool b ∧ Hid (b = decide (K ∈ L.take i)) ∧ Below wB.heap.size wB wr) (fun _ _ _ _ s33 _ => L.length - (intOf s33).toNat)
  case atStart => exact ⟨0, false, Nat.zero_le _, rfl, rfl, Lib.hid (by simp), Below.refl _ _⟩
  case round =>
    obtain ⟨wb, hwb⟩ : ∃ wm : World, wm = wr := ⟨_, rfl⟩
    subst hwb
    obtain ⟨i, b, hi, rfl, rfl, HB, hbb⟩ := hrel
    have sb := hbb.size
    have p0 := oldc hbb lp p0
    have p1 := oldc hbb lp p1
    have z0 := oldc hbb lz z0
    have z1 := oldc hbb lz z1
    have lp := Nat.lt_of_lt_of_le lp sb
    have lz := Nat.lt_of_lt_of_le lz sb

    by_cases hlt : i < L.length
    · have hI : (i : Int) < (L.length : Int) := by omega
      obtain ⟨b3, off3, xa, ya, vx, vy, rfl, hx, k0, k1, hvx, hvy, hR, -, -, hbl⟩ := HL.out.dCls_at hlt
      obtain ⟨a1, n1, p1', rfl, -⟩ := hvx.shape
      obtain ⟨a21, n21, p21, rfl, -⟩ := hvy.shape
      have q0 := oldc hbb hbl k0
      have q1 := oldc hbb hbl k1
      have hea := HEA.out _ (List.mem_of_getElem? hx.out)
      have HE := Lib.hid hea
      have hxl : xa.length ≤ 8 := hea.1
      have HXX := Lib.hid hx.out
      have HVX := Lib.hid hvx
      have HVY := Lib.hid hvy
      have HR := Lib.hid hR
      obtain ⟨wc, hwc⟩ : ∃ W : World, W = wb.alloc (.cells #[.slice a1 n1 p1', .slice a21 n21 p21] 30) := ⟨_, rfl⟩
      have hqwc : Below wb.heap.size wb wc := by rw [hwc]; exact (Below.refl _ _).alloc (Nat.le_refl _) _
      have t0 : wc.cell? ⟨wb.heap.size, 0, none⟩ = some (.slice a1 n1 p1') := by rw [hwc]; simp [go_sem]
      have t1 : wc.cell? ⟨wb.heap.size, 1, none⟩ = some (.slice a21 n21 p21) := by rw [hwc]; simp [go_sem]
      have lt : wb.heap.size < wc.heap.size := by rw [hwc]; simp
      have swc := hqwc.size
      have p0 := oldc hqwc lp p0
      have p1 := oldc hqwc lp p1
      have z0 := oldc hqwc lz z0
      have z1 := oldc hqwc lz z1
      have lp := Nat.lt_of_lt_of_le lp swc
      have lz := Nat.lt_of_lt_of_le lz swc

      have hbc : Below wB.heap.size wB wc := hbb.trans (hqwc.mono sb)
      have sbc := hbc.size
      clear hx k0 k1 hvx hvy hR hea
      go_upto_region 11 with fail
      rw [← hwc]
      clear hwc q0 q1
      have hcr := HE.out.2.2.2
      have hcv := HE.out.2.2.1
      go_wp2_with fail
      refine (canonicalI_any _ _ _ (xa, ya) (HR.out.below hbc)).mono ?_
      rw [hcr, hcv]
      rintro e4 w4 ⟨ya1, yb1, rfl, ho4, hb4⟩
      have s4 := hb4.size
      have p0 := oldc hb4 lp p0
      have p1 := oldc hb4 lp p1
      have z0 := oldc hb4 lz z0
      have z1 := oldc hb4 lz z1
      have t0 := oldc hb4 lt t0
      have t1 := oldc hb4 lt t1
      have lp := Nat.lt_of_lt_of_le lp s4
      have lz := Nat.lt_of_lt_of_le lz s4
      have lt := Nat.lt_of_lt_of_le lt s4

      obtain ⟨ha4, hb4'⟩ := ho4.rd.two rfl
      obtain ⟨f1a, f1n, f1c, rfl, -⟩ := ha4.shape
      obtain ⟨f2a, f2n, f2c, rfl, -⟩ := hb4'.shape
      obtain ⟨wd, hwd⟩ : ∃ W : World, W = w4.alloc (.cells #[.slice f1a f1n f1c, .slice f2a f2n f2c] 30) := ⟨_, rfl⟩
      have hqwd : Below w4.heap.size w4 wd := by rw [hwd]; exact (Below.refl _ _).alloc (Nat.le_refl _) _
      have y0 : wd.cell? ⟨w4.heap.size, 0, none⟩ = some (.slice f1a f1n f1c) := by rw [hwd]; simp [go_sem]
      have y1 : wd.cell? ⟨w4.heap.size, 1, none⟩ = some (.slice f2a f2n f2c) := by rw [hwd]; simp [go_sem]
      have ly : w4.heap.size < wd.heap.size := by rw [hwd]; simp
      have swd := hqwd.size
      have p0 := oldc hqwd lp p0
      have p1 := oldc hqwd lp p1
      have z0 := oldc hqwd lz z0
      have z1 := oldc hqwd lz z1
      have t0 := oldc hqwd lt t0
      have t1 := oldc hqwd lt t1
      have lp := Nat.lt_of_lt_of_le lp swd
      have lz := Nat.lt_of_lt_of_le lz swd
      have lt := Nat.lt_of_lt_of_le lt swd

      have HY1 := Lib.hid (ha4.below hqwd)
      have HY2 := Lib.hid (hb4'.below hqwd)
      have hbd : Below wB.heap.size wB wd := (hbc.trans (hb4.mono sbc)).trans (hqwd.mono (by omega))
      have sbd := hbd.size
      clear ho4 ha4 hb4' hb4 hcr hcv
      go_upto_region 12 with fail
      rw [← hwd]
      clear hwd
      go_wp2_with fail
      refine (isRegI_b _ _ _ (xa, ya) (HR.out.below hbd) (by dsimp only; omega) true HE.out.2.1.symm).mono ?_
      rintro e5 w5 ⟨rfl, hb5⟩
      have s5 := hb5.size
      have p0 := oldc hb5 lp p0
      have p1 := oldc hb5 lp p1
      have z0 := oldc hb5 lz z0
      have z1 := oldc hb5 lz z1
      have t0 := oldc hb5 lt t0
      have t1 := oldc hb5 lt t1
      have y0 := oldc hb5 ly y0
      have y1 := oldc hb5 ly y1
      have lp := Nat.lt_of_lt_of_le lp s5
      have lz := Nat.lt_of_lt_of_le lz s5
      have lt := Nat.lt_of_lt_of_le lt s5
      have ly := Nat.lt_of_lt_of_le ly s5

      have hb5c : Below wB.heap.size wB w5 := hbd.trans (hb5.mono sbd)
      have sb5 := hb5c.size
      go_wp2_with fail
      refine (ints_b _ _ _ xa xa (HY1.out.below hb5) (HVX.out.below hb5c) true (by simp)).mono ?_
      rintro e6 w6 ⟨rfl, hb6⟩
      have s6 := hb6.size
      have p0 := oldc hb6 lp p0
      have p1 := oldc hb6 lp p1
      have z0 := oldc hb6 lz z0
      have z1 := oldc hb6 lz z1
      have t0 := oldc hb6 lt t0
      have t1 := oldc hb6 lt t1
      have y0 := oldc hb6 ly y0
      have y1 := oldc hb6 ly y1
      have lp := Nat.lt_of_lt_of_le lp s6
      have lz := Nat.lt_of_lt_of_le lz s6
      have lt := Nat.lt_of_lt_of_le lt s6
      have ly := Nat.lt_of_lt_of_le ly s6

      have hb6c : Below wB.heap.size wB w6 := hb5c.trans (hb6.mono sb5)
      have sb6 := hb6c.size
      go_wp2_with fail
      refine (ints_b _ _ _ ya ya ((HY2.out.below hb5).below hb6) (HVY.out.below hb6c) true (by simp)).mono ?_
      rintro e7 w7 ⟨rfl, hb7⟩
      have s7 := hb7.size
      have p0 := oldc hb7 lp p0
      have p1 := oldc hb7 lp p1
      have z0 := oldc hb7 lz z0
      have z1 := oldc hb7 lz z1
      have t0 := oldc hb7 lt t0
      have t1 := oldc hb7 lt t1
      have lp := Nat.lt_of_lt_of_le lp s7
      have lz := Nat.lt_of_lt_of_le lz s7
      have lt := Nat.lt_of_lt_of_le lt s7

      have hb7c : Below wB.heap.size wB w7 := hb6c.trans (hb7.mono sb6)
      have sb7 := hb7c.size
      clear hb5 hb6 hb7 HY1 HY2 y0 y1
      obtain ⟨K1, K2⟩ := K
      obtain ⟨q1, hlet_q1⟩ : ∃ r, r = decide (xa = K1) := ⟨_, rfl⟩
      have HQ1 := Lib.hid hlet_q1
      clear hlet_q1
      obtain ⟨q2, hlet_q2⟩ : ∃ r, r = decide (ya = K2) := ⟨_, rfl⟩
      have HQ2 := Lib.hid hlet_q2
      clear hlet_q2
      have HN := Lib.hid (show decide ((K1, K2) ∈ L.take (i + 1)) = (b || (q1 && q2)) by rw [mem_next HXX.out, ← HB.out, pair_dec (r := (xa, ya)) (k := (K1, K2)) HQ1.out HQ2.out])
      cases b
      · go_wp2_with fail
        refine (ints_b _ _ _ xa K1 (HVX.out.below hb7c) (HKW.out.below hb7c) q1 HQ1.out).mono ?_
        rintro e8 w8 ⟨rfl, hb8⟩
        have s8 := hb8.size
        have p0 := oldc hb8 lp p0
        have p1 := oldc hb8 lp p1
        have z0 := oldc hb8 lz z0
        have z1 := oldc hb8 lz z1
        have t0 := oldc hb8 lt t0
        have t1 := oldc hb8 lt t1
        have lp := Nat.lt_of_lt_of_le lp s8
        have lz := Nat.lt_of_lt_of_le lz s8
        have lt := Nat.lt_of_lt_of_le lt s8

        have hb8c : Below wB.heap.size wB w8 := hb7c.trans (hb8.mono sb7)
        have sb8 := hb8c.size
        clear hb8
        cases q1
        · have HN2 := Lib.hid (show false = decide ((K1, K2) ∈ L.take (i + 1)) from HN.out.symm)
          clear HN HB
          go_wp2
          go_roundw
          case rel => exact ⟨i + 1, false, by omega, by go_num, rfl, HN2, hb8c⟩
          case measure => simp [intOf]; omega
        · have HN2 := Lib.hid (show q2 = decide ((K1, K2) ∈ L.take (i + 1)) from HN.out.symm)
          clear HN HB
          go_wp2_with fail
          refine (ints_b _ _ _ ya K2 (HVY.out.below hb8c) (HKC.out.below hb8c) q2 HQ2.out).mono ?_
          rintro e9 w9 ⟨rfl, hb9⟩
          have hb9c : Below wB.heap.size wB w9 := hb8c.trans (hb9.mono sb8)
          clear hb9
          go_wp2
          go_roundw
          case rel => exact ⟨i + 1, q2, by omega, by go_num, rfl, HN2, hb9c⟩
          case measure => simp [intOf]; omega
      · have HN2 := Lib.hid (show true = decide ((K1, K2) ∈ L.take (i + 1)) from HN.out.symm)
        clear HN HB
        go_wp2
        go_roundw
        case rel => exact ⟨i + 1, true, by omega, by go_num, rfl, HN2, hb7c⟩
        case measure => simp [intOf]; omega
    · obtain rfl : i = L.length := by omega
      have hI : ¬ (L.length : Int) < (L.length : Int) := by omega
      have HBR := Lib.hid (show b = isReg c by rw [HB.out, List.take_length]; exact HLST.out)
      have hBb : Below w.heap.size w wb := hBB.trans (hbb.mono hBB.size)
      have HCb := Lib.hid (HC.out.below hbb)
      clear HB HL HKW HKC HC z0 z1
      go_wp2_with fail
      refine (fresh_any _ _ code (HH0.out.below hBb) hq1 3 (by omega) (by omega)).mono ?_
      rintro e4 w4 ⟨fv, fs, rfl, hof, hlf, hb4⟩
      have s4 := hb4.size
      have p0 := oldc hb4 lp p0
      have p1 := oldc hb4 lp p1
      have lp := Nat.lt_of_lt_of_le lp s4

      have HF := Lib.hid hof.rd
      have HC4 := Lib.hid (HCb.out.below hb4)
      have hb4w : Below w.heap.size w w4 := hBb.trans (hb4.mono hBb.size)
      have sb4 := hb4w.size
      clear hof hb4 HCb
      go_wp2_with fail
      refine (makeClasses_any _ _ fs HF.out (by omega) 2 (by omega) (by omega)).mono ?_
      rintro e5 w5 ⟨da, db, d, rfl, hod, hdl, hb5⟩
      have s5 := hb5.size
      have p0 := oldc hb5 lp p0
      have p1 := oldc hb5 lp p1
      have lp := Nat.lt_of_lt_of_le lp s5

      obtain ⟨ad, nd, kd, bd, md, ld, rfl, rfl⟩ := shapeCls hod.rd
      have hd2 : d.1.length ≤ 2 := hdl.out.2
      have HPL := Lib.hid (prod_law HCC.out hc4 hdl.out.1 hd2)
      obtain ⟨wE, hwE⟩ : ∃ W : World, W = w5.alloc (.cells #[.slice ad nd kd, .slice bd md ld] 30) := ⟨_, rfl⟩
      have hqwE : Below w5.heap.size w5 wE := by rw [hwE]; exact (Below.refl _ _).alloc (Nat.le_refl _) _
      have v0 : wE.cell? ⟨w5.heap.size, 0, none⟩ = some (.slice ad nd kd) := by rw [hwE]; simp [go_sem]
      have v1 : wE.cell? ⟨w5.heap.size, 1, none⟩ = some (.slice bd md ld) := by rw [hwE]; simp [go_sem]
      have lv : w5.heap.size < wE.heap.size := by rw [hwE]; simp
      have swE := hqwE.size
      have p0 := oldc hqwE lp p0
      have p1 := oldc hqwE lp p1
      have lp := Nat.lt_of_lt_of_le lp swE

      have HDE := Lib.hid (hod.rd.below hqwE)
      have HCE := Lib.hid ((HC4.out.below hb5).below hqwE)
      have hEw : Below w.heap.size w wE := (hb4w.trans (hb5.mono sb4)).trans (hqwE.mono (by omega))
      have sEw := hEw.size
      clear hod hdl hb5 HC4 HF
      go_upto_region 17 with fail
      rw [← hwE]
      clear hwE
      have hpv := HPL.out.1
      go_wp2_with fail
      refine (prodI_any _ _ _ _ _ c d HCE.out HDE.out).mono ?_
      rw [hpv]
      rintro e6 w6 ⟨za, zb, rfl, ho6, hb6⟩
      have s6 := hb6.size
      have p0 := oldc hb6 lp p0
      have p1 := oldc hb6 lp p1
      have v0 := oldc hb6 lv v0
      have v1 := oldc hb6 lv v1
      have lp := Nat.lt_of_lt_of_le lp s6
      have lv := Nat.lt_of_lt_of_le lv s6

      obtain ⟨az, nz, kz, bz, mz, lz2, rfl, rfl⟩ := shapeCls ho6.rd
      obtain ⟨wG, hwG⟩ : ∃ W : World, W = w6.alloc (.cells #[.slice az nz kz, .slice bz mz lz2] 30) := ⟨_, rfl⟩
      have hqwG : Below w6.heap.size w6 wG := by rw [hwG]; exact (Below.refl _ _).alloc (Nat.le_refl _) _
      have g0 : wG.cell? ⟨w6.heap.size, 0, none⟩ = some (.slice az nz kz) := by rw [hwG]; simp [go_sem]
      have g1 : wG.cell? ⟨w6.heap.size, 1, none⟩ = some (.slice bz mz lz2) := by rw [hwG]; simp [go_sem]
      have lg : w6.heap.size < wG.heap.size := by rw [hwG]; simp
      have swG := hqwG.size
      have p0 := oldc hqwG lp p0
      have p1 := oldc hqwG lp p1
      have v0 := oldc hqwG lv v0
      have v1 := oldc hqwG lv v1
      have lp := Nat.lt_of_lt_of_le lp swG
      have lv := Nat.lt_of_lt_of_le lv swG

      have HZG := Lib.hid (ho6.rd.below hqwG)
      have HDG := Lib.hid ((HDE.out.below hb6).below hqwG)
      have HCG := Lib.hid ((HCE.out.below hb6).below hqwG)
      have hGw : Below w.heap.size w wG := (hEw.trans (hb6.mono sEw)).trans (hqwG.mono (by omega))
      have sGw := hGw.size
      have HZL := Lib.hid (prodC_len c d)
      obtain ⟨Z, hZ⟩ : ∃ Z, Z = prodC c d := ⟨_, rfl⟩
      rw [← hZ] at HZG HZL HPL
      obtain ⟨fc, hlet_fc⟩ : ∃ r, r = forb c := ⟨_, rfl⟩
      have HFC := Lib.hid hlet_fc
      clear hlet_fc
      obtain ⟨fd, hlet_fd⟩ : ∃ r, r = forb d := ⟨_, rfl⟩
      have HFD := Lib.hid hlet_fd
      clear hlet_fd
      have HFZ := Lib.hid (show (fc || fd) = forb Z by rw [HPL.out.2, HFC.out, HFD.out])
      clear ho6 hb6 hpv HPL hZ HDE HCE
      go_upto_region 18 with fail
      rw [← hwG]
      clear hwG
      cases fc
      · refine wp_region_held_drew (S := (fun w' => w'.cell? ⟨W1.heap.size, 0, none⟩ = some (.slice ac c.1.length kc) ∧ w'.cell? ⟨W1.heap.size, 1, none⟩ = some (.slice bc mc lc) ∧ w'.cell? ⟨w5.heap.size, 0, none⟩ = some (.slice ad nd kd) ∧ w'.cell? ⟨w5.heap.size, 1, none⟩ = some (.slice bd md ld) ∧ w'.cell? ⟨w6.heap.size, 0, none⟩ = some (.slice az nz kz) ∧ w'.cell? ⟨w6.heap.size, 1, none⟩ = some (.slice bz mz lz2))) (by kernel_rfl) ?_ (fun hHeld => ?_)
        · first | exact trivial | ((try dsimp only); go_keep)
        refine tkR 0 (v := ?_) ?_ ?_
        rotate_left
        · intro w hSw; (try dsimp only at hSw); go_simp <;> with_reducible rfl
        try simp only [Act.put, List.setIfInBounds_toArray, List.set_cons_zero, List.set_cons_succ]
        refine tkR 1 (v := ?_) ?_ ?_
        rotate_left
        · intro w hSw; (try dsimp only at hSw); go_simp <;> with_reducible rfl
        try simp only [Act.put, List.setIfInBounds_toArray, List.set_cons_zero, List.set_cons_succ]
        refine tkR 2 (v := ?_) ?_ ?_
        rotate_left
        · intro w hSw; (try dsimp only at hSw); go_simp <;> with_reducible rfl
        try simp only [Act.put, List.setIfInBounds_toArray, List.set_cons_zero, List.set_cons_succ]
        refine tkR 3 (v := ?_) ?_ ?_
        rotate_left
        · intro w hSw; (try dsimp only at hSw); go_simp <;> with_reducible rfl
        try simp only [Act.put, List.setIfInBounds_toArray, List.set_cons_zero, List.set_cons_succ]
        refine wpAnyH_ready (rs := [4]) (by kernel_rfl) (by simp) ?_
        refine rdR (fun K hK => ?_) ?_
        · go_simp
          refine (isRegI_b _ _ _ c (HCG.out.below ?b0) (by omega) b HBR.out).mono ?_
          case b0 => exact bwT
          rintro ex1 x1 ⟨rfl, hbx1⟩
          have hpx1 : Below wG.heap.size wG x1 := Below.trans (show Below wG.heap.size wG _ from bwT) (hbx1.mono szT)
          have sx1 := hpx1.size
          have hSx1 := And.intro (oldc hpx1 lp p0) (And.intro (oldc hpx1 lp p1) (And.intro (oldc hpx1 lv v0) (And.intro (oldc hpx1 lv v1) (And.intro (oldc hpx1 lg g0) (oldc hpx1 lg g1)))))
          clear hbx1
          refine hK.out _ _ ?_ (fun hHeld => ?_)
          · exact kpT
          clear hK K
          try simp only [Act.put, List.setIfInBounds_toArray, List.set_cons_zero, List.set_cons_succ]
          refine tkR 5 (v := ?_) ?_ ?_
          rotate_left
          · intro w hSw; (try dsimp only at hSw); go_simp <;> with_reducible rfl
          try simp only [Act.put, List.setIfInBounds_toArray, List.set_cons_zero, List.set_cons_succ]
          refine tkR 6 (v := ?_) ?_ ?_
          rotate_left
          · intro w hSw; (try dsimp only at hSw); go_simp <;> with_reducible rfl
          try simp only [Act.put, List.setIfInBounds_toArray, List.set_cons_zero, List.set_cons_succ]
          refine tkR 7 (v := ?_) ?_ ?_
          rotate_left
          · intro w hSw; (try dsimp only at hSw); go_simp <;> with_reducible rfl
          try simp only [Act.put, List.setIfInBounds_toArray, List.set_cons_zero, List.set_cons_succ]
          refine tkR 8 (v := ?_) ?_ ?_
          rotate_left
          · intro w hSw; (try dsimp only at hSw); go_simp <;> with_reducible rfl
          try simp only [Act.put, List.setIfInBounds_toArray, List.set_cons_zero, List.set_cons_succ]
          refine tkR 9 (v := ?_) ?_ ?_
          rotate_left
          · intro w hSw; (try dsimp only at hSw); go_simp <;> with_reducible rfl
          try simp only [Act.put, List.setIfInBounds_toArray, List.set_cons_zero, List.set_cons_succ]
          refine tkR 10 (v := ?_) ?_ ?_
          rotate_left
          · intro w hSw; (try dsimp only at hSw); go_simp <;> with_reducible rfl
          try simp only [Act.put, List.setIfInBounds_toArray, List.set_cons_zero, List.set_cons_succ]
          refine tkR 11 (v := ?_) ?_ ?_
          rotate_left
          · intro w hSw; (try dsimp only at hSw); go_simp <;> with_reducible rfl
          try simp only [Act.put, List.setIfInBounds_toArray, List.set_cons_zero, List.set_cons_succ]
          refine tkR 13 (v := ?_) ?_ ?_
          rotate_left
          · intro w hSw; (try dsimp only at hSw); go_simp <;> with_reducible rfl
          try simp only [Act.put, List.setIfInBounds_toArray, List.set_cons_zero, List.set_cons_succ]
          refine wpAnyH_ready (rs := [12]) (by kernel_rfl) (by simp) ?_
          refine rdR (fun K hK => ?_) ?_
          · go_simp
            refine (forbI_b _ _ _ Z (HZG.out.below ?b0) (by have := HZL.out.1; omega) fd HFZ.out).mono ?_
            case b0 => exact bwT
            rintro ex2 x2 ⟨rfl, hbx2⟩
            have hpx2 : Below wG.heap.size wG x2 := Below.trans (show Below wG.heap.size wG _ from bwT) (hbx2.mono szT)
            have sx2 := hpx2.size
            have hSx2 := And.intro (oldc hpx2 lp p0) (And.intro (oldc hpx2 lp p1) (And.intro (oldc hpx2 lv v0) (And.intro (oldc hpx2 lv v1) (And.intro (oldc hpx2 lg g0) (oldc hpx2 lg g1)))))
            clear hbx2
            refine hK.out _ _ ?_ (fun hHeld => ?_)
            · exact kpT
            clear hK K
            try simp only [Act.put, List.setIfInBounds_toArray, List.set_cons_zero, List.set_cons_succ]
            refine wpAnyH_ready (rs := [14]) (by kernel_rfl) (by simp) ?_
            refine rdR (fun K hK => ?_) ?_
            · go_simp
              refine (forbI_b _ _ _ c (HCG.out.below ?b0) (by omega) false HFC.out).mono ?_
              case b0 => exact bwT
              rintro ex3 x3 ⟨rfl, hbx3⟩
              have hpx3 : Below wG.heap.size wG x3 := Below.trans (show Below wG.heap.size wG _ from bwT) (hbx3.mono szT)
              have sx3 := hpx3.size
              have hSx3 := And.intro (oldc hpx3 lp p0) (And.intro (oldc hpx3 lp p1) (And.intro (oldc hpx3 lv v0) (And.intro (oldc hpx3 lv v1) (And.intro (oldc hpx3 lg g0) (oldc hpx3 lg g1)))))
              clear hbx3
              refine hK.out _ _ ?_ (fun hHeld => ?_)
              · exact kpT
              clear hK K
              try simp only [Act.put, List.setIfInBounds_toArray, List.set_cons_zero, List.set_cons_succ]
              refine tkR 15 (v := ?_) ?_ ?_
              rotate_left
              · intro w hSw; (try dsimp only at hSw); go_simp <;> with_reducible rfl
              try simp only [Act.put, List.setIfInBounds_toArray, List.set_cons_zero, List.set_cons_succ]
              refine tkR 16 (v := ?_) ?_ ?_
              rotate_left
              · intro w hSw; (try dsimp only at hSw); go_simp <;> with_reducible rfl
              try simp only [Act.put, List.setIfInBounds_toArray, List.set_cons_zero, List.set_cons_succ]
              refine wpAnyH_ready (rs := [17]) (by kernel_rfl) (by simp) ?_
              refine rdR (fun K hK => ?_) ?_
              · go_simp
                refine (forbI_b _ _ _ d (HDG.out.below ?b0) (by omega) fd HFD.out).mono ?_
                case b0 => exact bwT
                rintro ex4 x4 ⟨rfl, hbx4⟩
                have hpx4 : Below wG.heap.size wG x4 := Below.trans (show Below wG.heap.size wG _ from bwT) (hbx4.mono szT)
                have sx4 := hpx4.size
                have hSx4 := And.intro (oldc hpx4 lp p0) (And.intro (oldc hpx4 lp p1) (And.intro (oldc hpx4 lv v0) (And.intro (oldc hpx4 lv v1) (And.intro (oldc hpx4 lg g0) (oldc hpx4 lg g1)))))
                clear hbx4
                refine hK.out _ _ ?_ (fun hHeld => ?_)
                · exact kpT
                clear hK K
                try simp only [Act.put, List.setIfInBounds_toArray, List.set_cons_zero, List.set_cons_succ]
                refine tkR 18 (v := ?_) ?_ ?_
                rotate_left
                · intro w hSw; (try dsimp only at hSw); go_simp <;> with_reducible rfl
                try simp only [Act.put, List.setIfInBounds_toArray, List.set_cons_zero, List.set_cons_succ]
                refine tkR 19 (v := ?_) ?_ ?_
                rotate_left
                · intro w hSw; (try dsimp only at hSw); go_simp <;> with_reducible rfl
                try simp only [Act.put, List.setIfInBounds_toArray, List.set_cons_zero, List.set_cons_succ]
                refine tkR 20 (v := ?_) ?_ ?_
                rotate_left
                · intro w hSw; (try dsimp only at hSw); go_simp <;> with_reducible rfl
                try simp only [Act.put, List.setIfInBounds_toArray, List.set_cons_zero, List.set_cons_succ]
                refine tkR 21 (v := ?_) ?_ ?_
                rotate_left
                · intro w hSw; (try dsimp only at hSw); go_simp <;> with_reducible rfl
                try simp only [Act.put, List.setIfInBounds_toArray, List.set_cons_zero, List.set_cons_succ]
                refine wpAnyH_done (by kernel_rfl) ?_ _
                clear hHeld
                go_wp2
                go_ret
                exact ⟨ret_bool (by simp), hGw.trans (hpx4.mono sGw)⟩
              exact AllReadyH.nil
            exact AllReadyH.nil
          exact AllReadyH.nil
        exact AllReadyH.nil
      · refine wp_region_held_drew (S := (fun w' => w'.cell? ⟨W1.heap.size, 0, none⟩ = some (.slice ac c.1.length kc) ∧ w'.cell? ⟨W1.heap.size, 1, none⟩ = some (.slice bc mc lc) ∧ w'.cell? ⟨w5.heap.size, 0, none⟩ = some (.slice ad nd kd) ∧ w'.cell? ⟨w5.heap.size, 1, none⟩ = some (.slice bd md ld) ∧ w'.cell? ⟨w6.heap.size, 0, none⟩ = some (.slice az nz kz) ∧ w'.cell? ⟨w6.heap.size, 1, none⟩ = some (.slice bz mz lz2))) (by kernel_rfl) ?_ (fun hHeld => ?_)
        · first | exact trivial | ((try dsimp only); go_keep)
        refine tkR 0 (v := ?_) ?_ ?_
        rotate_left
        · intro w hSw; (try dsimp only at hSw); go_simp <;> with_reducible rfl
        try simp only [Act.put, List.setIfInBounds_toArray, List.set_cons_zero, List.set_cons_succ]
        refine tkR 1 (v := ?_) ?_ ?_
        rotate_left
        · intro w hSw; (try dsimp only at hSw); go_simp <;> with_reducible rfl
        try simp only [Act.put, List.setIfInBounds_toArray, List.set_cons_zero, List.set_cons_succ]
        refine tkR 2 (v := ?_) ?_ ?_
        rotate_left
        · intro w hSw; (try dsimp only at hSw); go_simp <;> with_reducible rfl
        try simp only [Act.put, List.setIfInBounds_toArray, List.set_cons_zero, List.set_cons_succ]
        refine tkR 3 (v := ?_) ?_ ?_
        rotate_left
        · intro w hSw; (try dsimp only at hSw); go_simp <;> with_reducible rfl
        try simp only [Act.put, List.setIfInBounds_toArray, List.set_cons_zero, List.set_cons_succ]
        refine wpAnyH_ready (rs := [4]) (by kernel_rfl) (by simp) ?_
        refine rdR (fun K hK => ?_) ?_
        · go_simp
          refine (isRegI_b _ _ _ c (HCG.out.below ?b0) (by omega) b HBR.out).mono ?_
          case b0 => exact bwT
          rintro ex1 x1 ⟨rfl, hbx1⟩
          have hpx1 : Below wG.heap.size wG x1 := Below.trans (show Below wG.heap.size wG _ from bwT) (hbx1.mono szT)
          have sx1 := hpx1.size
          have hSx1 := And.intro (oldc hpx1 lp p0) (And.intro (oldc hpx1 lp p1) (And.intro (oldc hpx1 lv v0) (And.intro (oldc hpx1 lv v1) (And.intro (oldc hpx1 lg g0) (oldc hpx1 lg g1)))))
          clear hbx1
          refine hK.out _ _ ?_ (fun hHeld => ?_)
          · exact kpT
          clear hK K
          try simp only [Act.put, List.setIfInBounds_toArray, List.set_cons_zero, List.set_cons_succ]
          refine tkR 5 (v := ?_) ?_ ?_
          rotate_left
          · intro w hSw; (try dsimp only at hSw); go_simp <;> with_reducible rfl
          try simp only [Act.put, List.setIfInBounds_toArray, List.set_cons_zero, List.set_cons_succ]
          refine tkR 6 (v := ?_) ?_ ?_
          rotate_left
          · intro w hSw; (try dsimp only at hSw); go_simp <;> with_reducible rfl
          try simp only [Act.put, List.setIfInBounds_toArray, List.set_cons_zero, List.set_cons_succ]
          refine tkR 7 (v := ?_) ?_ ?_
          rotate_left
          · intro w hSw; (try dsimp only at hSw); go_simp <;> with_reducible rfl
          try simp only [Act.put, List.setIfInBounds_toArray, List.set_cons_zero, List.set_cons_succ]
          refine tkR 8 (v := ?_) ?_ ?_
          rotate_left
          · intro w hSw; (try dsimp only at hSw); go_simp <;> with_reducible rfl
          try simp only [Act.put, List.setIfInBounds_toArray, List.set_cons_zero, List.set_cons_succ]
          refine tkR 9 (v := ?_) ?_ ?_
          rotate_left
          · intro w hSw; (try dsimp only at hSw); go_simp <;> with_reducible rfl
          try simp only [Act.put, List.setIfInBounds_toArray, List.set_cons_zero, List.set_cons_succ]
          refine tkR 10 (v := ?_) ?_ ?_
          rotate_left
          · intro w hSw; (try dsimp only at hSw); go_simp <;> with_reducible rfl
          try simp only [Act.put, List.setIfInBounds_toArray, List.set_cons_zero, List.set_cons_succ]
          refine tkR 11 (v := ?_) ?_ ?_
          rotate_left
          · intro w hSw; (try dsimp only at hSw); go_simp <;> with_reducible rfl
          try simp only [Act.put, List.setIfInBounds_toArray, List.set_cons_zero, List.set_cons_succ]
          refine tkR 13 (v := ?_) ?_ ?_
          rotate_left
          · intro w hSw; (try dsimp only at hSw); go_simp <;> with_reducible rfl
          try simp only [Act.put, List.setIfInBounds_toArray, List.set_cons_zero, List.set_cons_succ]
          refine wpAnyH_ready (rs := [12]) (by kernel_rfl) (by simp) ?_
          refine rdR (fun K hK => ?_) ?_
          · go_simp
            refine (forbI_b _ _ _ Z (HZG.out.below ?b0) (by have := HZL.out.1; omega) true HFZ.out).mono ?_
            case b0 => exact bwT
            rintro ex2 x2 ⟨rfl, hbx2⟩
            have hpx2 : Below wG.heap.size wG x2 := Below.trans (show Below wG.heap.size wG _ from bwT) (hbx2.mono szT)
            have sx2 := hpx2.size
            have hSx2 := And.intro (oldc hpx2 lp p0) (And.intro (oldc hpx2 lp p1) (And.intro (oldc hpx2 lv v0) (And.intro (oldc hpx2 lv v1) (And.intro (oldc hpx2 lg g0) (oldc hpx2 lg g1)))))
            clear hbx2
            refine hK.out _ _ ?_ (fun hHeld => ?_)
            · exact kpT
            clear hK K
            try simp only [Act.put, List.setIfInBounds_toArray, List.set_cons_zero, List.set_cons_succ]
            refine wpAnyH_ready (rs := [14]) (by kernel_rfl) (by simp) ?_
            refine rdR (fun K hK => ?_) ?_
            · go_simp
              refine (forbI_b _ _ _ c (HCG.out.below ?b0) (by omega) true HFC.out).mono ?_
              case b0 => exact bwT
              rintro ex3 x3 ⟨rfl, hbx3⟩
              have hpx3 : Below wG.heap.size wG x3 := Below.trans (show Below wG.heap.size wG _ from bwT) (hbx3.mono szT)
              have sx3 := hpx3.size
              have hSx3 := And.intro (oldc hpx3 lp p0) (And.intro (oldc hpx3 lp p1) (And.intro (oldc hpx3 lv v0) (And.intro (oldc hpx3 lv v1) (And.intro (oldc hpx3 lg g0) (oldc hpx3 lg g1)))))
              clear hbx3
              refine hK.out _ _ ?_ (fun hHeld => ?_)
              · exact kpT
              clear hK K
              try simp only [Act.put, List.setIfInBounds_toArray, List.set_cons_zero, List.set_cons_succ]
              refine tkR 15 (v := ?_) ?_ ?_
              rotate_left
              · intro w hSw; (try dsimp only at hSw); go_simp <;> with_reducible rfl
              try simp only [Act.put, List.setIfInBounds_toArray, List.set_cons_zero, List.set_cons_succ]
              refine skR 16 ?_
              try simp only [Act.put, List.setIfInBounds_toArray, List.set_cons_zero, List.set_cons_succ]
              refine skR 17 ?_
              try simp only [Act.put, List.setIfInBounds_toArray, List.set_cons_zero, List.set_cons_succ]
              refine tkR 18 (v := ?_) ?_ ?_
              rotate_left
              · intro w hSw; (try dsimp only at hSw); go_simp <;> with_reducible rfl
              try simp only [Act.put, List.setIfInBounds_toArray, List.set_cons_zero, List.set_cons_succ]
              refine tkR 19 (v := ?_) ?_ ?_
              rotate_left
              · intro w hSw; (try dsimp only at hSw); go_simp <;> with_reducible rfl
              try simp only [Act.put, List.setIfInBounds_toArray, List.set_cons_zero, List.set_cons_succ]
              refine tkR 20 (v := ?_) ?_ ?_
              rotate_left
              · intro w hSw; (try dsimp only at hSw); go_simp <;> with_reducible rfl
              try simp only [Act.put, List.setIfInBounds_toArray, List.set_cons_zero, List.set_cons_succ]
              refine tkR 21 (v := ?_) ?_ ?_
              rotate_left
              · intro w hSw; (try dsimp only at hSw); go_simp <;> with_reducible rfl
              try simp only [Act.put, List.setIfInBounds_toArray, List.set_cons_zero, List.set_cons_succ]
              refine wpAnyH_done (by kernel_rfl) ?_ _
              clear hHeld
              go_wp2
              go_ret
              exact ⟨ret_bool (by simp), hGw.trans (hpx3.mono sGw)⟩
            exact AllReadyH.nil
          exact AllReadyH.nil
        exact AllReadyH.nil
end Go.Proofs.Ytlnhhfebmeekhaa
