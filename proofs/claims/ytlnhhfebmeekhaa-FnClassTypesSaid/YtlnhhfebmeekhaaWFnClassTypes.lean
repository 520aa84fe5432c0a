/- The walk of the law FnClassTypes. -/
import Derived.Test.YtlnhhfebmeekhaaCLaw
import Derived.Test.YtlnhhfebmeekhaaDrwC
import Derived.Test.YtlnhhfebmeekhaaDrwT
namespace Go.Proofs.Ytlnhhfebmeekhaa
set_option linter.unusedVariables false
set_option linter.unusedSimpArgs false
open Go.RowKit

theorem any_take2 {l : Pms} {i : Nat} {g x : List Int} (h : l[i]? = some g) : decide (x ∈ l.take (i + 1)) = (decide (x ∈ l.take i) || decide (g = x)) := by
  rw [take_snoc h]
  by_cases h1 : x ∈ l.take i <;> by_cases h2 : g = x <;> simp_all [eq_comm]
set_option maxRecDepth 20000 in
set_option maxHeartbeats 40000000 in
theorem walk_FnClassTypes (w : World) (c0a : Value) (code : List UInt8) (h0 : Rd false 0 w.heap.size w [c0a] code) :
    Calls Try.prog 6 #[c0a] w (PostB w true) := by
  obtain ⟨ao0, len0, cap0, hcs0, hln0, hcn0, hcm0, -⟩ := h0.shape
  subst hcs0
  subst hln0
  unfold maxLen at hcm0
  have hle0 : code.length ≤ 9223372036854775807 := by omega
  clear hcm0 hcn0
  by_cases hg0 : 1048576 < code.length
  · go_enter Try.func6, Try.ntmps6
    go_wp2
    go_ret
    exact ⟨rfl, bwT⟩
  have hq1 : code.length ≤ 1048576 := by omega
  go_enter Try.func6, Try.ntmps6
  go_wp2_with fail
  refine (makeClasses_any _ _ code (h0.below bwT) hq1 5 (by omega) (by omega)).mono ?_
  rintro e1 w1 ⟨ca, cb, c, rfl, hoc, hcl, hbw1⟩
  have hpw1 : Below w.heap.size w w1 := Below.after bwT hbw1 szT
  have sw1 := hpw1.size
  have hBw1 : Below w.heap.size w w1 := hpw1
  clear hbw1 hpw1
  obtain ⟨ac, nc, kc, bc, mc, lc, rfl, rfl⟩ := shapeCls hoc.rd
  obtain ⟨_, _, _, e3, hn3, -⟩ := (hoc.rd.two rfl).1.shape
  simp only [Value.slice.injEq] at e3
  obtain ⟨-, rfl, -⟩ := e3
  subst hn3
  have hc5 : c.1.length ≤ 5 := hcl.out.2
  have HC := Lib.hid hcl.out.1
  clear hcl
  go_wp2_with fail
  refine (fresh_any _ _ code (h0.below bwT) hq1 3 (by omega) (by omega)).mono ?_
  rintro e2 w2 ⟨fa, ys, rfl, hofa, hlfa, hbw2⟩
  have hpw2 : Below w1.heap.size w1 w2 := Below.after bwT hbw2 szT
  have sw2 := hpw2.size
  have hBw2 : Below w.heap.size w w2 := Below.trans hBw1 (Below.mono hpw2 hBw1.size)
  have l_cc : w1.heap.size < w2.heap.size := by have := hbw2.size; simp at this; omega
  have q_cc0 : w2.cell? ⟨w1.heap.size, 0, none⟩ = some (.slice ac c.1.length kc) := oldc hbw2 ltT (by simp [go_sem])
  have q_cc1 : w2.cell? ⟨w1.heap.size, 1, none⟩ = some (.slice bc mc lc) := oldc hbw2 ltT (by simp [go_sem])
  replace hoc := Ow.below hoc hpw2
  clear hbw2 hpw2
  have z12 : w1.heap.size < w2.heap.size := l_cc
  go_wp2_with fail
  refine (makeType_any _ _ ys (hofa.rd.below bwT) (by omega) 4 (by omega) (by omega)).mono ?_
  rintro e3 w3 ⟨tv, t, rfl, hot, hkt, hbw3⟩
  have hpw3 : Below w2.heap.size w2 w3 := Below.after bwT hbw3 szT
  have sw3 := hpw3.size
  have hBw3 : Below w.heap.size w w3 := Below.trans hBw2 (Below.mono hpw3 hBw2.size)
  replace q_cc0 := oldc hpw3 l_cc q_cc0
  replace q_cc1 := oldc hpw3 l_cc q_cc1
  replace l_cc := Nat.lt_of_lt_of_le l_cc sw3
  replace hoc := Ow.below hoc hpw3
  clear hbw3 hpw3
  clear hofa
  obtain ⟨_, at1, nt1, kt1, _, rfl⟩ := shapeKin hot.rd
  have HKT := Lib.hid hkt.out.1
  have HET := Lib.hid hkt.out.2.2
  clear hkt
  go_wp2_with fail
  refine (fresh_any _ _ code (h0.below bwT) hq1 5 (by omega) (by omega)).mono ?_
  rintro e4 w4 ⟨fb, zs, rfl, hofb, hlfb, hbw4⟩
  have hpw4 : Below w3.heap.size w3 w4 := Below.after bwT hbw4 szT
  have sw4 := hpw4.size
  have hBw4 : Below w.heap.size w w4 := Below.trans hBw3 (Below.mono hpw4 hBw3.size)
  replace q_cc0 := oldc hpw4 l_cc q_cc0
  replace q_cc1 := oldc hpw4 l_cc q_cc1
  replace l_cc := Nat.lt_of_lt_of_le l_cc sw4
  have l_tt : w3.heap.size < w4.heap.size := by have := hbw4.size; simp at this; omega
  have q_tt0 : w4.cell? ⟨w3.heap.size, 0, none⟩ = some (.int .i64 t.1) := oldc hbw4 ltT (by simp [go_sem])
  have q_tt1 : w4.cell? ⟨w3.heap.size, 1, none⟩ = some (.slice at1 nt1 kt1) := oldc hbw4 ltT (by simp [go_sem])
  replace hoc := Ow.below hoc hpw4
  replace hot := Ow.below hot hpw4
  clear hbw4 hpw4
  have z34 : w3.heap.size < w4.heap.size := l_tt
  go_wp2_with fail
  refine (makeAnyType_any _ _ zs (hofb.rd.below bwT) (by omega) 4 (by omega) (by omega)).mono ?_
  rintro e5 w5 ⟨uv, u, rfl, hou, hku, hbw5⟩
  have hpw5 : Below w4.heap.size w4 w5 := Below.after bwT hbw5 szT
  have sw5 := hpw5.size
  have hBw5 : Below w.heap.size w w5 := Below.trans hBw4 (Below.mono hpw5 hBw4.size)
  replace q_cc0 := oldc hpw5 l_cc q_cc0
  replace q_cc1 := oldc hpw5 l_cc q_cc1
  replace q_tt0 := oldc hpw5 l_tt q_tt0
  replace q_tt1 := oldc hpw5 l_tt q_tt1
  replace l_cc := Nat.lt_of_lt_of_le l_cc sw5
  replace l_tt := Nat.lt_of_lt_of_le l_tt sw5
  replace hoc := Ow.below hoc hpw5
  replace hot := Ow.below hot hpw5
  clear hbw5 hpw5
  clear hofb
  obtain ⟨_, au1, nu1, ku1, _, rfl⟩ := shapeKin hou.rd
  have hul : u.2.length ≤ 4 := hku.out.2
  clear hku
  obtain ⟨p, l, HLA⟩ := ct_law HC.out hc5 HKT.out HET.out
  have HL := Lib.hid HLA
  obtain ⟨sx, hsx⟩ : ∃ s, s = sexOf t := ⟨_, rfl⟩
  have HSX := Lib.hid hsx
  clear HLA hsx
  go_wp2_with fail
  refine (sexOfS_any _ _ _ t (hot.rd.below bwT) HKT.out sx HSX.out).mono ?_
  rintro e6 w6 ⟨rfl, hbw6⟩
  have hpw6 : Below w5.heap.size w5 w6 := Below.after bwT hbw6 szT
  have sw6 := hpw6.size
  have hBw6 : Below w.heap.size w w6 := Below.trans hBw5 (Below.mono hpw6 hBw5.size)
  replace q_cc0 := oldc hpw6 l_cc q_cc0
  replace q_cc1 := oldc hpw6 l_cc q_cc1
  replace q_tt0 := oldc hpw6 l_tt q_tt0
  replace q_tt1 := oldc hpw6 l_tt q_tt1
  replace l_cc := Nat.lt_of_lt_of_le l_cc sw6
  replace l_tt := Nat.lt_of_lt_of_le l_tt sw6
  have l_uu : w5.heap.size < w6.heap.size := by have := hbw6.size; simp at this; omega
  have q_uu0 : w6.cell? ⟨w5.heap.size, 0, none⟩ = some (.int .i64 u.1) := oldc hbw6 ltT (by simp [go_sem])
  have q_uu1 : w6.cell? ⟨w5.heap.size, 1, none⟩ = some (.slice au1 nu1 ku1) := oldc hbw6 ltT (by simp [go_sem])
  have f_uu : ∀ o, w6.frozen? ⟨w5.heap.size, o, none⟩ = false := fun o => (hbw6.frozen (p := ⟨w5.heap.size, o, none⟩) ltT).trans (by simp [go_sem])
  replace hoc := Ow.below hoc hpw6
  replace hot := Ow.below hot hpw6
  replace hou := Ow.below hou hpw6
  clear hbw6 hpw6
  go_upto_region 7 with fail
  obtain ⟨wS, hwS⟩ : ∃ x : World, x = w6.setCell ⟨w5.heap.size, 0, none⟩ (.int .i64 sx) := ⟨_, rfl⟩
  have szS : wS.heap.size = w6.heap.size := by subst hwS; simp
  have s56 : w5.heap.size < w6.heap.size := by omega
  have hb5S : Below w5.heap.size w6 wS := by subst hwS; exact bwT
  have hBwS : Below w.heap.size w wS := hBw6.trans (hb5S.mono (by omega))
  have q_cc0 := oldc hb5S (by omega) q_cc0
  have q_cc1 := oldc hb5S (by omega) q_cc1
  have q_tt0 := oldc hb5S (by omega) q_tt0
  have q_tt1 := oldc hb5S (by omega) q_tt1
  have q_uu0 : wS.cell? ⟨w5.heap.size, 0, none⟩ = some (.int .i64 sx) := by subst hwS; exact cell_here q_uu0
  have q_uu1 : wS.cell? ⟨w5.heap.size, 1, none⟩ = some (.slice au1 nu1 ku1) := by subst hwS; exact cell_there q_uu1 (by omega)
  have HCS := Lib.hid ((hoc.rd.keep (w' := wS) ((Below.zone hb5S 0).mono (by omega) (by omega))).weak.all)
  have HTS := Lib.hid ((hot.rd.keep (w' := wS) ((Below.zone hb5S 0).mono (by omega) (by omega))).weak.all)
  have HUS := Lib.hid (show Rd false 0 wS.heap.size wS [.int .i64 sx, .slice au1 nu1 ku1] ((sx, u.2) : Kin) from Rd.kin_mk (by rw [HSX.out]; rcases HL.out.sx with h | h <;> rw [h] <;> unfold I64 <;> omega) ((hou.rd.kin.2.2.keep (w' := wS) ((Below.zone hb5S 0).mono (by omega) (by omega))).weak.all))
  rw [← hwS]
  clear hwS hoc hot hou f_uu
  obtain ⟨u2, hu2⟩ : ∃ x : Kin, x = (sx, u.2) := ⟨_, rfl⟩
  have HU2 := Lib.hid (show u2.1 = sexOf t by rw [hu2]; exact HSX.out)
  have hul2 : u2.2.length ≤ 4 := by rw [hu2]; exact hul
  rw [← hu2] at HUS
  clear hu2 hul
  have l_cc : w1.heap.size < wS.heap.size := by omega
  have l_tt : w3.heap.size < wS.heap.size := by omega
  have l_uu : w5.heap.size < wS.heap.size := by omega
  have hbS : Below wS.heap.size wS wS := Below.refl _ _
  go_wp2_with fail
  refine (typePmI_any _ _ _ _ _ c t ((HCS.out.below hbS).below bwT) ((HTS.out.below hbS).below bwT) (by omega) true HL.out.tv.symm).mono ?_
  rintro e7 w7 ⟨up, rfl, hop, hbw7⟩
  have hpw7 : Below wS.heap.size wS w7 := Below.after bwT hbw7 szT
  have sw7 := hpw7.size
  have hBw7 : Below w.heap.size w w7 := Below.trans hBwS (Below.mono hpw7 hBwS.size)
  replace q_cc0 := oldc hpw7 l_cc q_cc0
  replace q_cc1 := oldc hpw7 l_cc q_cc1
  replace q_tt0 := oldc hpw7 l_tt q_tt0
  replace q_tt1 := oldc hpw7 l_tt q_tt1
  replace q_uu0 := oldc hpw7 l_uu q_uu0
  replace q_uu1 := oldc hpw7 l_uu q_uu1
  replace l_cc := Nat.lt_of_lt_of_le l_cc sw7
  replace l_tt := Nat.lt_of_lt_of_le l_tt sw7
  replace l_uu := Nat.lt_of_lt_of_le l_uu sw7
  replace hbS := Below.trans hbS (Below.mono hpw7 (by omega))
  clear hbw7 hpw7
  rw [HL.out.tx] at hop
  have hpl : p.length ≤ 5 := by have := HL.out.pl; omega
  obtain ⟨ap, np, kp, rfl, hnp, -⟩ := hop.rd.shape
  subst hnp
  go_wp2_with fail
  refine (reverseI_any _ _ _ t ((HTS.out.below hbS).below bwT)).mono ?_
  rintro e8 w8 ⟨bkv, rfl, hobk, hbw8⟩
  have hpw8 : Below w7.heap.size w7 w8 := Below.after bwT hbw8 szT
  have sw8 := hpw8.size
  have hBw8 : Below w.heap.size w w8 := Below.trans hBw7 (Below.mono hpw8 hBw7.size)
  replace q_cc0 := oldc hpw8 l_cc q_cc0
  replace q_cc1 := oldc hpw8 l_cc q_cc1
  replace q_tt0 := oldc hpw8 l_tt q_tt0
  replace q_tt1 := oldc hpw8 l_tt q_tt1
  replace q_uu0 := oldc hpw8 l_uu q_uu0
  replace q_uu1 := oldc hpw8 l_uu q_uu1
  replace l_cc := Nat.lt_of_lt_of_le l_cc sw8
  replace l_tt := Nat.lt_of_lt_of_le l_tt sw8
  replace l_uu := Nat.lt_of_lt_of_le l_uu sw8
  replace hop := Ow.below hop hpw8
  replace hbS := Below.trans hbS (Below.mono hpw8 (by omega))
  clear hbw8 hpw8
  rw [HL.out.rv]
  obtain ⟨bk, hbk⟩ : ∃ x : Kin, x = revX t := ⟨_, rfl⟩
  rw [← hbk] at hobk ⊢
  have HBV := Lib.hid (show true = tpV c bk by rw [hbk]; exact HL.out.bv.symm)
  have HBX := Lib.hid (show tpX c bk = inv p by rw [hbk]; exact HL.out.bx)
  clear hbk
  obtain ⟨_, ab, nb, kb, _, rfl⟩ := shapeKin hobk.rd
  go_wp2_with fail
  refine (typePmI_any _ _ _ _ _ c bk ((HCS.out.below hbS).below bwT) (hobk.rd.below bwT) (by omega) true HBV.out).mono ?_
  rintro e9 w9 ⟨uq, rfl, hoq, hbw9⟩
  have hpw9 : Below w8.heap.size w8 w9 := Below.after bwT hbw9 szT
  have sw9 := hpw9.size
  have hBw9 : Below w.heap.size w w9 := Below.trans hBw8 (Below.mono hpw9 hBw8.size)
  replace q_cc0 := oldc hpw9 l_cc q_cc0
  replace q_cc1 := oldc hpw9 l_cc q_cc1
  replace q_tt0 := oldc hpw9 l_tt q_tt0
  replace q_tt1 := oldc hpw9 l_tt q_tt1
  replace q_uu0 := oldc hpw9 l_uu q_uu0
  replace q_uu1 := oldc hpw9 l_uu q_uu1
  replace l_cc := Nat.lt_of_lt_of_le l_cc sw9
  replace l_tt := Nat.lt_of_lt_of_le l_tt sw9
  replace l_uu := Nat.lt_of_lt_of_le l_uu sw9
  have l_bb : w8.heap.size < w9.heap.size := by have := hbw9.size; simp at this; omega
  have q_bb0 : w9.cell? ⟨w8.heap.size, 0, none⟩ = some (.int .i64 bk.1) := oldc hbw9 ltT (by simp [go_sem])
  have q_bb1 : w9.cell? ⟨w8.heap.size, 1, none⟩ = some (.slice ab nb kb) := oldc hbw9 ltT (by simp [go_sem])
  replace hop := Ow.below hop hpw9
  replace hobk := Ow.below hobk hpw9
  replace hbS := Below.trans hbS (Below.mono hpw9 (by omega))
  clear hbw9 hpw9
  rw [HBX.out] at hoq
  obtain ⟨aq, nq, kq, rfl, hnq, -⟩ := hoq.rd.shape
  have hnq5 : nq ≤ 5 := by rw [← hnq, inv_len]; exact hpl
  clear hobk
  go_wp2_with fail
  refine (groupOfI_any _ _ _ c ((HCS.out.below hbS).below bwT) (by omega)).mono ?_
  rintro e10 w10 ⟨ug, rfl, hog, hbw10⟩
  have hpw10 : Below w9.heap.size w9 w10 := Below.after bwT hbw10 szT
  have sw10 := hpw10.size
  have hBw10 : Below w.heap.size w w10 := Below.trans hBw9 (Below.mono hpw10 hBw9.size)
  replace q_cc0 := oldc hpw10 l_cc q_cc0
  replace q_cc1 := oldc hpw10 l_cc q_cc1
  replace q_tt0 := oldc hpw10 l_tt q_tt0
  replace q_tt1 := oldc hpw10 l_tt q_tt1
  replace q_uu0 := oldc hpw10 l_uu q_uu0
  replace q_uu1 := oldc hpw10 l_uu q_uu1
  replace q_bb0 := oldc hpw10 l_bb q_bb0
  replace q_bb1 := oldc hpw10 l_bb q_bb1
  replace l_bb := Nat.lt_of_lt_of_le l_bb sw10
  replace l_cc := Nat.lt_of_lt_of_le l_cc sw10
  replace l_tt := Nat.lt_of_lt_of_le l_tt sw10
  replace l_uu := Nat.lt_of_lt_of_le l_uu sw10
  replace hop := Ow.below hop hpw10
  replace hoq := Ow.below hoq hpw10
  replace hbS := Below.trans hbS (Below.mono hpw10 (by omega))
  clear hbw10 hpw10
  rw [HL.out.gv]
  rw [HL.out.gx] at hog
  obtain ⟨ag, ng, kg, rfl, hng, -⟩ := hog.rd.shape
  subst hng
  go_wp2_with fail
  refine (inversePermI_any _ _ p (hop.rd.below bwT) (by omega)).mono ?_
  rintro e11 w11 ⟨ui, rfl, hoi, hbw11⟩
  have hpw11 : Below w10.heap.size w10 w11 := Below.after bwT hbw11 szT
  have sw11 := hpw11.size
  have hBw11 : Below w.heap.size w w11 := Below.trans hBw10 (Below.mono hpw11 hBw10.size)
  replace q_cc0 := oldc hpw11 l_cc q_cc0
  replace q_cc1 := oldc hpw11 l_cc q_cc1
  replace q_tt0 := oldc hpw11 l_tt q_tt0
  replace q_tt1 := oldc hpw11 l_tt q_tt1
  replace q_uu0 := oldc hpw11 l_uu q_uu0
  replace q_uu1 := oldc hpw11 l_uu q_uu1
  replace q_bb0 := oldc hpw11 l_bb q_bb0
  replace q_bb1 := oldc hpw11 l_bb q_bb1
  replace l_bb := Nat.lt_of_lt_of_le l_bb sw11
  replace l_cc := Nat.lt_of_lt_of_le l_cc sw11
  replace l_tt := Nat.lt_of_lt_of_le l_tt sw11
  replace l_uu := Nat.lt_of_lt_of_le l_uu sw11
  replace hop := Ow.below hop hpw11
  replace hoq := Ow.below hoq hpw11
  replace hog := Ow.below hog hpw11
  replace hbS := Below.trans hbS (Below.mono hpw11 (by omega))
  clear hbw11 hpw11
  rw [HL.out.iv] at hoi
  go_wp2_with fail
  refine (ints_b _ _ _ (inv p) (inv p) (hoq.rd.below bwT) (hoi.rd.below bwT) true (decide_eq_true rfl).symm).mono ?_
  rintro e12 w12 ⟨rfl, hbw12⟩
  have hpw12 : Below w11.heap.size w11 w12 := Below.after bwT hbw12 szT
  have sw12 := hpw12.size
  have hBw12 : Below w.heap.size w w12 := Below.trans hBw11 (Below.mono hpw12 hBw11.size)
  replace q_cc0 := oldc hpw12 l_cc q_cc0
  replace q_cc1 := oldc hpw12 l_cc q_cc1
  replace q_tt0 := oldc hpw12 l_tt q_tt0
  replace q_tt1 := oldc hpw12 l_tt q_tt1
  replace q_uu0 := oldc hpw12 l_uu q_uu0
  replace q_uu1 := oldc hpw12 l_uu q_uu1
  replace q_bb0 := oldc hpw12 l_bb q_bb0
  replace q_bb1 := oldc hpw12 l_bb q_bb1
  replace l_bb := Nat.lt_of_lt_of_le l_bb sw12
  replace l_cc := Nat.lt_of_lt_of_le l_cc sw12
  replace l_tt := Nat.lt_of_lt_of_le l_tt sw12
  replace l_uu := Nat.lt_of_lt_of_le l_uu sw12
  replace hop := Ow.below hop hpw12
  replace hoq := Ow.below hoq hpw12
  replace hog := Ow.below hog hpw12
  replace hbS := Below.trans hbS (Below.mono hpw12 (by omega))
  clear hbw12 hpw12
  clear hoi
  clear hoq
  have hl2 : l.length ≤ 200 := HL.out.few
  obtain ⟨wB, hwB⟩ : ∃ x : World, x = w12 := ⟨_, rfl⟩
  have HOG := Lib.hid hog.rd.weak.all
  have HOP := Lib.hid hop.rd.weak.all
  have hBB : Below w.heap.size w w12 := hBw12
  have hbSB : Below wS.heap.size wS w12 := hbS
  clear hog hop hbS
  subst hwB
  have HPM := Lib.hid HL.out.mem
  go_wp2
  go_loopw [14, 16, 82] (fun s14 _ s82 wr => ∃ (k : Nat) (b : Bool), k ≤ l.length ∧ s82 = .int .i64 k ∧ s14 = .bool b ∧ Hid (b = decide (p ∈ l.take k)) ∧ Below wB.heap.size wB wr) (fun _ _ s82 _ => l.length - (intOf s82).toNat)
  case atStart => exact ⟨0, false, Nat.zero_le _, rfl, rfl, Lib.hid (by simp), Below.refl _ _⟩
  case round =>
    obtain ⟨wl, hwl⟩ : ∃ wm : World, wm = wr := ⟨_, rfl⟩
    subst hwl
    obtain ⟨k, b, hk, rfl, rfl, HB9, hbl⟩ := hrel
    have sbl := hbl.size
    have hBl : Below w.heap.size w wl := hBB.trans (hbl.mono hBB.size)
    by_cases hlt : k < l.length
    · have hI : (k : Int) < (l.length : Int) := by omega
      obtain ⟨b3, o3, g, vg, rfl, hg, cg, hrg, -, -, hb3⟩ := (HOG.out.below hbl).lists_at hlt
      have HGA := Lib.hid hg.out
      have HRG := Lib.hid hrg
      clear hg hrg
      obtain ⟨r9, hlet_r9⟩ : ∃ r, r = (b || decide (g = p)) := ⟨_, rfl⟩
      have HF9 := Lib.hid hlet_r9
      clear hlet_r9
      have HN9 := Lib.hid (show r9 = decide (p ∈ l.take (k + 1)) by rw [HF9.out, HB9.out, any_take2 HGA.out])
      clear HB9
      cases b
      · go_wp2_with fail
        refine (ints_b _ _ _ g p (HRG.out.below bwT) ((HOP.out.below hbl).below bwT) r9 (by rw [HF9.out]; rfl)).mono ?_
        rintro e wx ⟨rfl, hbx⟩
        clear HF9
        go_wp2
        go_roundw
        case rel => exact ⟨k + 1, _, by omega, by go_num, rfl, HN9, hbl.trans ((show Below wl.heap.size wl _ from bwT).mono hbl.size)⟩
        case measure => simp [intOf]; omega
      · have hr9 : r9 = true := by rw [HF9.out]; rfl
        subst hr9
        clear HF9
        go_wp2
        go_roundw
        case rel => exact ⟨k + 1, _, by omega, by go_num, rfl, HN9, hbl⟩
        case measure => simp [intOf]; omega
    · obtain rfl : k = l.length := by omega
      have h9 : b = true := by rw [HB9.out, List.take_of_length_le (Nat.le_refl _)]; exact decide_eq_true HPM.out
      subst h9
      clear HB9
      obtain ⟨wL, hwL⟩ : ∃ x : World, x = wl := ⟨_, rfl⟩
      subst hwL
      have hbSL := hbSB.trans (hbl.mono hbSB.size)
      have q_cc0 := oldc hbl l_cc q_cc0
      have q_cc1 := oldc hbl l_cc q_cc1
      have q_tt0 := oldc hbl l_tt q_tt0
      have q_tt1 := oldc hbl l_tt q_tt1
      have q_uu0 := oldc hbl l_uu q_uu0
      have q_uu1 := oldc hbl l_uu q_uu1
      have l_cc : w1.heap.size < wL.heap.size := by omega
      have l_tt : w3.heap.size < wL.heap.size := by omega
      have l_uu : w5.heap.size < wL.heap.size := by omega
      have HCL := Lib.hid ((HCS.out.below hbSL).all0)
      have HTL := Lib.hid ((HTS.out.below hbSL).all0)
      have HUL := Lib.hid ((HUS.out.below hbSL).all0)
      have HOP := Lib.hid ((HOP.out.below hbl).all0)
      have hBwL : Below w.heap.size w wL := hBl
      have hbL : Below wL.heap.size wL wL := Below.refl _ _
      obtain ⟨J, hJ⟩ : ∃ J, J = joinV t u2 := ⟨_, rfl⟩
      have HJ := Lib.hid hJ
      clear hJ HCS HTS HUS hbSL
      go_wp2_with fail
      refine (joinS_any _ _ _ _ _ t u2 ((HTL.out.below hbL).below bwT) ((HUL.out.below hbL).below bwT) HKT.out (by omega) (.inr HU2.out)).mono ?_
      rintro e13 w13 ⟨jv, rfl, hoj, hbw13⟩
      have hpw13 : Below wL.heap.size wL w13 := Below.after bwT hbw13 szT
      have sw13 := hpw13.size
      have hBw13 : Below w.heap.size w w13 := Below.trans hBwL (Below.mono hpw13 hBwL.size)
      replace q_cc0 := oldc hpw13 l_cc q_cc0
      replace q_cc1 := oldc hpw13 l_cc q_cc1
      replace q_tt0 := oldc hpw13 l_tt q_tt0
      replace q_tt1 := oldc hpw13 l_tt q_tt1
      replace q_uu0 := oldc hpw13 l_uu q_uu0
      replace q_uu1 := oldc hpw13 l_uu q_uu1
      replace l_cc := Nat.lt_of_lt_of_le l_cc sw13
      replace l_tt := Nat.lt_of_lt_of_le l_tt sw13
      replace l_uu := Nat.lt_of_lt_of_le l_uu sw13
      replace hbL := Below.trans hbL (Below.mono hpw13 (by omega))
      clear hbw13 hpw13
      rw [← HJ.out]
      obtain ⟨jx, hjx⟩ : ∃ x : Kin, x = joinX t u2 := ⟨_, rfl⟩
      rw [← hjx] at hoj ⊢
      have HJX := Lib.hid hjx
      clear hjx
      obtain ⟨_, aj, nj, kj, _, rfl⟩ := shapeKin hoj.rd
      cases J
      · go_wp2
        go_ret
        exact ⟨rfl, bwT⟩
      have HJL := Lib.hid (HL.out.join u2 HU2.out HJ.out.symm)
      obtain ⟨r, hr⟩ : ∃ x, x = tpX c u2 := ⟨_, rfl⟩
      have HR := Lib.hid hr
      have HJW := Lib.hid (show true = tpV c jx by rw [HJX.out]; exact HJL.out.2.1.symm)
      have HJS := Lib.hid (show tpX c jx = compP p r by rw [HJX.out, HR.out]; exact HJL.out.2.2)
      have hrl : r.length ≤ 8 := by rw [hr]; exact tpX_len c u2
      clear hr
      go_wp2_with fail
      refine (typePmI_any _ _ _ _ _ c u2 ((HCL.out.below hbL).below bwT) ((HUL.out.below hbL).below bwT) (by omega) true HJL.out.1.symm).mono ?_
      rintro e14 w14 ⟨ur, rfl, hor, hbw14⟩
      have hpw14 : Below w13.heap.size w13 w14 := Below.after bwT hbw14 szT
      have sw14 := hpw14.size
      have hBw14 : Below w.heap.size w w14 := Below.trans hBw13 (Below.mono hpw14 hBw13.size)
      replace q_cc0 := oldc hpw14 l_cc q_cc0
      replace q_cc1 := oldc hpw14 l_cc q_cc1
      replace q_tt0 := oldc hpw14 l_tt q_tt0
      replace q_tt1 := oldc hpw14 l_tt q_tt1
      replace q_uu0 := oldc hpw14 l_uu q_uu0
      replace q_uu1 := oldc hpw14 l_uu q_uu1
      replace l_cc := Nat.lt_of_lt_of_le l_cc sw14
      replace l_tt := Nat.lt_of_lt_of_le l_tt sw14
      replace l_uu := Nat.lt_of_lt_of_le l_uu sw14
      have l_ww : w13.heap.size < w14.heap.size := by have := hbw14.size; simp at this; omega
      have q_ww0 : w14.cell? ⟨w13.heap.size, 0, none⟩ = some (.int .i64 jx.1) := oldc hbw14 ltT (by simp [go_sem])
      have q_ww1 : w14.cell? ⟨w13.heap.size, 1, none⟩ = some (.slice aj nj kj) := oldc hbw14 ltT (by simp [go_sem])
      replace hoj := Ow.below hoj hpw14
      replace hbL := Below.trans hbL (Below.mono hpw14 (by omega))
      clear hbw14 hpw14
      rw [← HR.out] at hor
      go_wp2_with fail
      refine (typePmI_any _ _ _ _ _ c jx ((HCL.out.below hbL).below bwT) (hoj.rd.below bwT) (by omega) true HJW.out).mono ?_
      rintro e15 w15 ⟨us, rfl, hos, hbw15⟩
      have hpw15 : Below w14.heap.size w14 w15 := Below.after bwT hbw15 szT
      have sw15 := hpw15.size
      have hBw15 : Below w.heap.size w w15 := Below.trans hBw14 (Below.mono hpw15 hBw14.size)
      replace q_cc0 := oldc hpw15 l_cc q_cc0
      replace q_cc1 := oldc hpw15 l_cc q_cc1
      replace q_tt0 := oldc hpw15 l_tt q_tt0
      replace q_tt1 := oldc hpw15 l_tt q_tt1
      replace q_uu0 := oldc hpw15 l_uu q_uu0
      replace q_uu1 := oldc hpw15 l_uu q_uu1
      replace q_ww0 := oldc hpw15 l_ww q_ww0
      replace q_ww1 := oldc hpw15 l_ww q_ww1
      replace l_cc := Nat.lt_of_lt_of_le l_cc sw15
      replace l_tt := Nat.lt_of_lt_of_le l_tt sw15
      replace l_uu := Nat.lt_of_lt_of_le l_uu sw15
      replace l_ww := Nat.lt_of_lt_of_le l_ww sw15
      replace hoj := Ow.below hoj hpw15
      replace hor := Ow.below hor hpw15
      replace hbL := Below.trans hbL (Below.mono hpw15 (by omega))
      clear hbw15 hpw15
      rw [HJS.out] at hos
      go_wp2_with fail
      refine (composeI_any _ _ _ p r ((HOP.out.below hbL).below bwT) (hor.rd.below bwT) (by omega) (by omega)).mono ?_
      rintro e16 w16 ⟨uz, rfl, hoz, hbw16⟩
      have hpw16 : Below w15.heap.size w15 w16 := Below.after bwT hbw16 szT
      have sw16 := hpw16.size
      have hBw16 : Below w.heap.size w w16 := Below.trans hBw15 (Below.mono hpw16 hBw15.size)
      replace q_cc0 := oldc hpw16 l_cc q_cc0
      replace q_cc1 := oldc hpw16 l_cc q_cc1
      replace q_tt0 := oldc hpw16 l_tt q_tt0
      replace q_tt1 := oldc hpw16 l_tt q_tt1
      replace q_uu0 := oldc hpw16 l_uu q_uu0
      replace q_uu1 := oldc hpw16 l_uu q_uu1
      replace q_ww0 := oldc hpw16 l_ww q_ww0
      replace q_ww1 := oldc hpw16 l_ww q_ww1
      replace l_cc := Nat.lt_of_lt_of_le l_cc sw16
      replace l_tt := Nat.lt_of_lt_of_le l_tt sw16
      replace l_uu := Nat.lt_of_lt_of_le l_uu sw16
      replace l_ww := Nat.lt_of_lt_of_le l_ww sw16
      replace hoj := Ow.below hoj hpw16
      replace hor := Ow.below hor hpw16
      replace hos := Ow.below hos hpw16
      replace hbL := Below.trans hbL (Below.mono hpw16 (by omega))
      clear hbw16 hpw16
      go_wp2_with fail
      refine (ints_b _ _ _ (compP p r) (compP p r) (hos.rd.below bwT) (hoz.rd.below bwT) true (decide_eq_true rfl).symm).mono ?_
      rintro e17 w17 ⟨rfl, hbw17⟩
      have hpw17 : Below w16.heap.size w16 w17 := Below.after bwT hbw17 szT
      have sw17 := hpw17.size
      have hBw17 : Below w.heap.size w w17 := Below.trans hBw16 (Below.mono hpw17 hBw16.size)
      replace q_cc0 := oldc hpw17 l_cc q_cc0
      replace q_cc1 := oldc hpw17 l_cc q_cc1
      replace q_tt0 := oldc hpw17 l_tt q_tt0
      replace q_tt1 := oldc hpw17 l_tt q_tt1
      replace q_uu0 := oldc hpw17 l_uu q_uu0
      replace q_uu1 := oldc hpw17 l_uu q_uu1
      replace q_ww0 := oldc hpw17 l_ww q_ww0
      replace q_ww1 := oldc hpw17 l_ww q_ww1
      replace l_cc := Nat.lt_of_lt_of_le l_cc sw17
      replace l_tt := Nat.lt_of_lt_of_le l_tt sw17
      replace l_uu := Nat.lt_of_lt_of_le l_uu sw17
      replace l_ww := Nat.lt_of_lt_of_le l_ww sw17
      replace hoj := Ow.below hoj hpw17
      replace hor := Ow.below hor hpw17
      replace hos := Ow.below hos hpw17
      replace hbL := Below.trans hbL (Below.mono hpw17 (by omega))
      clear hbw17 hpw17
      go_wp2
      go_ret
      exact ⟨rfl, hBw17⟩
end Go.Proofs.Ytlnhhfebmeekhaa
