/- Contracts of canonical, CanonicalClasses and SameClasses (impl). -/
import Derived.Test.YtlnhhfebmeekhaaCan
namespace Go.Proofs.Ytlnhhfebmeekhaa
set_option linter.unusedVariables false
set_option linter.unusedSimpArgs false
open Go.RowKit

section
variable {z z' : Bool} {lo hi lo' hi' : Nat} (w : World) (u v : Value) (c : Cls)
set_option maxRecDepth 20000 in
set_option maxHeartbeats 4000000 in
theorem canonI_any (h : Rd z lo hi w [u, v] c) (hc : isCls c = true) (h5 : c.1.length ≤ 5) :
    Calls Try.prog 40 #[.agg #[u, v]] w (PostOw2 w (canonC c)) := by
  obtain ⟨f, q⟩ := c
  obtain ⟨ao, n, cap, bo, n2, dap, rfl, rfl⟩ := shapeCls h
  obtain rfl : n = f.length := by
    obtain ⟨_, _, _, e, e2, -⟩ := (h.two rfl).1.shape
    simp only [Value.slice.injEq] at e; dsimp only at e2; omega
  obtain ⟨k1, k2, k3, k4, k5, -, -⟩ := isCls_parts hc
  dsimp only at k1 k2 k3 k4 k5 h5
  have HK := Lib.hid (And.intro k3 (And.intro k4 k5))
  clear k3 k4 k5 hc k2
  have hRel : ∀ (W : World) (vp : Value) (p : List Int) {z0 : Bool} {l0 h0 : Nat}, Rd z lo hi W [.slice ao f.length cap, .slice bo n2 dap] (f, q) → Rd z0 l0 h0 W [vp] p → p.length = f.length → isPerm p = true →
      Calls Try.prog 55 #[.agg #[.slice ao f.length cap, .slice bo n2 dap], vp] W (PostOw2 W (relC (f, q) p)) := by
    intro W vp p z0 l0 h0 hr hp e hi
    obtain ⟨k3, k4, k5⟩ := HK.out
    exact relI_any _ _ _ _ (f, q) p hr hp (by rw [e]) (by rw [e]; exact k3) (isPerm_range hi) (by rw [e]; exact k4) (by rw [e]; exact k5) (by omega)
  have HRel := Lib.hid hRel
  obtain ⟨hperm, hid0⟩ := perms_ok h5
  have HP := Lib.hid hperm
  have hidp : isPerm (idL f.length) = true := hperm _ (List.mem_of_getElem? hid0)
  have HIp := Lib.hid hidp
  obtain ⟨C, hC⟩ : ∃ C, C = canonC (f, q) := ⟨_, rfl⟩
  rw [← hC]
  have HC := Lib.hid (show C = canonGo (f, q) (perms f.length f.length) (relC (f, q) (idL f.length)) by rw [hC]; rfl)
  clear hC hRel hperm hid0 hidp
  have v1 : ¬ w.heap.size = w.heap.size + 1 + 1 := by omega
  have v2 : ¬ w.heap.size + 1 + 1 = w.heap.size := by omega
  have v3 : ¬ w.heap.size + 1 = w.heap.size + 1 + 1 := by omega
  have v4 : ¬ w.heap.size + 1 + 1 = w.heap.size + 1 := by omega
  have u1 : w.heap.size < w.heap.size + 1 + 1 := by omega
  have u2 : w.heap.size < w.heap.size + 1 + 1 + 1 := by omega
  have u3 : w.heap.size + 1 < w.heap.size + 1 + 1 + 1 := by omega
  go_enter Try.func40, Try.ntmps40
  go_upto_region 1 with fail
  go_cut [3] (fun s3 wx => ∃ (g lo hi : Nat) (x y : Value), s3 = .pointer (some ⟨g, 0, none⟩) ∧ wx.cell? ⟨g, 0, none⟩ = some x ∧ wx.cell? ⟨g, 1, none⟩ = some y ∧ (∀ o, wx.frozen? ⟨g, o, none⟩ = false) ∧ Ow lo hi wx [x, y] (relC (f, q) (idL f.length)) ∧ w.heap.size + 1 + 1 ≤ lo ∧ hi ≤ wx.heap.size ∧ (g < lo ∨ hi ≤ g) ∧ w.heap.size + 1 < g ∧ g < wx.heap.size ∧
    wx.cell? ⟨w.heap.size, 0, none⟩ = some (.slice ao f.length cap) ∧ wx.cell? ⟨w.heap.size, 1, none⟩ = some (.slice bo n2 dap) ∧ wx.cell? ⟨w.heap.size + 1, 0, none⟩ = some (.slice none 0 0) ∧ wx.cell? ⟨w.heap.size + 1, 1, none⟩ = some (.slice none 0 0) ∧ (∀ o, wx.frozen? ⟨w.heap.size + 1, o, none⟩ = false) ∧ w.heap.size + 1 < wx.heap.size ∧ Below w.heap.size w wx)
  case first =>
    go_region_held3 (fun w' => w'.cell? ⟨w.heap.size, 0, none⟩ = some (.slice ao f.length cap) ∧ w'.cell? ⟨w.heap.size, 1, none⟩ = some (.slice bo n2 dap)) (go_keep) (first
      | (go_at_call 65; refine (identity_any _ _ (by omega)).mono ?_; rintro e w1 ⟨u1, rfl, ho1, hb1⟩; have hB1 : Below w.heap.size w w1 := Below.after bwT hb1 (by first | omega | (simp; omega) | simp); have s1 := hb1.size; obtain ⟨hc1, hf1⟩ := bcell hb1; (try simp only [World.size_alloc, World.size_drew] at s1 hc1 hf1 ho1); have l10 : w.heap.size < w1.heap.size := (by omega); have l11 : w.heap.size + 1 < w1.heap.size := (by omega); (first | (have l12 : w.heap.size + 1 + 1 < w1.heap.size := (by omega)) | skip); have l13 : w.heap.size + 1 + 1 ≤ w1.heap.size := (by omega); have m10 : w.heap.size < w1.heap.size + 1 := (by omega); have m11 : w.heap.size + 1 < w1.heap.size + 1 := (by omega); have n10 : ¬ w.heap.size = w1.heap.size := (by omega); have n11 : ¬ w.heap.size + 1 = w1.heap.size := (by omega); have o10 : ¬ w1.heap.size = w.heap.size := (by omega); have o11 : ¬ w1.heap.size = w.heap.size + 1 := (by omega))
      | (go_at_call 55; refine (HRel.out _ _ _ (h.below bwT) (ho1.rd.below bwT) (idL_len _) HIp.out).mono ?_; rintro e w2 ⟨x2, y2, rfl, ho2, hb2⟩; obtain ⟨ao2, n2', cp2, bo2, m2, dp2, rfl, rfl⟩ := shapeCls ho2.rd; have hB2 : Below w.heap.size w w2 := Below.after bwT hb2 (by first | omega | (simp; omega) | simp); have s2 := hb2.size; obtain ⟨hc2, hf2⟩ := bcell hb2; (try simp only [World.size_alloc, World.size_drew] at s2 hc2 hf2 ho2); have l20 : w.heap.size < w2.heap.size := (by omega); have l21 : w.heap.size + 1 < w2.heap.size := (by omega); (first | (have l22 : w.heap.size + 1 + 1 < w2.heap.size := (by omega)) | skip); (first | (have l24 : w1.heap.size < w2.heap.size := (by omega)) | skip);  have l23 : w1.heap.size ≤ w2.heap.size := (by omega); have m20 : w.heap.size < w2.heap.size + 1 := (by omega); have m21 : w.heap.size + 1 < w2.heap.size + 1 := (by omega); have n20 : ¬ w.heap.size = w2.heap.size := (by omega); have n21 : ¬ w.heap.size + 1 = w2.heap.size := (by omega); have o20 : ¬ w2.heap.size = w.heap.size := (by omega); have o21 : ¬ w2.heap.size = w.heap.size + 1 := (by omega)))
    all_goals
      go_wp2_with fail
      go_meet
    all_goals exact ⟨_, _, _, _, _, rfl, by simp [go_sem, *], by simp [go_sem, *], fun o => by simp [go_sem, *], ho2.keep zmT, (by first | omega | (simp; omega)), (by first | omega | (simp; omega) | simp), (by first | omega | (simp; omega)), (by first | omega | (simp; omega)), (by first | omega | (simp; omega) | simp), by simp [go_sem, *], by simp [go_sem, *], by simp [go_sem, *], by simp [go_sem, *], fun o => by simp [go_sem, *], (by first | omega | (simp; omega)), bwT⟩
  case rest =>
    obtain ⟨g, blo, bhi, x, y, rfl, q_g0, q_g1, f_g, ho_b, hlo, hhi, hdis, hgg, l_g, q_a0, q_a1, q_r0, q_r1, f_r, l_r, hBW0⟩ := hcut
    clear v1 v2 v3 v4 u1 u2 u3
    obtain ⟨W0, hW0⟩ : ∃ W : World, W = wc := ⟨_, rfl⟩
    subst hW0
    have l_a : w.heap.size < W0.heap.size := by omega
    have sW0 := hBW0.size
    go_wp2_with fail
    refine (permsI_any _ f.length h5).mono ?_
    rintro e1 w1 ⟨u5, rfl, ho_p, hbw1⟩
    have hpw1 : Below W0.heap.size W0 w1 := Below.after bwT hbw1 szT
    have sw1 := hpw1.size
    have hBw1 : Below w.heap.size w w1 := Below.trans hBW0 (Below.mono hpw1 hBW0.size)
    have q_a0 := oldc hpw1 l_a q_a0
    have q_a1 := oldc hpw1 l_a q_a1
    have q_r0 := oldc hpw1 l_r q_r0
    have q_r1 := oldc hpw1 l_r q_r1
    have q_g0 := oldc hpw1 l_g q_g0
    have q_g1 := oldc hpw1 l_g q_g1
    have f_r : ∀ o, w1.frozen? ⟨w.heap.size + 1, o, none⟩ = false := fun o => (hpw1.frozen (p := ⟨w.heap.size + 1, o, none⟩) l_r).trans (f_r o)
    have f_g : ∀ o, w1.frozen? ⟨g, o, none⟩ = false := fun o => (hpw1.frozen (p := ⟨g, o, none⟩) l_g).trans (f_g o)
    have l_a := Nat.lt_of_lt_of_le l_a sw1
    have l_g := Nat.lt_of_lt_of_le l_g sw1
    have l_r := Nat.lt_of_lt_of_le l_r sw1
    have ho_b := Ow.below ho_b hpw1
    clear hbw1 hpw1
    have hpm := perms_len5 h5 h5
    obtain ⟨L, hL⟩ : ∃ L, L = perms f.length f.length := ⟨_, rfl⟩
    rw [← hL] at ho_p hpm
    have HC' := Lib.hid (show C = canonGo (f, q) L (relC (f, q) (idL f.length)) by rw [hL]; exact HC.out)
    have HL := Lib.hid (show ∀ p ∈ L, p.length = f.length ∧ isPerm p = true by intro p hp; rw [hL] at hp; exact ⟨perms_mem hp, HP.out p hp⟩)
    clear hL HC HP HIp
    obtain ⟨po, pn, pcap, rfl, rfl, -, hpcm, -⟩ := ho_p.rd.shape
    unfold maxLen at hpcm
    obtain ⟨w1, hw1⟩ : ∃ W : World, W = w1 := ⟨_, rfl⟩
    subst hw1
    have hBw1 : Below w.heap.size w w1 := hBw1
    have sw1 : W0.heap.size ≤ w1.heap.size := sw1
    go_wp2
    go_loopw [5, 18] (fun _ s18 wr => ∃ (i lo hi : Nat) (x y : Value) (B : Cls), i ≤ L.length ∧ s18 = .int .i64 i ∧ wr.cell? ⟨g, 0, none⟩ = some x ∧ wr.cell? ⟨g, 1, none⟩ = some y ∧ (∀ o, wr.frozen? ⟨g, o, none⟩ = false) ∧ Ow lo hi wr [x, y] B ∧ w.heap.size + 1 + 1 ≤ lo ∧ hi ≤ wr.heap.size ∧ (g < lo ∨ hi ≤ g) ∧ Hid (C = canonGo (f, q) (L.drop i) B) ∧ Below (w.heap.size + 1 + 1) w1 wr ∧ Zone W0.heap.size w1.heap.size w1 wr) (fun _ s18 _ => L.length - (intOf s18).toNat)
    case atStart => exact ⟨0, blo, bhi, x, y, _, Nat.zero_le _, rfl, q_g0, q_g1, f_g, ho_b, hlo, (by omega), hdis, Lib.hid (by simpa using HC'.out), Below.refl _ _, Zone.refl _ _ _⟩
    case round =>
      rename_i wr
      clear HC' q_g0 q_g1 f_g ho_b hlo hhi hdis
      obtain ⟨i, blo, bhi, x, y, B, hi, rfl, q_g0, q_g1, f_g, ho_b, hlo, hhi, hdis, HB, hb2, hz2⟩ := hrel
      obtain ⟨xo, xn, xc, yo, yn, yc, rfl, rfl⟩ := shapeCls ho_b.rd
      have hBwr : Below w.heap.size w wr := hBw1.trans (hb2.mono (by omega))
      have q_a0 := oldc hb2 (by omega) q_a0
      have q_a1 := oldc hb2 (by omega) q_a1
      have q_r0 := oldc hb2 (by omega) q_r0
      have q_r1 := oldc hb2 (by omega) q_r1
      have f_r : ∀ o, wr.frozen? ⟨w.heap.size + 1, o, none⟩ = false := fun o => (hb2.frozen (p := ⟨w.heap.size + 1, o, none⟩) (show w.heap.size + 1 < _ by omega)).trans (f_r o)
      have s2 := hb2.size
      have l_a : w.heap.size < wr.heap.size := by omega
      have l_r : w.heap.size + 1 < wr.heap.size := by omega
      have l_g : g < wr.heap.size := by omega
      by_cases hlt : i < L.length
      · have hI : (i : Int) < (L.length : Int) := by omega
        obtain ⟨b, off, p, v, rfl, hp, hcp, hrp, hb1', hb2', hb3'⟩ := (ho_p.rd.keep hz2).ints_at hlt
        obtain ⟨hpl, hpp⟩ := HL.out p (List.mem_of_getElem? hp.out)
        have HPL := Lib.hid hpl
        have HPP := Lib.hid hpp
        have HS := Lib.hid (canonGo_step (c := (f, q)) (b := B) hp.out)
        clear hpl hpp hp
        go_wp2_with fail
        refine (HRel.out _ _ _ (h.below bwT) (hrp.below bwT) HPL.out HPP.out).mono ?_
        rintro e2 w2 ⟨x2, y2, rfl, ho2, hbw2⟩
        have hpw2 : Below wr.heap.size wr w2 := Below.after bwT hbw2 szT
        have sw2 := hpw2.size
        have hBw2 : Below w.heap.size w w2 := Below.trans hBwr (Below.mono hpw2 hBwr.size)
        have q_a0 := oldc hpw2 l_a q_a0
        have q_a1 := oldc hpw2 l_a q_a1
        have q_r0 := oldc hpw2 l_r q_r0
        have q_r1 := oldc hpw2 l_r q_r1
        have q_g0 := oldc hpw2 l_g q_g0
        have q_g1 := oldc hpw2 l_g q_g1
        have f_r : ∀ o, w2.frozen? ⟨w.heap.size + 1, o, none⟩ = false := fun o => (hpw2.frozen (p := ⟨w.heap.size + 1, o, none⟩) l_r).trans (f_r o)
        have f_g : ∀ o, w2.frozen? ⟨g, o, none⟩ = false := fun o => (hpw2.frozen (p := ⟨g, o, none⟩) l_g).trans (f_g o)
        have l_a := Nat.lt_of_lt_of_le l_a sw2
        have l_g := Nat.lt_of_lt_of_le l_g sw2
        have l_r := Nat.lt_of_lt_of_le l_r sw2
        have ho_b := Ow.below ho_b hpw2
        have hb2 := Below.trans hb2 (Below.mono hpw2 (by omega))
        have hz2 := Zone.below hz2 hpw2 (by omega)
        clear hbw2 hpw2
        obtain ⟨xo2, xn2, xc2, yo2, yn2, yc2, rfl, rfl⟩ := shapeCls ho2.rd
        have s2' : wr.heap.size ≤ w2.heap.size := sw2
        obtain ⟨r, hlet_r⟩ : ∃ r, r = lexC (relC (f, q) p) B := ⟨_, rfl⟩
        have HR := Lib.hid hlet_r
        clear hlet_r
        go_wp2_with fail
        refine (lessClasses_b _ _ _ _ _ _ _ (ho2.rd.below bwT) (ho_b.rd.below bwT) r HR.out).mono ?_
        rintro e3 w3 ⟨rfl, hbw3⟩
        have hpw3 : Below w2.heap.size w2 w3 := Below.after bwT hbw3 szT
        have sw3 := hpw3.size
        have hBw3 : Below w.heap.size w w3 := Below.trans hBw2 (Below.mono hpw3 hBw2.size)
        have q_a0 := oldc hpw3 l_a q_a0
        have q_a1 := oldc hpw3 l_a q_a1
        have q_r0 := oldc hpw3 l_r q_r0
        have q_r1 := oldc hpw3 l_r q_r1
        have q_g0 := oldc hpw3 l_g q_g0
        have q_g1 := oldc hpw3 l_g q_g1
        have f_r : ∀ o, w3.frozen? ⟨w.heap.size + 1, o, none⟩ = false := fun o => (hpw3.frozen (p := ⟨w.heap.size + 1, o, none⟩) l_r).trans (f_r o)
        have f_g : ∀ o, w3.frozen? ⟨g, o, none⟩ = false := fun o => (hpw3.frozen (p := ⟨g, o, none⟩) l_g).trans (f_g o)
        have l_a := Nat.lt_of_lt_of_le l_a sw3
        have l_g := Nat.lt_of_lt_of_le l_g sw3
        have l_r := Nat.lt_of_lt_of_le l_r sw3
        have l_t : w2.heap.size < w3.heap.size := by have := hbw3.size; simp at this; omega
        have q_t0 : w3.cell? ⟨w2.heap.size, 0, none⟩ = some (.slice xo2 xn2 xc2) := oldc hbw3 ltT (by simp [go_sem])
        have q_t1 : w3.cell? ⟨w2.heap.size, 1, none⟩ = some (.slice yo2 yn2 yc2) := oldc hbw3 ltT (by simp [go_sem])
        have ho_b := Ow.below ho_b hpw3
        have ho2 := Ow.below ho2 hpw3
        have hb2 := Below.trans hb2 (Below.mono hpw3 (by omega))
        have hz2 := Zone.below hz2 hpw3 (by omega)
        clear hbw3 hpw3
        have HB2 := Lib.hid (show C = canonGo (f, q) (L.drop (i + 1)) (if r = true then relC (f, q) p else B) by rw [HB.out, HS.out, HR.out])
        clear HB HS HR
        have sN : wr.heap.size ≤ w3.heap.size := Nat.le_trans s2' sw3
        have nag : ¬ w.heap.size = g := by omega
        have nrg : ¬ w.heap.size + 1 = g := by omega
        cases r
        · go_wp2
          go_roundw
          case rel => exact ⟨i + 1, blo, bhi, _, _, B, by omega, by go_num, q_g0, q_g1, f_g, ho_b, hlo, by omega, hdis, HB2, hb2, hz2⟩
          case measure => simp [intOf]; omega
        · go_wp2
          go_roundw
          case rel => exact ⟨i + 1, _, _, .slice xo2 xn2 xc2, .slice yo2 yn2 yc2, _, by omega, by go_num, by simp [go_sem, *], by simp [go_sem, *], fun o => by simp [go_sem, *], ho2.keep zmT, by omega, (by first | omega | (simp; omega)), by omega, HB2, bwT, hz2.trans zmT⟩
          case measure => simp [intOf]; omega
      · have HF := Lib.hid (show C = B by rw [HB.out, List.drop_eq_nil_of_le (by omega), canonGo])
        have HO := Lib.hid ho_b
        clear HB ho_b
        go_wp2
        exact bodyPost_ret (v := .agg #[.slice xo xn xc, .slice yo yn yc]) (by simp [results, go_sem, q_r0, q_r1]) rfl ⟨_, _, rfl, (by rw [HF.out]; exact (HO.out.keep zmT).top.mono (by omega) (Nat.le_refl _)), bwT⟩
end
end Go.Proofs.Ytlnhhfebmeekhaa
