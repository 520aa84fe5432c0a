/- Texts laid one behind the other (merge.py): MkfX, MkfY. -/
import Derived.Test.YtefbbbhidnnchaaMkfD
import Derived.Test.YtefbbbhidnnchaaZ14L
import Derived.Test.YtefbbbhidnnchaaZ14G
namespace Go.Proofs.Ytefbbbhidnnchaa
set_option linter.unusedVariables false
set_option linter.unusedSimpArgs false
open Go.RowKit

/-! ### MkfX -/
section

/-- A valid family is made. -/
def PostFm (most : Nat) (w : World) (e : Ending) (w' : World) : Prop := ∃ (a b : Value) (f : Fam), e = .returned (.agg #[a, b]) ∧ Rd false w.heap.size w'.heap.size w' [a, b] f ∧ Hid (famB f = true ∧ f.1.length ≤ most) ∧ Below w.heap.size w w'
set_option maxHeartbeats 4000000 in
theorem makeFamily_any {z : Bool} {lo hi : Nat} (w : World) (v : Value) (code : List UInt8) (h : Rd z lo hi w [v] code) (hl : code.length ≤ 1048576) (most : Nat) (h18 : most ≤ 18) :
    Calls Try.prog 27 #[v, .int .i64 most] w (PostFm most w) := by
  go_enter Try.func27, Try.ntmps27
  go_wp2_with fail
  refine (l01New_any _ _ code (h.below bwT) hl).mono ?_
  rintro e w1 ⟨p, rfl, hp, hC, hb1⟩
  have s1 : w.heap.size < w1.heap.size := by have := hb1.size; simp at this; omega
  have hp1 : w.heap.size < p := by simp at hp; omega
  have hB1 : Below w.heap.size w w1 := Below.after bwT hb1 (by simp)
  have r0 : w1.cell? ⟨w.heap.size, 0, none⟩ = some (.slice none 0 0) := oldc hb1 (by simp) (by simp [go_sem])
  have r1 : w1.cell? ⟨w.heap.size, 1, none⟩ = some (.slice none 0 0) := oldc hb1 (by simp) (by simp [go_sem])
  have rf : ∀ o, w1.frozen? ⟨w.heap.size, o, none⟩ = false := fun o => (hb1.frozen (p := ⟨w.heap.size, o, none⟩) (by simp)).trans (by simp [go_sem])
  clear h hb1 hp
  have em : max 0 (min (most : Int) 40) = (most : Int) := by omega
  go_wp2_with fail
  refine (l1Family_any _ p hC most h18).mono ?_
  rintro e w2 ⟨a, b, f, rfl, hrf, hff, -, hF⟩
  have hB2 : Below w.heap.size w w2 := hB1.trans (hF.toBelow (by omega) (fun b hb => by simp at hb; omega))
  have s2 := hF.size
  have r0 := offq hF (by omega) (by omega) r0
  have r1 := offq hF (by omega) (by omega) r1
  have rf := offfr hF (by omega) (by omega) rf
  obtain ⟨xa, xn, xc, ya, yn, yc, rfl, rfl⟩ := shapeFam hrf
  have HRF := Lib.hid hrf
  clear hrf hF hC
  go_wp2
  refine bodyPost_ret (v := .agg #[.slice xa xn xc, .slice ya yn yc]) (by simp [results, Try.results27, go_sem, *]) rfl ⟨_, _, f, rfl, ?_, hff, bwT⟩
  exact (HRF.out.keep (fun b h1 h2 => (keep_set b (by omega)).trans (keep_set b (by omega)))).mono (by omega) (by simp)
set_option maxHeartbeats 4000000 in
theorem makeClose_any {z : Bool} {lo hi : Nat} (w : World) (v : Value) (code : List UInt8) (h : Rd z lo hi w [v] code) (hl : code.length ≤ 1048576) :
    Calls Try.prog 28 #[v] w (PostFm 40 w) := by
  go_enter Try.func28, Try.ntmps28
  go_wp2_with fail
  refine (l01New_any _ _ code (h.below bwT) hl).mono ?_
  rintro e w1 ⟨p, rfl, hp, hC, hb1⟩
  have s1 : w.heap.size < w1.heap.size := by have := hb1.size; simp at this; omega
  have hp1 : w.heap.size < p := by simp at hp; omega
  have hB1 : Below w.heap.size w w1 := Below.after bwT hb1 (by simp)
  have r0 : w1.cell? ⟨w.heap.size, 0, none⟩ = some (.slice none 0 0) := oldc hb1 (by simp) (by simp [go_sem])
  have r1 : w1.cell? ⟨w.heap.size, 1, none⟩ = some (.slice none 0 0) := oldc hb1 (by simp) (by simp [go_sem])
  have rf : ∀ o, w1.frozen? ⟨w.heap.size, o, none⟩ = false := fun o => (hb1.frozen (p := ⟨w.heap.size, o, none⟩) (by simp)).trans (by simp [go_sem])
  clear h hb1 hp
  go_wp2_with fail
  refine (l8Close_any _ p hC).mono ?_
  rintro e w2 ⟨a, b, f, rfl, hrf, hff, -, hF⟩
  have hB2 : Below w.heap.size w w2 := hB1.trans (hF.toBelow (by omega) (fun b hb => by simp at hb; omega))
  have s2 := hF.size
  have r0 := offq hF (by omega) (by omega) r0
  have r1 := offq hF (by omega) (by omega) r1
  have rf := offfr hF (by omega) (by omega) rf
  obtain ⟨xa, xn, xc, ya, yn, yc, rfl, rfl⟩ := shapeFam hrf
  have HRF := Lib.hid hrf
  clear hrf hF hC
  go_wp2
  refine bodyPost_ret (v := .agg #[.slice xa xn xc, .slice ya yn yc]) (by simp [results, Try.results28, go_sem, *]) rfl ⟨_, _, f, rfl, ?_, hff, bwT⟩
  exact (HRF.out.keep (fun b h1 h2 => (keep_set b (by omega)).trans (keep_set b (by omega)))).mono (by omega) (by simp)

end

/-! ### MkfY -/
section

def PostCw (w : World) (e : Ending) (w' : World) : Prop := ∃ (a b : Value) (f : Fam), e = .returned (.agg #[a, b]) ∧ Rd false w.heap.size w'.heap.size w' [a, b] f ∧ Hid (famB f = true ∧ 0 < f.1.length ∧ f.1.length ≤ 40) ∧ Below w.heap.size w w'
def aaP : Per := (⟨#[97, 97]⟩, 1, -1, -1, 0, -1)
theorem fam_aa : famB ([aaP], []) = true := by decide +kernel
theorem fam_nil {f : Fam} (h : famB f = true) (h0 : f.1.length = 0) : f.2 = [] := by
  obtain ⟨-, -, -, h1⟩ := famB_facts h
  cases e : f.2 with
  | nil => rfl
  | cons u l =>
    obtain ⟨m, wo, fr, tl⟩ := u
    have := (uniOk_facts (h1 0 (by rw [e]; simp)) (m := m) (wo := wo) (fr := fr) (tl := tl) (by rw [e]; rfl)).1
    omega
set_option maxRecDepth 20000 in
set_option maxHeartbeats 8000000 in
theorem crowd_any {z : Bool} {lo hi : Nat} (w : World) (v : Value) (code : List UInt8) (h : Rd z lo hi w [v] code) (hl : code.length ≤ 1048576) (most : Nat) (h18 : most ≤ 18) :
    Calls Try.prog 6 #[v, .int .i64 most] w (PostCw w) := by
  have HC := Lib.hid h
  clear h
  go_enter Try.func6, Try.ntmps6
  go_wp2_with fail
  refine (makeFamily_any _ _ code (HC.out.below bwT) hl most h18).mono ?_
  rintro e w1 ⟨a, b, f, rfl, hrf, hff, hb1⟩
  have s1 : w.heap.size < w1.heap.size := by have := hb1.size; simp at this; omega
  have hB1 : Below w.heap.size w w1 := Below.after bwT hb1 (by simp)
  have r0 : w1.cell? ⟨w.heap.size, 0, none⟩ = some (.slice none 0 0) := oldc hb1 (by simp) (by simp [go_sem])
  have r1 : w1.cell? ⟨w.heap.size, 1, none⟩ = some (.slice none 0 0) := oldc hb1 (by simp) (by simp [go_sem])
  have rf : ∀ o, w1.frozen? ⟨w.heap.size, o, none⟩ = false := fun o => (hb1.frozen (p := ⟨w.heap.size, o, none⟩) (by simp)).trans (by simp [go_sem])
  obtain ⟨xa, xn, xc, ya, yn, yc, rfl, rfl⟩ := shapeFam hrf
  obtain ⟨_, _, _, e1, e2, -⟩ := (hrf.fam).1.shape
  simp only [Value.slice.injEq] at e1
  obtain ⟨rfl, rfl, rfl⟩ := e1
  subst e2
  obtain ⟨F, hF⟩ : ∃ F, F = w1.heap.size := ⟨_, rfl⟩
  have HR1 := Lib.hid (show Rd false (w.heap.size + 1) F w1 [.slice xa f.1.length xc, .slice ya yn yc] f by rw [hF]; simpa using hrf)
  have HFF := Lib.hid (show famB f = true ∧ f.1.length ≤ 40 from ⟨hff.out.1, by have := hff.out.2; omega⟩)
  obtain ⟨WA, hWA⟩ : ∃ W : World, W = w1.alloc (.cells #[.slice xa f.1.length xc, .slice ya yn yc] 26) := ⟨_, rfl⟩
  have hbA : Below w1.heap.size w1 WA := by rw [hWA]; exact (Below.refl _ _).alloc (Nat.le_refl _) _
  have q0 : WA.cell? ⟨F, 0, none⟩ = some (.slice xa f.1.length xc) := by rw [hWA, hF]; simp [go_sem]
  have q1 : WA.cell? ⟨F, 1, none⟩ = some (.slice ya yn yc) := by rw [hWA, hF]; simp [go_sem]
  have qf : ∀ o, WA.frozen? ⟨F, o, none⟩ = false := fun o => by rw [hWA, hF]; simp [go_sem]
  have lF : F < WA.heap.size := by rw [hWA, hF]; simp
  have r0 := oldc hbA s1 r0
  have r1 := oldc hbA s1 r1
  have rf : ∀ o, WA.frozen? ⟨w.heap.size, o, none⟩ = false := fun o => (hbA.frozen (p := ⟨w.heap.size, o, none⟩) s1).trans (rf o)
  have HRA := Lib.hid (HR1.out.below hbA)
  have hBA : Below w.heap.size w WA := hB1.trans (hbA.mono hB1.size)
  have hRF : w.heap.size < F := by omega
  have sA := hBA.size
  go_upto_region 2 with fail
  rw [← hWA, ← hF]
  clear hWA hF hrf hff hb1 hbA hB1 HR1
  go_wp2_with fail
  refine (at_any _ _ code (HC.out.below hBA) hl 9 (by omega) (by omega)).mono ?_
  rintro e w2 ⟨x, rfl, hx, hb2⟩
  have u4 : x.tmod 4 = x % 4 := Int.tmod_eq_emod_of_nonneg hx.1
  have s2 := hb2.size
  have q0 := oldc hb2 lF q0
  have q1 := oldc hb2 lF q1
  have qf : ∀ o, w2.frozen? ⟨F, o, none⟩ = false := fun o => (hb2.frozen (p := ⟨F, o, none⟩) lF).trans (qf o)
  have r0 := oldc hb2 (by omega) r0
  have r1 := oldc hb2 (by omega) r1
  have rf : ∀ o, w2.frozen? ⟨w.heap.size, o, none⟩ = false := fun o => (hb2.frozen (p := ⟨w.heap.size, o, none⟩) (by show w.heap.size < _; omega)).trans (rf o)
  have HR2 := Lib.hid (HRA.out.below hb2)
  have hB2 : Below w.heap.size w w2 := hBA.trans (hb2.mono sA)
  have lF2 : F < w2.heap.size := by omega
  have neF : ¬ F = w.heap.size := by omega
  have neR : ¬ w.heap.size = F := by omega
  clear hb2 HRA hBA sA lF

  by_cases hx4 : x % 4 = 0
  · go_wp2_with fail
    refine (makeClose_any _ _ code (HC.out.below hB2) hl).mono ?_
    rintro e w3 ⟨a', b', g, rfl, hrg, hgg, hb3⟩
    obtain ⟨za, zn, zc, ta, tn, tc, rfl, rfl⟩ := shapeFam hrg
    obtain ⟨_, _, _, e1, e2, -⟩ := (hrg.fam).1.shape
    simp only [Value.slice.injEq] at e1
    obtain ⟨rfl, rfl, rfl⟩ := e1
    subst e2
    have HG := Lib.hid (show famB g = true ∧ g.1.length ≤ 40 from hgg.out)
    have s3 := hb3.size
    have q0 := oldc hb3 lF2 q0
    have q1 := oldc hb3 lF2 q1
    have qf : ∀ o, w3.frozen? ⟨F, o, none⟩ = false := fun o => (hb3.frozen (p := ⟨F, o, none⟩) lF2).trans (qf o)
    have r0 := oldc hb3 (by omega) r0
    have r1 := oldc hb3 (by omega) r1
    have rf : ∀ o, w3.frozen? ⟨w.heap.size, o, none⟩ = false := fun o => (hb3.frozen (p := ⟨w.heap.size, o, none⟩) (by show w.heap.size < _; omega)).trans (rf o)
    have hB3 : Below w.heap.size w w3 := hB2.trans (hb3.mono hB2.size)
    obtain ⟨W4, hW4⟩ : ∃ W : World, W = (w3.setCell ⟨F, 0, none⟩ (.slice za g.1.length zc)).setCell ⟨F, 1, none⟩ (.slice ta tn tc) := ⟨_, rfl⟩
    have kk : ∀ b, b ≠ F → W4.heap[b]? = w3.heap[b]? := fun b hb => by rw [hW4]; exact (keep_set b hb).trans (keep_set b hb)
    have a0 : (w3.setCell ⟨F, 0, none⟩ (.slice za g.1.length zc)).cell? ⟨F, 0, none⟩ = some (.slice za g.1.length zc) := cell_here q0
    have a1 : (w3.setCell ⟨F, 0, none⟩ (.slice za g.1.length zc)).cell? ⟨F, 1, none⟩ = some (.slice ya yn yc) := cell_there q1 (by omega)
    have p0 : W4.cell? ⟨F, 0, none⟩ = some (.slice za g.1.length zc) := by rw [hW4]; exact cell_there a0 (by omega)
    have p1 : W4.cell? ⟨F, 1, none⟩ = some (.slice ta tn tc) := by rw [hW4]; exact cell_here a1
    have pf : ∀ o, W4.frozen? ⟨F, o, none⟩ = false := fun o => by rw [hW4]; exact frozen_setCell _ _ _ _ _ (frozen_setCell _ _ _ _ _ (qf o))
    have s4 : w3.heap.size ≤ W4.heap.size := by rw [hW4]; simp
    have lF4 : F < W4.heap.size := by omega
    have hB4 : Below w.heap.size w W4 := by rw [hW4]; exact bwT
    have r0 := cell_far (kk _ neR) r0
    have r1 := cell_far (kk _ neR) r1
    have rf := frz_far (kk _ neR) rf
    have HR4 := Lib.hid (hrg.keep (fun b h1 h2 => kk b (by omega)))
    go_upto_region 4 with fail
    rw [← hW4]
    clear hW4 a0 a1 q0 q1 qf hrg hgg hb3 HR2 kk HFF
    by_cases hz : g.1.length = 0
    · have hzI : (g.1.length : Int) = 0 := by omega
      have HE := Lib.hid (fam_nil HG.out.1 hz)
      clear hz
      have hbP : Below W4.heap.size W4 (W4.alloc (.cells #[.string ⟨#[97, 97]⟩, .int .i64 1, .int .i64 (-1), .int .i64 (-1), .int .i64 0, .int .i64 (-1)] 56)) := (Below.refl _ _).alloc (Nat.le_refl _) _
      have n0 := oldc hbP lF4 p0
      have n1 := oldc hbP lF4 p1
      have nf : ∀ o, (W4.alloc (.cells #[.string ⟨#[97, 97]⟩, .int .i64 1, .int .i64 (-1), .int .i64 (-1), .int .i64 0, .int .i64 (-1)] 56)).frozen? ⟨F, o, none⟩ = false := fun o => (hbP.frozen (p := ⟨F, o, none⟩) lF4).trans (pf o)
      have hRW : w.heap.size < W4.heap.size := by omega
      have r0 := cell_far (keep_set (W := W4.alloc (.cells #[.string ⟨#[97, 97]⟩, .int .i64 1, .int .i64 (-1), .int .i64 (-1), .int .i64 0, .int .i64 (-1)] 56)) (Q := F) (j := 0) (u := .slice (some ⟨W4.heap.size, 0, none⟩) 1 1) _ neR) (oldc hbP hRW r0)
      have r1 := cell_far (keep_set (W := W4.alloc (.cells #[.string ⟨#[97, 97]⟩, .int .i64 1, .int .i64 (-1), .int .i64 (-1), .int .i64 0, .int .i64 (-1)] 56)) (Q := F) (j := 0) (u := .slice (some ⟨W4.heap.size, 0, none⟩) 1 1) _ neR) (oldc hbP hRW r1)
      have rf := frz_far (keep_set (W := W4.alloc (.cells #[.string ⟨#[97, 97]⟩, .int .i64 1, .int .i64 (-1), .int .i64 (-1), .int .i64 0, .int .i64 (-1)] 56)) (Q := F) (j := 0) (u := .slice (some ⟨W4.heap.size, 0, none⟩) 1 1) _ neR) (fun o => (hbP.frozen (p := ⟨w.heap.size, o, none⟩) hRW).trans (rf o))
      have m0 : ((W4.alloc (.cells #[.string ⟨#[97, 97]⟩, .int .i64 1, .int .i64 (-1), .int .i64 (-1), .int .i64 0, .int .i64 (-1)] 56)).setCell ⟨F, 0, none⟩ (.slice (some ⟨W4.heap.size, 0, none⟩) 1 1)).cell? ⟨F, 0, none⟩ = some (.slice (some ⟨W4.heap.size, 0, none⟩) 1 1) := cell_here n0
      have m1 : ((W4.alloc (.cells #[.string ⟨#[97, 97]⟩, .int .i64 1, .int .i64 (-1), .int .i64 (-1), .int .i64 0, .int .i64 (-1)] 56)).setCell ⟨F, 0, none⟩ (.slice (some ⟨W4.heap.size, 0, none⟩) 1 1)).cell? ⟨F, 1, none⟩ = some (.slice ta tn tc) := cell_there n1 (by omega)
      clear hbP
      go_upto_region 6 with fail
      go_wp2
      refine bodyPost_ret (v := .agg #[.slice (some ⟨W4.heap.size, 0, none⟩) 1 1, .slice ta tn tc]) (by simp [results, Try.results6, go_sem, *]) rfl ⟨_, _, (([aaP], g.2) : Fam), rfl, ?_, Lib.hid ⟨by rw [HE.out]; exact fam_aa, by simp, by simp⟩, bwT⟩
      have hp := (Ow.per1 (((W4.setCell ⟨F, 0, none⟩ (.slice (some ⟨W4.heap.size, 0, none⟩) 1 1)).setCell ⟨w.heap.size, 0, none⟩ (.slice (some ⟨W4.heap.size, 0, none⟩) 1 1)).setCell ⟨w.heap.size, 1, none⟩ (.slice ta tn tc)) 56 (nm := ⟨#[97, 97]⟩) (sx := 1) (fa := -1) (mo := -1) (bo := 0) (di := -1) (by unfold maxLen; decide) (by unfold I64; omega) (by unfold I64; omega) (by unfold I64; omega) (by unfold I64; omega) (by unfold I64; omega)).rd
      rw [show (((W4.setCell ⟨F, 0, none⟩ (.slice (some ⟨W4.heap.size, 0, none⟩) 1 1)).setCell ⟨w.heap.size, 0, none⟩ (.slice (some ⟨W4.heap.size, 0, none⟩) 1 1)).setCell ⟨w.heap.size, 1, none⟩ (.slice ta tn tc)).heap.size = W4.heap.size by simp] at hp
      have hu := ((HR4.out.fam).2.keep (w' := (((W4.setCell ⟨F, 0, none⟩ (.slice (some ⟨W4.heap.size, 0, none⟩) 1 1)).setCell ⟨w.heap.size, 0, none⟩ (.slice (some ⟨W4.heap.size, 0, none⟩) 1 1)).setCell ⟨w.heap.size, 1, none⟩ (.slice ta tn tc))) (fun b h1 h2 => (keep_set b (by omega)).trans ((keep_set b (by omega)).trans (keep_set b (by omega))))).below ((Below.refl _ _).alloc (Nat.le_refl _) (.cells #[.string ⟨#[97, 97]⟩, .int .i64 1, .int .i64 (-1), .int .i64 (-1), .int .i64 0, .int .i64 (-1)] 56))
      exact Rd.fam_mk (f := (([aaP], g.2) : Fam)) (hp.mono (by omega) (by simp)) (hu.mono (by omega) (by simp; omega))
    · have hzI : ¬ (g.1.length : Int) = 0 := by omega
      have HZ := Lib.hid (show 0 < g.1.length by omega)
      clear hz
      go_wp2
      refine bodyPost_ret (v := .agg #[.slice za g.1.length zc, .slice ta tn tc]) (by simp [results, Try.results6, go_sem, *]) rfl ⟨_, _, g, rfl, ?_, Lib.hid ⟨HG.out.1, HZ.out, HG.out.2⟩, bwT⟩
      exact (HR4.out.keep (fun b h1 h2 => (keep_set b (by omega)).trans (keep_set b (by omega)))).mono (by omega) (by simp; omega)
  · skip
    by_cases hz : f.1.length = 0
    · have hzI : (f.1.length : Int) = 0 := by omega
      have HE := Lib.hid (fam_nil HFF.out.1 hz)
      clear hz
      have hbP : Below w2.heap.size w2 (w2.alloc (.cells #[.string ⟨#[97, 97]⟩, .int .i64 1, .int .i64 (-1), .int .i64 (-1), .int .i64 0, .int .i64 (-1)] 56)) := (Below.refl _ _).alloc (Nat.le_refl _) _
      have n0 := oldc hbP lF2 q0
      have n1 := oldc hbP lF2 q1
      have nf : ∀ o, (w2.alloc (.cells #[.string ⟨#[97, 97]⟩, .int .i64 1, .int .i64 (-1), .int .i64 (-1), .int .i64 0, .int .i64 (-1)] 56)).frozen? ⟨F, o, none⟩ = false := fun o => (hbP.frozen (p := ⟨F, o, none⟩) lF2).trans (qf o)
      have hRW : w.heap.size < w2.heap.size := by omega
      have r0 := cell_far (keep_set (W := w2.alloc (.cells #[.string ⟨#[97, 97]⟩, .int .i64 1, .int .i64 (-1), .int .i64 (-1), .int .i64 0, .int .i64 (-1)] 56)) (Q := F) (j := 0) (u := .slice (some ⟨w2.heap.size, 0, none⟩) 1 1) _ neR) (oldc hbP hRW r0)
      have r1 := cell_far (keep_set (W := w2.alloc (.cells #[.string ⟨#[97, 97]⟩, .int .i64 1, .int .i64 (-1), .int .i64 (-1), .int .i64 0, .int .i64 (-1)] 56)) (Q := F) (j := 0) (u := .slice (some ⟨w2.heap.size, 0, none⟩) 1 1) _ neR) (oldc hbP hRW r1)
      have rf := frz_far (keep_set (W := w2.alloc (.cells #[.string ⟨#[97, 97]⟩, .int .i64 1, .int .i64 (-1), .int .i64 (-1), .int .i64 0, .int .i64 (-1)] 56)) (Q := F) (j := 0) (u := .slice (some ⟨w2.heap.size, 0, none⟩) 1 1) _ neR) (fun o => (hbP.frozen (p := ⟨w.heap.size, o, none⟩) hRW).trans (rf o))
      have m0 : ((w2.alloc (.cells #[.string ⟨#[97, 97]⟩, .int .i64 1, .int .i64 (-1), .int .i64 (-1), .int .i64 0, .int .i64 (-1)] 56)).setCell ⟨F, 0, none⟩ (.slice (some ⟨w2.heap.size, 0, none⟩) 1 1)).cell? ⟨F, 0, none⟩ = some (.slice (some ⟨w2.heap.size, 0, none⟩) 1 1) := cell_here n0
      have m1 : ((w2.alloc (.cells #[.string ⟨#[97, 97]⟩, .int .i64 1, .int .i64 (-1), .int .i64 (-1), .int .i64 0, .int .i64 (-1)] 56)).setCell ⟨F, 0, none⟩ (.slice (some ⟨w2.heap.size, 0, none⟩) 1 1)).cell? ⟨F, 1, none⟩ = some (.slice ya yn yc) := cell_there n1 (by omega)
      clear hbP
      go_upto_region 6 with fail
      go_wp2
      refine bodyPost_ret (v := .agg #[.slice (some ⟨w2.heap.size, 0, none⟩) 1 1, .slice ya yn yc]) (by simp [results, Try.results6, go_sem, *]) rfl ⟨_, _, (([aaP], f.2) : Fam), rfl, ?_, Lib.hid ⟨by rw [HE.out]; exact fam_aa, by simp, by simp⟩, bwT⟩
      have hp := (Ow.per1 (((w2.setCell ⟨F, 0, none⟩ (.slice (some ⟨w2.heap.size, 0, none⟩) 1 1)).setCell ⟨w.heap.size, 0, none⟩ (.slice (some ⟨w2.heap.size, 0, none⟩) 1 1)).setCell ⟨w.heap.size, 1, none⟩ (.slice ya yn yc)) 56 (nm := ⟨#[97, 97]⟩) (sx := 1) (fa := -1) (mo := -1) (bo := 0) (di := -1) (by unfold maxLen; decide) (by unfold I64; omega) (by unfold I64; omega) (by unfold I64; omega) (by unfold I64; omega) (by unfold I64; omega)).rd
      rw [show (((w2.setCell ⟨F, 0, none⟩ (.slice (some ⟨w2.heap.size, 0, none⟩) 1 1)).setCell ⟨w.heap.size, 0, none⟩ (.slice (some ⟨w2.heap.size, 0, none⟩) 1 1)).setCell ⟨w.heap.size, 1, none⟩ (.slice ya yn yc)).heap.size = w2.heap.size by simp] at hp
      have hu := ((HR2.out.fam).2.keep (w' := (((w2.setCell ⟨F, 0, none⟩ (.slice (some ⟨w2.heap.size, 0, none⟩) 1 1)).setCell ⟨w.heap.size, 0, none⟩ (.slice (some ⟨w2.heap.size, 0, none⟩) 1 1)).setCell ⟨w.heap.size, 1, none⟩ (.slice ya yn yc))) (fun b h1 h2 => (keep_set b (by omega)).trans ((keep_set b (by omega)).trans (keep_set b (by omega))))).below ((Below.refl _ _).alloc (Nat.le_refl _) (.cells #[.string ⟨#[97, 97]⟩, .int .i64 1, .int .i64 (-1), .int .i64 (-1), .int .i64 0, .int .i64 (-1)] 56))
      exact Rd.fam_mk (f := (([aaP], f.2) : Fam)) (hp.mono (by omega) (by simp)) (hu.mono (by omega) (by simp; omega))
    · have hzI : ¬ (f.1.length : Int) = 0 := by omega
      have HZ := Lib.hid (show 0 < f.1.length by omega)
      clear hz
      go_wp2
      refine bodyPost_ret (v := .agg #[.slice xa f.1.length xc, .slice ya yn yc]) (by simp [results, Try.results6, go_sem, *]) rfl ⟨_, _, f, rfl, ?_, Lib.hid ⟨HFF.out.1, HZ.out, HFF.out.2⟩, bwT⟩
      exact (HR2.out.keep (fun b h1 h2 => (keep_set b (by omega)).trans (keep_set b (by omega)))).mono (by omega) (by simp; omega)

end

end Go.Proofs.Ytefbbbhidnnchaa
