/- The library's stable merge, to the swap. Written by sym_gen.py. -/
import Derived.Test.YtoipdgoejichbaaStb
namespace Go.Proofs.Ytoipdgoejichbaa
set_option linter.unusedVariables false
set_option linter.unusedSimpArgs false
open Go.RowKit Go.Shelf

theorem up_size {α : Type} [Inhabited α] : ∀ (n k : Nat) (d : Array α), (upS n k d).size = d.size
  | 0, _, _ => rfl
  | n + 1, k, d => by rw [upS, up_size n]; exact Sort.size_swp ..
theorem down_size {α : Type} [Inhabited α] : ∀ (n k : Nat) (d : Array α), (downS n k d).size = d.size
  | 0, _, _ => rfl
  | n + 1, k, d => by rw [downS, down_size n]; exact Sort.size_swp ..
theorem ite_size {α : Type} {c : Prop} [Decidable c] {x y : Array α} {n : Nat} (h1 : x.size = n) (h2 : y.size = n) : (if c then x else y).size = n := by split <;> assumption
theorem sym_size {α : Type} [Inhabited α] (lt : α → α → Bool) : ∀ (f a m b : Nat) (d : Array α), (symM lt f a m b d).size = d.size
  | 0, _, _, _, _ => rfl
  | f + 1, a, m, b, d => by
    rw [symM]
    refine ite_size (up_size ..) (ite_size (down_size ..) ?_)
    simp only
    have h1 : ∀ (c : Prop) [Decidable c] (s e : Nat), (if c then rot m (e - s) (m - s) (e - m) d else d).size = d.size := fun c _ s e => ite_size (rot_size ..) rfl
    exact ite_size (by rw [sym_size lt f]; exact ite_size (by rw [sym_size lt f]; exact h1 ..) (h1 ..)) (ite_size (by rw [sym_size lt f]; exact h1 ..) (h1 ..))
section
variable {α : Type} [Inhabited α]
set_option maxHeartbeats 8000000 in
set_option maxRecDepth 100000 in
theorem sym_any (enc : α → List Value) (k : Nat) (hk : ∀ x, (enc x).length = k) (lt : α → α → Bool) (g : Nat) (lb : Array Value) (sf : Nat) (sb : Array Value) (blk off : Nat) (eg : ∀ args w, (callFunc g args).run Try.prog w = .ok (.enter g args) w) (sz : Nat) (hsz : sz < 2305843009213693952) (hswap : SwapSwapsK Try.prog sf sb enc k blk off sz) (f : Nat) :
    ∀ (a m b : Nat) (A M B : Int) (hA : A = (a : Int)) (hM : M = (m : Int)) (hB : B = (b : Int)) (d : Array α) (w : World) (hds : d.size = sz) (hless : LessG Try.prog g lb enc k lt w blk off sz) (hR : RowAt enc k w blk off d w) (hblk : blk < w.heap.size) (ham : a < m) (hmb : m < b) (hb : b ≤ sz) (hf : b - a ≤ f),
    Calls Try.prog 119 #[.agg #[.func (.func g) #[] lb, .func (.func sf) #[] sb], .int .i64 A, .int .i64 M, .int .i64 B] w fun e w' => e = .returned (.tuple #[]) ∧ RowAt enc k w blk off (symM lt f a m b d) w' := by
  induction f with
  | zero => intro a m b A M B hA hM hB d w hds hless hR hblk ham hmb hb hf; omega
  | succ f ih =>
    intro a m b A M B hA hM hB d w hds hless hR hblk ham hmb hb hf
    subst hA hM hB
    have HR := Lib.hid hR
    have HSW := Lib.hid hswap
    have HLESS := Lib.hid hless
    have HK := Lib.hid hk
    have IH := Lib.hid ih
    clear hR hswap hk hless ih
    by_cases h1 : m - a = 1
    · have h1I : (m : Int) - (a : Int) = 1 := by omega
      have HRES := Lib.hid (show symM lt (f + 1) a m b d = upS (bs1 lt d a (b - m) m b - 1 - a) a d by rw [symM, if_pos h1])
      clear IH
      go_enter Try.func119, Try.ntmps119
      go_wp2
      go_loopw [8, 9, 10] (fun s1 s2 _ wr => ∃ (i j c : Nat), s1 = .int .i64 i ∧ s2 = .int .i64 j ∧ m ≤ i ∧ i ≤ j ∧ j ≤ b ∧ j - i ≤ c ∧ Hid (RowAt enc k w blk off d wr) ∧ wr.cell? ⟨w.heap.size, 0, none⟩ = some (.func (.func g) #[] lb) ∧ wr.cell? ⟨w.heap.size, 1, none⟩ = some (.func (.func sf) #[] sb) ∧ w.heap.size < wr.heap.size ∧ Hid (bs1 lt d a c i j = bs1 lt d a (b - m) m b)) (fun s1 s2 _ _ => (intOf s2).toNat - (intOf s1).toNat)
      case atStart => exact ⟨m, b, b - m, rfl, rfl, Nat.le_refl _, by omega, Nat.le_refl _, Nat.le_refl _, Lib.hid (HR.out.below bwT hblk), by simp [go_sem], by simp [go_sem], by simp, Lib.hid rfl⟩
      case round =>
        obtain ⟨wb, hwb⟩ : ∃ wm : World, wm = wr := ⟨_, rfl⟩
        subst hwb
        obtain ⟨i, j, c, rfl, rfl, hi, hij, hj, hc, HRk, c0, c1, hlb, HO⟩ := hrel
        by_cases hlt : i < j
        · have hI : (i : Int) < (j : Int) := by omega
          obtain ⟨h, hh⟩ : ∃ h, h = (i + j) / 2 := ⟨_, rfl⟩
          have qh : ((i : Int) + (j : Int)) / 2 = (h : Int) := by omega
          have hih : i ≤ h ∧ h < j := by omega
          obtain ⟨hih1, hih2⟩ := hih
          obtain ⟨c', hc'⟩ : ∃ c', c = c' + 1 := ⟨c - 1, by omega⟩
          have hcu : j - (h + 1) ≤ c' ∧ h - i ≤ c' := by omega
          obtain ⟨hcu1, hcu2⟩ := hcu

          have hl := HLESS.out wb d HRk.out hds (h) (a) (by omega) (by omega)

          cases hlv : lt d[h]! d[a]! with
          | true =>
            rw [hlv] at hl
            have HO2 := Lib.hid (show bs1 lt d a c' (h + 1) j = bs1 lt d a (b - m) m b by rw [← HO.out, hc', bs1, if_pos hlt, ← hh, hlv]; rfl)
            clear hlv hh hc' HO
            go_wp2_with (go_at_fn g; refine hl.mono ?_; rintro e w' ⟨rfl, hb'⟩; have d0 := oldc hb' hlb c0; have d1 := oldc hb' hlb c1)
            have HRn := Lib.hid (HRk.out.below hb' hblk)
            have sb' := hb'.size
            go_roundw
            case rel => exact ⟨h + 1, j, c', by go_num, rfl, by omega, by omega, hj, by omega, HRn, d0, d1, by omega, HO2⟩
            case measure => simp [intOf]; omega
          | false =>
            rw [hlv] at hl
            have HO2 := Lib.hid (show bs1 lt d a c' i h = bs1 lt d a (b - m) m b by rw [← HO.out, hc', bs1, if_pos hlt, ← hh, hlv]; rfl)
            clear hlv hh hc' HO
            go_wp2_with (go_at_fn g; refine hl.mono ?_; rintro e w' ⟨rfl, hb'⟩; have d0 := oldc hb' hlb c0; have d1 := oldc hb' hlb c1)
            have HRn := Lib.hid (HRk.out.below hb' hblk)
            have sb' := hb'.size
            go_roundw
            case rel => exact ⟨i, h, c', rfl, rfl, hi, by omega, by omega, by omega, HRn, d0, d1, by omega, HO2⟩
            case measure => simp [intOf]; omega
        · have hI : ¬ (i : Int) < (j : Int) := by omega
          obtain rfl : i = j := by omega
          have HB := Lib.hid (show bs1 lt d a (b - m) m b = i by
            rw [← HO.out]
            cases c with
            | zero => rfl
            | succ c => rw [bs1, if_neg (by omega)])
          clear HO hc
          have HRES2 := Lib.hid (show symM lt (f + 1) a m b d = upS (i - 1 - a) a d by rw [HRES.out, HB.out])
          have qi : (i : Int) - 1 = ((i - 1 : Nat) : Int) := by omega
          obtain ⟨i1, hi1⟩ : ∃ i1, i1 = i - 1 := ⟨_, rfl⟩
          rw [← hi1] at qi HRES2
          have hi1a : a ≤ i1 ∧ i1 + 1 ≤ b := by omega
          obtain ⟨hi1b, hi1c⟩ := hi1a
          clear HB HRES hi1
          go_wp2
          go_loopw [11] (fun s1 wr => ∃ (q : Nat) (dk : Array α), s1 = .int .i64 q ∧ a ≤ q ∧ q ≤ i1 ∧ dk.size = sz ∧ Hid (RowAt enc k w blk off dk wr) ∧ wr.cell? ⟨w.heap.size, 0, none⟩ = some (.func (.func g) #[] lb) ∧ wr.cell? ⟨w.heap.size, 1, none⟩ = some (.func (.func sf) #[] sb) ∧ w.heap.size < wr.heap.size ∧ Hid (upS (i1 - q) q dk = upS (i1 - a) a d)) (fun s1 _ => i1 - (intOf s1).toNat)
          case atStart => exact ⟨a, d, rfl, Nat.le_refl _, hi1b, hds, HRk, c0, c1, hlb, Lib.hid rfl⟩
          case round =>
            clear HRk c0 c1 hlb
            obtain ⟨wd, hwd⟩ : ∃ wm : World, wm = wr := ⟨_, rfl⟩
            subst hwd
            obtain ⟨q, dk, rfl, hq1, hq2, hsk, HRk, c0, c1, hlb, HO⟩ := hrel
            by_cases hlt2 : q < i1
            · have hI2 : (q : Int) < (i1 : Int) := by omega
              have hs := HSW.out wd dk HRk.out.holds hsk (q) (q + 1) (by omega) (by omega)
              have hsw := HRk.out.swp HK.out (i := q) (j := q + 1) (by omega) (by omega)
              obtain ⟨we, hwe⟩ : ∃ W : World, W = (wd.setCells blk (off + (q) * k) (enc dk[q + 1]!)).setCells blk (off + (q + 1) * k) (enc dk[q]!) := ⟨_, rfl⟩
              rw [← hwe] at hsw hs
              have e0 := hsw.2.cellAt hlb (show w.heap.size ≠ blk by omega) c0
              have e1 := hsw.2.cellAt hlb (show w.heap.size ≠ blk by omega) c1
              have se := hsw.2.size
              have HRe := Lib.hid hsw.1
              have HO2 := Lib.hid (show upS (i1 - (q + 1)) (q + 1) (Sort.swp dk (q) (q + 1)) = upS (i1 - a) a d by
                rw [← HO.out, show i1 - q = (i1 - (q + 1)) + 1 by omega, upS])
              have hsz2 : (Sort.swp dk (q) (q + 1)).size = sz := by rw [Sort.size_swp]; exact hsk
              rw [show (((q + 1 : Nat) : Int)) = (q : Int) + 1 by omega] at hs
              have HS := Lib.hid hs
              clear hsw hwe hs HO
              go_wp2_with fail
              rw [HS.out, Oper.upon_value]
              go_wp2
              go_roundw
              case rel => exact ⟨q + 1, _, by go_num, by omega, by omega, hsz2, HRe, e0, e1, by omega, HO2⟩
              case measure => simp [intOf]; omega
            · have hI2 : ¬ (q : Int) < (i1 : Int) := by omega
              have HF := Lib.hid (show RowAt enc k w blk off (symM lt (f + 1) a m b d) wd by
                rw [HRES2.out, ← HO.out, show i1 - q = 0 by omega]; exact HRk.out)
              clear HRk HO HRES2
              go_wp2
              first | (go_end0; exact ⟨rfl, HF.out⟩) | ((try simp only [Exit.inBlock, Exit.then]); refine bodyPost_ret (results_none rfl _ _ _) rfl ?_; exact ⟨rfl, HF.out⟩)
    · have h1I : ((m : Int) - (a : Int) == 1) = false := by simp; omega
      by_cases h2 : b - m = 1
      · have h2I : (b : Int) - (m : Int) = 1 := by omega
        have HRES := Lib.hid (show symM lt (f + 1) a m b d = downS (m - bs2 lt d m (m - a) a m) m d by rw [symM, if_neg h1, if_pos h2])
        clear IH
        go_enter Try.func119, Try.ntmps119
        go_wp2
        go_loopw [12, 13, 14] (fun s1 s2 _ wr => ∃ (i j c : Nat), s1 = .int .i64 i ∧ s2 = .int .i64 j ∧ a ≤ i ∧ i ≤ j ∧ j ≤ m ∧ j - i ≤ c ∧ Hid (RowAt enc k w blk off d wr) ∧ wr.cell? ⟨w.heap.size, 0, none⟩ = some (.func (.func g) #[] lb) ∧ wr.cell? ⟨w.heap.size, 1, none⟩ = some (.func (.func sf) #[] sb) ∧ w.heap.size < wr.heap.size ∧ Hid (bs2 lt d m c i j = bs2 lt d m (m - a) a m)) (fun s1 s2 _ _ => (intOf s2).toNat - (intOf s1).toNat)
        case atStart => exact ⟨a, m, m - a, rfl, rfl, Nat.le_refl _, by omega, Nat.le_refl _, Nat.le_refl _, Lib.hid (HR.out.below bwT hblk), by simp [go_sem], by simp [go_sem], by simp, Lib.hid rfl⟩
        case round =>
          obtain ⟨wb, hwb⟩ : ∃ wm : World, wm = wr := ⟨_, rfl⟩
          subst hwb
          obtain ⟨i, j, c, rfl, rfl, hi, hij, hj, hc, HRk, c0, c1, hlb, HO⟩ := hrel
          by_cases hlt : i < j
          · have hI : (i : Int) < (j : Int) := by omega
            obtain ⟨h, hh⟩ : ∃ h, h = (i + j) / 2 := ⟨_, rfl⟩
            have qh : ((i : Int) + (j : Int)) / 2 = (h : Int) := by omega
            have hih : i ≤ h ∧ h < j := by omega
            obtain ⟨hih1, hih2⟩ := hih
            obtain ⟨c', hc'⟩ : ∃ c', c = c' + 1 := ⟨c - 1, by omega⟩
            have hcu : j - (h + 1) ≤ c' ∧ h - i ≤ c' := by omega
            obtain ⟨hcu1, hcu2⟩ := hcu

            have hl := HLESS.out wb d HRk.out hds (m) (h) (by omega) (by omega)

            cases hlv : lt d[m]! d[h]! with
            | true =>
              rw [hlv] at hl
              have HO2 := Lib.hid (show bs2 lt d m c' i h = bs2 lt d m (m - a) a m by rw [← HO.out, hc', bs2, if_pos hlt, ← hh, hlv]; rfl)
              clear hlv hh hc' HO
              go_wp2_with (go_at_fn g; refine hl.mono ?_; rintro e w' ⟨rfl, hb'⟩; have d0 := oldc hb' hlb c0; have d1 := oldc hb' hlb c1)
              have HRn := Lib.hid (HRk.out.below hb' hblk)
              have sb' := hb'.size
              go_roundw
              case rel => exact ⟨i, h, c', rfl, rfl, hi, by omega, by omega, by omega, HRn, d0, d1, by omega, HO2⟩
              case measure => simp [intOf]; omega
            | false =>
              rw [hlv] at hl
              have HO2 := Lib.hid (show bs2 lt d m c' (h + 1) j = bs2 lt d m (m - a) a m by rw [← HO.out, hc', bs2, if_pos hlt, ← hh, hlv]; rfl)
              clear hlv hh hc' HO
              go_wp2_with (go_at_fn g; refine hl.mono ?_; rintro e w' ⟨rfl, hb'⟩; have d0 := oldc hb' hlb c0; have d1 := oldc hb' hlb c1)
              have HRn := Lib.hid (HRk.out.below hb' hblk)
              have sb' := hb'.size
              go_roundw
              case rel => exact ⟨h + 1, j, c', by go_num, rfl, by omega, by omega, hj, by omega, HRn, d0, d1, by omega, HO2⟩
              case measure => simp [intOf]; omega
          · have hI : ¬ (i : Int) < (j : Int) := by omega
            obtain rfl : i = j := by omega
            have HB := Lib.hid (show bs2 lt d m (m - a) a m = i by
              rw [← HO.out]
              cases c with
              | zero => rfl
              | succ c => rw [bs2, if_neg (by omega)])
            clear HO hc
            have HRES2 := Lib.hid (show symM lt (f + 1) a m b d = downS (m - i) m d by rw [HRES.out, HB.out])
            clear HB HRES
            go_wp2
            go_loopw [15] (fun s1 wr => ∃ (q : Nat) (dk : Array α), s1 = .int .i64 q ∧ i ≤ q ∧ q ≤ m ∧ dk.size = sz ∧ Hid (RowAt enc k w blk off dk wr) ∧ wr.cell? ⟨w.heap.size, 0, none⟩ = some (.func (.func g) #[] lb) ∧ wr.cell? ⟨w.heap.size, 1, none⟩ = some (.func (.func sf) #[] sb) ∧ w.heap.size < wr.heap.size ∧ Hid (downS (q - i) q dk = downS (m - i) m d)) (fun s1 _ => (intOf s1).toNat)
            case atStart => exact ⟨m, d, rfl, by omega, Nat.le_refl _, hds, HRk, c0, c1, hlb, Lib.hid rfl⟩
            case round =>
              clear HRk c0 c1 hlb
              obtain ⟨wd, hwd⟩ : ∃ wm : World, wm = wr := ⟨_, rfl⟩
              subst hwd
              obtain ⟨q, dk, rfl, hq1, hq2, hsk, HRk, c0, c1, hlb, HO⟩ := hrel
              by_cases hlt2 : i < q
              · have hI2 : (i : Int) < (q : Int) := by omega
                have hs := HSW.out wd dk HRk.out.holds hsk (q) (q - 1) (by omega) (by omega)
                have hsw := HRk.out.swp HK.out (i := q) (j := q - 1) (by omega) (by omega)
                obtain ⟨we, hwe⟩ : ∃ W : World, W = (wd.setCells blk (off + (q) * k) (enc dk[q - 1]!)).setCells blk (off + (q - 1) * k) (enc dk[q]!) := ⟨_, rfl⟩
                rw [← hwe] at hsw hs
                have e0 := hsw.2.cellAt hlb (show w.heap.size ≠ blk by omega) c0
                have e1 := hsw.2.cellAt hlb (show w.heap.size ≠ blk by omega) c1
                have se := hsw.2.size
                have HRe := Lib.hid hsw.1
                have HO2 := Lib.hid (show downS ((q - 1) - i) (q - 1) (Sort.swp dk (q) (q - 1)) = downS (m - i) m d by
                  rw [← HO.out, show q - i = ((q - 1) - i) + 1 by omega, downS])
                have hsz2 : (Sort.swp dk (q) (q - 1)).size = sz := by rw [Sort.size_swp]; exact hsk
                rw [show (((q - 1 : Nat) : Int)) = (q : Int) - 1 by omega] at hs
                have qq : (q : Int) - 1 = ((q - 1 : Nat) : Int) := by omega
                have HS := Lib.hid hs
                have QQ := Lib.hid qq
                clear hsw hwe hs HO qq
                go_wp2_with fail
                rw [HS.out, Oper.upon_value]
                go_wp2
                go_roundw
                case rel => exact ⟨q - 1, _, by rw [← QQ.out], by omega, by omega, hsz2, HRe, e0, e1, by omega, HO2⟩
                case measure => simp [intOf]; omega
              · have hI2 : ¬ (i : Int) < (q : Int) := by omega
                have HF := Lib.hid (show RowAt enc k w blk off (symM lt (f + 1) a m b d) wd by
                  rw [HRES2.out, ← HO.out, show q - i = 0 by omega]; exact HRk.out)
                clear HRk HO HRES2
                go_wp2
                first | (go_end0; exact ⟨rfl, HF.out⟩) | ((try simp only [Exit.inBlock, Exit.then]); refine bodyPost_ret (results_none rfl _ _ _) rfl ?_; exact ⟨rfl, HF.out⟩)
      · have h2I : ((b : Int) - (m : Int) == 1) = false := by simp; omega
        obtain ⟨mid, hmid⟩ : ∃ mid, mid = (a + b) / 2 := ⟨_, rfl⟩
        have qmid : ((a : Int) + (b : Int)) / 2 = (mid : Int) := by omega
        have hmb2 : a < mid ∧ mid < b := by omega
        obtain ⟨hma, hmbb⟩ := hmb2
        obtain ⟨n, hn⟩ : ∃ n, n = mid + m := ⟨_, rfl⟩
        obtain ⟨st0, hst0⟩ : ∃ s, s = if mid < m then n - b else a := ⟨_, rfl⟩
        obtain ⟨r0, hr0⟩ : ∃ r, r = if mid < m then mid else m := ⟨_, rfl⟩
        have hgeo : st0 ≤ r0 ∧ r0 - st0 ≤ b - a ∧ r0 ≤ n ∧ n - st0 ≤ b ∧ a ≤ st0 ∧ 1 ≤ n ∧ r0 ≤ b ∧ (∀ h, st0 ≤ h → h < r0 → h ≤ n - 1 ∧ n - 1 - h < b) := by
          rw [hst0, hr0, hn]
          by_cases hc : mid < m
          · rw [if_pos hc, if_pos hc]; refine ⟨by omega, by omega, by omega, by omega, by omega, by omega, by omega, fun h x y => ⟨by omega, by omega⟩⟩
          · rw [if_neg hc, if_neg hc]; refine ⟨by omega, by omega, by omega, by omega, by omega, by omega, by omega, fun h x y => ⟨by omega, by omega⟩⟩
        obtain ⟨hg1, hg2, hg3, hg4, hg5, hg6, hg8, hg7⟩ := hgeo
        have HG7 := Lib.hid hg7
        obtain ⟨st, hst⟩ : ∃ s, s = bs3 lt d (n - 1) (b - a) st0 r0 := ⟨_, rfl⟩
        obtain ⟨en, hen⟩ : ∃ e, e = n - st := ⟨_, rfl⟩
        obtain ⟨D1, hD1⟩ : ∃ D, D = if st < m ∧ m < en then rot m (en - st) (m - st) (en - m) d else d := ⟨_, rfl⟩
        obtain ⟨D2, hD2⟩ : ∃ D, D = if a < st ∧ st < mid then symM lt f a st mid D1 else D1 := ⟨_, rfl⟩
        obtain ⟨D3, hD3⟩ : ∃ D, D = if mid < en ∧ en < b then symM lt f mid en b D2 else D2 := ⟨_, rfl⟩
        have HRES := Lib.hid (show symM lt (f + 1) a m b d = D3 by
          have e : (if mid < m then bs3 lt d (n - 1) (b - a) (n - b) mid else bs3 lt d (n - 1) (b - a) a m) = st := by
            rw [hst, hst0, hr0]
            split <;> rfl
          rw [symM, if_neg h1, if_neg h2]
          simp only
          rw [← hmid, ← hn, e, ← hen, ← hD1, ← hD2, ← hD3])
        have HD1 := Lib.hid hD1
        have HD2 := Lib.hid hD2
        have HD3 := Lib.hid hD3
        have HST := Lib.hid hst
        have HEN := Lib.hid hen
        have HST0 := Lib.hid hst0
        have HR0 := Lib.hid hr0
        have HN := Lib.hid hn
        have hnI : (mid : Int) + (m : Int) = (n : Int) := by omega
        have hp : (n : Int) - 1 = ((n - 1 : Nat) : Int) := by omega
        have hnb : n < 4611686018427387904 := by omega
        have hds1 : D1.size = sz := by
          rw [hD1]; split
          · rw [rot_size]; exact hds
          · exact hds
        have hds2 : D2.size = sz := by
          rw [hD2]; split
          · rw [sym_size]; exact hds1
          · exact hds1
        clear hst0 hr0 hst hen hD1 hD2 hD3 hg7 hmid hn
        rw [HRES.out]
        clear HRES
        go_enter Try.func119, Try.ntmps119
        go_upto_if 106 with fail
        go_cut [18, 19] (fun s18 s19 wx => s18 = .int .i64 st0 ∧ s19 = .int .i64 r0 ∧ Hid (RowAt enc k w blk off d wx) ∧ wx.cell? ⟨w.heap.size, 0, none⟩ = some (.func (.func g) #[] lb) ∧ wx.cell? ⟨w.heap.size, 1, none⟩ = some (.func (.func sf) #[] sb) ∧ w.heap.size < wx.heap.size)
        case first =>
          have HRA := Lib.hid (HR.out.below (W' := w.alloc (.cells #[.func (.func g) #[] lb, .func (.func sf) #[] sb] 119)) bwT hblk)
          by_cases hc : mid < m
          · have hcI : (mid : Int) < (m : Int) := by omega
            have e1 := HST0.out
            have e2 := HR0.out
            have e3 := HN.out
            rw [if_pos hc] at e1 e2
            have hs : (n : Int) - (b : Int) = (st0 : Int) := by omega
            have E2 := Lib.hid e2
            clear e1 e2 e3 hc
            go_wp2_with fail
            go_meet
            exact ⟨rfl, by rw [E2.out], HRA, by simp [go_sem], by simp [go_sem], by simp⟩
          · have hcI : ¬ (mid : Int) < (m : Int) := by omega
            have e1 := HST0.out
            have e2 := HR0.out
            rw [if_neg hc] at e1 e2
            have E1 := Lib.hid e1
            have E2 := Lib.hid e2
            clear e1 e2 hc
            go_wp2_with fail
            go_meet
            exact ⟨by rw [E1.out], by rw [E2.out], HRA, by simp [go_sem], by simp [go_sem], by simp⟩
        case rest =>
          obtain ⟨rfl, rfl, HRk, c0, c1, hlb⟩ := hcut
          obtain ⟨wy, hwy⟩ : ∃ W : World, W = wc := ⟨_, rfl⟩
          subst hwy
          clear HST0 HR0
          go_wp2
          go_loopw [18, 19, 21] (fun s1 s2 _ wr => ∃ (i j c : Nat), s1 = .int .i64 i ∧ s2 = .int .i64 j ∧ st0 ≤ i ∧ i ≤ j ∧ j ≤ r0 ∧ j - i ≤ c ∧ Hid (RowAt enc k w blk off d wr) ∧ wr.cell? ⟨w.heap.size, 0, none⟩ = some (.func (.func g) #[] lb) ∧ wr.cell? ⟨w.heap.size, 1, none⟩ = some (.func (.func sf) #[] sb) ∧ w.heap.size < wr.heap.size ∧ Hid (bs3 lt d (n - 1) c i j = bs3 lt d (n - 1) (b - a) st0 r0)) (fun s1 s2 _ _ => (intOf s2).toNat - (intOf s1).toNat)
          case atStart => exact ⟨st0, r0, b - a, rfl, rfl, Nat.le_refl _, hg1, Nat.le_refl _, hg2, HRk, c0, c1, hlb, Lib.hid rfl⟩
          case round =>
            obtain ⟨wb, hwb⟩ : ∃ wm : World, wm = wr := ⟨_, rfl⟩
            subst hwb
            obtain ⟨i, j, c, rfl, rfl, hi, hij, hj, hc, HRk, c0, c1, hlb, HO⟩ := hrel
            by_cases hlt : i < j
            · have hI : (i : Int) < (j : Int) := by omega
              obtain ⟨h, hh⟩ : ∃ h, h = (i + j) / 2 := ⟨_, rfl⟩
              have qh : ((i : Int) + (j : Int)) / 2 = (h : Int) := by omega
              have hih : i ≤ h ∧ h < j := by omega
              obtain ⟨hih1, hih2⟩ := hih
              obtain ⟨c', hc'⟩ : ∃ c', c = c' + 1 := ⟨c - 1, by omega⟩
              have hcu : j - (h + 1) ≤ c' ∧ h - i ≤ c' := by omega
              obtain ⟨hcu1, hcu2⟩ := hcu
              have hph := HG7.out h (by omega) (by omega)
              obtain ⟨hph1, hph2⟩ := hph
              have hl := HLESS.out wb d HRk.out hds (n - 1 - h) (h) (by omega) (by omega)
              rw [show (((n - 1 - h : Nat) : Int)) = ((n - 1 : Nat) : Int) - (h : Int) by omega] at hl
              cases hlv : lt d[n - 1 - h]! d[h]! with
              | true =>
                rw [hlv] at hl
                have HO2 := Lib.hid (show bs3 lt d (n - 1) c' i h = bs3 lt d (n - 1) (b - a) st0 r0 by rw [← HO.out, hc', bs3, if_pos hlt, ← hh, hlv]; rfl)
                clear hlv hh hc' HO
                go_wp2_with (go_at_fn g; refine hl.mono ?_; rintro e w' ⟨rfl, hb'⟩; have d0 := oldc hb' hlb c0; have d1 := oldc hb' hlb c1)
                have HRn := Lib.hid (HRk.out.below hb' hblk)
                have sb' := hb'.size
                go_roundw
                case rel => exact ⟨i, h, c', rfl, rfl, hi, by omega, by omega, by omega, HRn, d0, d1, by omega, HO2⟩
                case measure => simp [intOf]; omega
              | false =>
                rw [hlv] at hl
                have HO2 := Lib.hid (show bs3 lt d (n - 1) c' (h + 1) j = bs3 lt d (n - 1) (b - a) st0 r0 by rw [← HO.out, hc', bs3, if_pos hlt, ← hh, hlv]; rfl)
                clear hlv hh hc' HO
                go_wp2_with (go_at_fn g; refine hl.mono ?_; rintro e w' ⟨rfl, hb'⟩; have d0 := oldc hb' hlb c0; have d1 := oldc hb' hlb c1)
                have HRn := Lib.hid (HRk.out.below hb' hblk)
                have sb' := hb'.size
                go_roundw
                case rel => exact ⟨h + 1, j, c', by go_num, rfl, by omega, by omega, hj, by omega, HRn, d0, d1, by omega, HO2⟩
                case measure => simp [intOf]; omega
            · have hI : ¬ (i : Int) < (j : Int) := by omega
              obtain rfl : i = j := by omega
              have HB := Lib.hid (show bs3 lt d (n - 1) (b - a) st0 r0 = i by
                rw [← HO.out]
                cases c with
                | zero => rfl
                | succ c => rw [bs3, if_neg (by omega)])
              clear HO hc
              have HSTE := Lib.hid (show st = i from HST.out.trans HB.out)
              obtain rfl : st = i := HSTE.out
              clear HST HB HSTE HG7
              have hen2 : (n : Int) - (st : Int) = (en : Int) := by have := HEN.out; omega
              have hen3 : en ≤ b := by have := HEN.out; omega
              clear HEN
              obtain ⟨x1, hx1⟩ : ∃ x, x = decide (st < m ∧ m < en) := ⟨_, rfl⟩
              have Hx1 := Lib.hid hx1
              clear hx1
              go_upto_region 40 with fail
              go_cut [145] (fun s wx => s = .bool x1 ∧ wb = wx)
              case first =>
                by_cases e1 : st < m
                · have f1 : (st : Int) < (m : Int) := by omega
                  by_cases e2 : m < en
                  · have f2 : (m : Int) < (en : Int) := by omega
                    have HV := Lib.hid (show x1 = true by rw [Hx1.out]; exact decide_eq_true ⟨e1, e2⟩)
                    clear e1 e2
                    go_wp2_with fail
                    go_meet
                    exact ⟨by rw [HV.out], rfl⟩
                  · have f2 : ¬ (m : Int) < (en : Int) := by omega
                    have HV := Lib.hid (show x1 = false by rw [Hx1.out]; exact decide_eq_false (fun h => e2 h.2))
                    clear e1 e2
                    go_wp2_with fail
                    go_meet
                    exact ⟨by rw [HV.out], rfl⟩
                · have f1 : ¬ (st : Int) < (m : Int) := by omega
                  have HV := Lib.hid (show x1 = false by rw [Hx1.out]; exact decide_eq_false (fun h => e1 h.1))
                  clear e1
                  go_wp2_with fail
                  go_meet
                  exact ⟨by rw [HV.out], rfl⟩
              case rest =>
                obtain ⟨rfl, hwx⟩ := hcut
                subst hwx
                go_upto_if 145 with fail
                go_cut [22] (fun s wx => s = .int .i64 en ∧ Hid (RowAt enc k w blk off D1 wx) ∧ wx.cell? ⟨w.heap.size, 0, none⟩ = some (.func (.func g) #[] lb) ∧ wx.cell? ⟨w.heap.size, 1, none⟩ = some (.func (.func sf) #[] sb) ∧ w.heap.size < wx.heap.size)
                case first =>
                  cases x1
                  · have HDE := Lib.hid (show D1 = d by rw [HD1.out, if_neg (of_decide_eq_false Hx1.out.symm)])
                    have HRn := Lib.hid (show RowAt enc k w blk off D1 wb by rw [HDE.out]; exact HRk.out)
                    clear HRk
                    go_wp2_with fail
                    go_meet
                    exact ⟨rfl, HRn, c0, c1, hlb⟩
                  · have hx := of_decide_eq_true Hx1.out.symm
                    have HDE := Lib.hid (show D1 = _ by rw [HD1.out, if_pos hx])
                    obtain ⟨hx1, hx2⟩ := hx
                    have hlk := HRk.out.lt hblk
                    go_wp2_with fail
                    refine (rot_any enc k HK.out g lb sf sb blk off st m en _ _ _ rfl rfl rfl d _ (by rw [hds]; exact HSW.out) HRk.out.here hlk hx1 hx2 (by rw [hds]; omega) (by rw [hds]; omega)).mono ?_
                    rintro e w' ⟨rfl, hr⟩
                    have HRn := Lib.hid (show RowAt enc k w blk off D1 w' by rw [HDE.out]; exact HRk.out.on hr)
                    have d0 := hr.off.cellAt hlb (show w.heap.size ≠ blk by omega) c0
                    have d1 := hr.off.cellAt hlb (show w.heap.size ≠ blk by omega) c1
                    have se := hr.off.size
                    clear hr HRk c0 c1 HDE
                    go_wp2_with fail
                    go_meet
                    exact ⟨rfl, HRn, d0, d1, by omega⟩
                case rest =>
                  clear HRk c0 c1 hlb Hx1
                  obtain ⟨rfl, HRk, c0, c1, hlb⟩ := hcut
                  obtain ⟨wbb, hwbb⟩ : ∃ W : World, W = wc := ⟨_, rfl⟩
                  subst hwbb
                  obtain ⟨x2, hx2⟩ : ∃ x, x = decide (a < st ∧ st < mid) := ⟨_, rfl⟩
                  have Hx2 := Lib.hid hx2
                  clear hx2
                  go_upto_region 42 with fail
                  go_cut [158] (fun s wx => s = .bool x2 ∧ wbb = wx)
                  case first =>
                    by_cases e1 : a < st
                    · have f1 : (a : Int) < (st : Int) := by omega
                      by_cases e2 : st < mid
                      · have f2 : (st : Int) < (mid : Int) := by omega
                        have HV := Lib.hid (show x2 = true by rw [Hx2.out]; exact decide_eq_true ⟨e1, e2⟩)
                        clear e1 e2
                        go_wp2_with fail
                        go_meet
                        exact ⟨by rw [HV.out], rfl⟩
                      · have f2 : ¬ (st : Int) < (mid : Int) := by omega
                        have HV := Lib.hid (show x2 = false by rw [Hx2.out]; exact decide_eq_false (fun h => e2 h.2))
                        clear e1 e2
                        go_wp2_with fail
                        go_meet
                        exact ⟨by rw [HV.out], rfl⟩
                    · have f1 : ¬ (a : Int) < (st : Int) := by omega
                      have HV := Lib.hid (show x2 = false by rw [Hx2.out]; exact decide_eq_false (fun h => e1 h.1))
                      clear e1
                      go_wp2_with fail
                      go_meet
                      exact ⟨by rw [HV.out], rfl⟩
                  case rest =>
                    obtain ⟨rfl, hwx⟩ := hcut
                    subst hwx
                    go_upto_if 158 with fail
                    go_cut [22] (fun s wx => s = .int .i64 en ∧ Hid (RowAt enc k w blk off D2 wx) ∧ wx.cell? ⟨w.heap.size, 0, none⟩ = some (.func (.func g) #[] lb) ∧ wx.cell? ⟨w.heap.size, 1, none⟩ = some (.func (.func sf) #[] sb) ∧ w.heap.size < wx.heap.size)
                    case first =>
                      cases x2
                      · have HDE := Lib.hid (show D2 = D1 by rw [HD2.out, if_neg (of_decide_eq_false Hx2.out.symm)])
                        have HRn := Lib.hid (show RowAt enc k w blk off D2 wbb by rw [HDE.out]; exact HRk.out)
                        clear HRk
                        go_wp2_with fail
                        go_meet
                        exact ⟨rfl, HRn, c0, c1, hlb⟩
                      · have hx := of_decide_eq_true Hx2.out.symm
                        have HDE := Lib.hid (show D2 = _ by rw [HD2.out, if_pos hx])
                        obtain ⟨hx1, hx2⟩ := hx
                        have hlk := HRk.out.lt hblk
                        go_wp2_with fail
                        refine (IH.out a st mid _ _ _ rfl rfl rfl D1 _ hds1 (HLESS.out.on HRk.out) HRk.out.here hlk hx1 hx2 (by omega) (by omega)).mono ?_
                        rintro e w' ⟨rfl, hr⟩
                        have HRn := Lib.hid (show RowAt enc k w blk off D2 w' by rw [HDE.out]; exact HRk.out.on hr)
                        have d0 := hr.off.cellAt hlb (show w.heap.size ≠ blk by omega) c0
                        have d1 := hr.off.cellAt hlb (show w.heap.size ≠ blk by omega) c1
                        have se := hr.off.size
                        clear hr HRk c0 c1 HDE
                        go_wp2_with fail
                        go_meet
                        exact ⟨rfl, HRn, d0, d1, by omega⟩
                    case rest =>
                      clear HRk c0 c1 hlb Hx2
                      obtain ⟨rfl, HRk, c0, c1, hlb⟩ := hcut
                      obtain ⟨wbbb, hwbbb⟩ : ∃ W : World, W = wc := ⟨_, rfl⟩
                      subst hwbbb
                      obtain ⟨x3, hx3⟩ : ∃ x, x = decide (mid < en ∧ en < b) := ⟨_, rfl⟩
                      have Hx3 := Lib.hid hx3
                      clear hx3
                      go_upto_region 44 with fail
                      go_cut [171] (fun s wx => s = .bool x3 ∧ wbbb = wx)
                      case first =>
                        by_cases e1 : mid < en
                        · have f1 : (mid : Int) < (en : Int) := by omega
                          by_cases e2 : en < b
                          · have f2 : (en : Int) < (b : Int) := by omega
                            have HV := Lib.hid (show x3 = true by rw [Hx3.out]; exact decide_eq_true ⟨e1, e2⟩)
                            clear e1 e2
                            go_wp2_with fail
                            go_meet
                            exact ⟨by rw [HV.out], rfl⟩
                          · have f2 : ¬ (en : Int) < (b : Int) := by omega
                            have HV := Lib.hid (show x3 = false by rw [Hx3.out]; exact decide_eq_false (fun h => e2 h.2))
                            clear e1 e2
                            go_wp2_with fail
                            go_meet
                            exact ⟨by rw [HV.out], rfl⟩
                        · have f1 : ¬ (mid : Int) < (en : Int) := by omega
                          have HV := Lib.hid (show x3 = false by rw [Hx3.out]; exact decide_eq_false (fun h => e1 h.1))
                          clear e1
                          go_wp2_with fail
                          go_meet
                          exact ⟨by rw [HV.out], rfl⟩
                      case rest =>
                        obtain ⟨rfl, hwx⟩ := hcut
                        subst hwx
                        cases x3
                        · have HDE := Lib.hid (show D3 = D2 by rw [HD3.out, if_neg (of_decide_eq_false Hx3.out.symm)])
                          have HF := Lib.hid (show RowAt enc k w blk off D3 wbbb by rw [HDE.out]; exact HRk.out)
                          clear HRk
                          go_wp2
                          go_end0
                          exact ⟨rfl, HF.out⟩
                        · have hx := of_decide_eq_true Hx3.out.symm
                          have HDE := Lib.hid (show D3 = _ by rw [HD3.out, if_pos hx])
                          obtain ⟨hx1, hx2⟩ := hx
                          have hlk := HRk.out.lt hblk
                          go_wp2_with fail
                          refine (IH.out mid en b _ _ _ rfl rfl rfl D2 _ hds2 (HLESS.out.on HRk.out) HRk.out.here hlk hx1 hx2 (by omega) (by omega)).mono ?_
                          rintro e w' ⟨rfl, hr⟩
                          have HF := Lib.hid (show RowAt enc k w blk off D3 w' by rw [HDE.out]; exact HRk.out.on hr)
                          clear hr HRk c0 c1 HDE
                          go_wp2
                          go_end0
                          exact ⟨rfl, HF.out⟩
end
end Go.Proofs.Ytoipdgoejichbaa
