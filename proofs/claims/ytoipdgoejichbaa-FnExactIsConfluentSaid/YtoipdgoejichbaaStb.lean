/- The library's stable sort: its functions, to the swap; the comparison may lay blocks of its own. -/
import Derived.Test.YtoipdgoejichbaaInsK
import Derived.Test.YtoipdgoejichbaaStbP
namespace Go.Proofs.Ytoipdgoejichbaa
set_option linter.unusedVariables false
set_option linter.unusedSimpArgs false
open Go.RowKit Go.Shelf

theorem swr_size {α : Type} [Inhabited α] (a b : Nat) : ∀ (n i : Nat) (d : Array α), (swr a b n i d).size = d.size
  | 0, _, _ => rfl
  | n + 1, i, d => by rw [swr, swr_size a b n]; exact Sort.size_swp ..
theorem rot_size {α : Type} [Inhabited α] (m : Nat) : ∀ (f i j : Nat) (d : Array α), (rot m f i j d).size = d.size
  | 0, _, _, _ => rfl
  | f + 1, i, j, d => by
    rw [rot]
    split
    · exact swr_size ..
    · split
      · rw [rot_size m f, swr_size]
      · rw [rot_size m f, swr_size]
section
variable {α : Type} [Inhabited α] {enc : α → List Value} {k : Nat} {w0 W W' : World} {blk off : Nat} {d d' : Array α}
theorem RowAt.here (h : RowAt enc k w0 blk off d W) : RowAt enc k W blk off d W := ⟨h.holds, h.frz, OffF.refl _ _⟩
theorem RowAt.on (h : RowAt enc k w0 blk off d W) (h' : RowAt enc k W blk off d' W') : RowAt enc k w0 blk off d' W' := ⟨h'.holds, h'.frz, h.off.trans h'.off⟩
theorem RowAt.lt (h : RowAt enc k w0 blk off d W) (hl : blk < w0.heap.size) : blk < W.heap.size := Nat.lt_of_lt_of_le hl h.off.size
theorem LessG.on {P : Program} {g : Nat} {lb : Array Value} {lt : α → α → Bool} {n : Nat} (hl : LessG P g lb enc k lt w0 blk off n) (h : RowAt enc k w0 blk off d W) : LessG P g lb enc k lt W blk off n :=
  fun W' d' h' hs i j hi hj => hl W' d' (h.on h') hs i j hi hj
theorem OffF.cellAt {b o : Nat} {v : Value} (h : OffF [blk] W W') (hb : b < W.heap.size) (hne : b ≠ blk) (hc : W.cell? ⟨b, o, none⟩ = some v) : W'.cell? ⟨b, o, none⟩ = some v :=
  (World.cell?_of_block (w := W) (a := ⟨b, o, none⟩) (h.block b hb (by simpa using hne))).trans hc
end
section
variable {α : Type} [Inhabited α]
set_option maxHeartbeats 4000000 in
set_option maxRecDepth 100000 in
theorem swr_any (enc : α → List Value) (k : Nat) (hk : ∀ x, (enc x).length = k) (g : Nat) (lb : Array Value) (sf : Nat) (sb : Array Value) (blk off a b n : Nat) (A B N : Int) (hA : A = (a : Int)) (hB : B = (b : Int)) (hN : N = (n : Int)) (d : Array α) (w : World)
    (hswap : SwapSwapsK Try.prog sf sb enc k blk off d.size) (hR : RowAt enc k w blk off d w) (hblk : blk < w.heap.size) (ha : a + n ≤ d.size) (hb : b + n ≤ d.size) (hsz : d.size < 2305843009213693952) :
    Calls Try.prog 126 #[.agg #[.func (.func g) #[] lb, .func (.func sf) #[] sb], .int .i64 A, .int .i64 B, .int .i64 N] w fun e w' => e = .returned (.tuple #[]) ∧ RowAt enc k w blk off (swr a b n 0 d) w' := by
  subst hA hB hN
  have HR := Lib.hid hR
  have HSW := Lib.hid hswap
  have HK := Lib.hid hk
  clear hR hswap hk
  go_enter Try.func126, Try.ntmps126
  go_wp2
  go_loopw [8] (fun s8 wr => ∃ (i : Nat) (dk : Array α), i ≤ n ∧ s8 = .int .i64 i ∧ dk.size = d.size ∧ Hid (RowAt enc k w blk off dk wr) ∧ wr.cell? ⟨w.heap.size, 0, none⟩ = some (.func (.func g) #[] lb) ∧ wr.cell? ⟨w.heap.size, 1, none⟩ = some (.func (.func sf) #[] sb) ∧ w.heap.size < wr.heap.size ∧ Hid (swr a b (n - i) i dk = swr a b n 0 d)) (fun s8 _ => n - (intOf s8).toNat)
  case atStart => exact ⟨0, d, Nat.zero_le _, rfl, rfl, Lib.hid (HR.out.below bwT hblk), by simp [go_sem], by simp [go_sem], by simp, Lib.hid rfl⟩
  case round =>
    clear HR
    obtain ⟨wb, hwb⟩ : ∃ wm : World, wm = wr := ⟨_, rfl⟩
    subst hwb
    obtain ⟨i, dk, hi, rfl, hsk, HRk, c0, c1, hlb, HO⟩ := hrel
    by_cases hlt : i < n
    · have hI : (i : Int) < (n : Int) := by omega
      have hs := HSW.out wb dk HRk.out.holds hsk (a + i) (b + i) (by omega) (by omega)
      have hsw := HRk.out.swp HK.out (i := a + i) (j := b + i) (by omega) (by omega)
      obtain ⟨we, hwe⟩ : ∃ W : World, W = (wb.setCells blk (off + (a + i) * k) (enc dk[b + i]!)).setCells blk (off + (b + i) * k) (enc dk[a + i]!) := ⟨_, rfl⟩
      rw [← hwe] at hsw hs
      have e0 := hsw.2.cellAt hlb (show w.heap.size ≠ blk by omega) c0
      have e1 := hsw.2.cellAt hlb (show w.heap.size ≠ blk by omega) c1
      have se := hsw.2.size
      have HRe := Lib.hid hsw.1
      have HO2 := Lib.hid (show swr a b (n - (i + 1)) (i + 1) (Sort.swp dk (a + i) (b + i)) = swr a b n 0 d by
        rw [← HO.out, show n - i = (n - (i + 1)) + 1 by omega, swr])
      have hsz2 : (Sort.swp dk (a + i) (b + i)).size = d.size := by rw [Sort.size_swp]; exact hsk
      rw [show (((a + i : Nat) : Int)) = (a : Int) + (i : Int) by omega, show (((b + i : Nat) : Int)) = (b : Int) + (i : Int) by omega] at hs
      have HS := Lib.hid hs
      clear hsw hwe hs
      go_wp2_with fail
      rw [HS.out, Oper.upon_value]
      go_wp2
      go_roundw
      case rel => exact ⟨i + 1, _, by omega, by go_num, hsz2, HRe, e0, e1, by omega, HO2⟩
      case measure => simp [intOf]; omega
    · have hI : ¬ (i : Int) < (n : Int) := by omega
      have HF := Lib.hid (show RowAt enc k w blk off (swr a b n 0 d) wb by
        rw [← HO.out, show n - i = 0 by omega]; exact HRk.out)
      clear HRk HO
      go_wp2
      go_end0
      exact ⟨rfl, HF.out⟩
end
section
variable {α : Type} [Inhabited α]
set_option maxHeartbeats 4000000 in
set_option maxRecDepth 100000 in
theorem rot_any (enc : α → List Value) (k : Nat) (hk : ∀ x, (enc x).length = k) (g : Nat) (lb : Array Value) (sf : Nat) (sb : Array Value) (blk off a m b : Nat) (A M B : Int) (hA : A = (a : Int)) (hM : M = (m : Int)) (hB : B = (b : Int)) (d : Array α) (w : World)
    (hswap : SwapSwapsK Try.prog sf sb enc k blk off d.size) (hR : RowAt enc k w blk off d w) (hblk : blk < w.heap.size) (ham : a < m) (hmb : m < b) (hb : b ≤ d.size) (hsz : d.size < 2305843009213693952) :
    Calls Try.prog 125 #[.agg #[.func (.func g) #[] lb, .func (.func sf) #[] sb], .int .i64 A, .int .i64 M, .int .i64 B] w fun e w' => e = .returned (.tuple #[]) ∧ RowAt enc k w blk off (rot m (b - a) (m - a) (b - m) d) w' := by
  subst hA hM hB
  have HR := Lib.hid hR
  have HSW := Lib.hid hswap
  have HK := Lib.hid hk
  clear hR hswap hk
  have q1 : (m : Int) - (a : Int) = ((m - a : Nat) : Int) := by omega
  have q2 : (b : Int) - (m : Int) = ((b - m : Nat) : Int) := by omega
  obtain ⟨i0, hi0⟩ : ∃ i, i = m - a := ⟨_, rfl⟩
  obtain ⟨j0, hj0⟩ : ∃ j, j = b - m := ⟨_, rfl⟩
  rw [← hi0] at q1 ⊢
  rw [← hj0] at q2 ⊢
  have hij : i0 ≤ m ∧ m + j0 ≤ d.size ∧ 1 ≤ i0 ∧ 1 ≤ j0 ∧ i0 + j0 = b - a := by omega
  obtain ⟨g1, g2, g3, g4, g5⟩ := hij
  have HF0 := Lib.hid g5
  clear hi0 hj0 g5
  go_enter Try.func125, Try.ntmps125
  go_wp2
  go_loopw [8, 9] (fun s8 s9 wr => ∃ (i j f : Nat) (dk : Array α), s8 = .int .i64 i ∧ s9 = .int .i64 j ∧ i ≤ m ∧ m + j ≤ d.size ∧ 1 ≤ i ∧ 1 ≤ j ∧ i + j ≤ f ∧ dk.size = d.size ∧ Hid (RowAt enc k w blk off dk wr) ∧ wr.cell? ⟨w.heap.size, 0, none⟩ = some (.func (.func g) #[] lb) ∧ wr.cell? ⟨w.heap.size, 1, none⟩ = some (.func (.func sf) #[] sb) ∧ w.heap.size < wr.heap.size ∧ Hid (rot m f i j dk = rot m (b - a) i0 j0 d)) (fun s8 s9 _ => (intOf s8).toNat + (intOf s9).toNat)
  case atStart => exact ⟨i0, j0, b - a, d, rfl, rfl, g1, g2, g3, g4, by have := HF0.out; omega, rfl, Lib.hid (HR.out.below bwT hblk), by simp [go_sem], by simp [go_sem], by simp, Lib.hid rfl⟩
  case round =>
    clear HR q1 q2 HF0
    obtain ⟨wb, hwb⟩ : ∃ wm : World, wm = wr := ⟨_, rfl⟩
    subst hwb
    obtain ⟨i, j, f, dk, rfl, rfl, h1, h2, h3, h4, hf, hsk, HRk, c0, c1, hlb, HO⟩ := hrel
    obtain ⟨f', hf'⟩ : ∃ f', f = f' + 1 := ⟨f - 1, by omega⟩
    have HSK : SwapSwapsK Try.prog sf sb enc k blk off dk.size := by rw [hsk]; exact HSW.out
    have HSK := Lib.hid HSK
    have hlk := HRk.out.lt hblk
    by_cases hij : i = j
    · subst hij
      have HF := Lib.hid (show rot m (b - a) i0 j0 d = swr (m - i) m i 0 dk by rw [← HO.out, hf', rot, if_pos rfl])
      clear HO hf hf'
      go_wp2_with fail
      refine (swr_any enc k HK.out g lb sf sb blk off (m - i) m i _ _ _ (by omega) rfl rfl dk _ HSK.out (HRk.out.here.below bwT hlk |>.here) hlk (by omega) (by omega) (by omega)).mono ?_
      rintro e w' ⟨rfl, hr⟩
      have HFF := Lib.hid (show RowAt enc k w blk off (rot m (b - a) i0 j0 d) w' by rw [HF.out]; exact HRk.out.on hr)
      clear hr HRk
      go_wp2
      go_end0
      exact ⟨rfl, HFF.out⟩
    · have hne : ((i : Int) == (j : Int)) = false := by simp; omega
      by_cases hji : j < i
      · have hJ : (j : Int) < (i : Int) := by omega
        have HO2 := Lib.hid (show rot m f' (i - j) j (swr (m - i) m j 0 dk) = rot m (b - a) i0 j0 d by rw [← HO.out, hf', rot, if_neg hij, if_pos hji])
        clear HO
        go_wp2_with fail
        refine (swr_any enc k HK.out g lb sf sb blk off (m - i) m j _ _ _ (by omega) rfl rfl dk _ HSK.out (HRk.out.here.below bwT hlk |>.here) hlk (by omega) (by omega) (by omega)).mono ?_
        rintro e w' ⟨rfl, hr⟩
        have e0 := hr.off.cellAt hlb (show w.heap.size ≠ blk by omega) c0
        have e1 := hr.off.cellAt hlb (show w.heap.size ≠ blk by omega) c1
        have se := hr.off.size
        have HRe := Lib.hid (HRk.out.on hr)
        have hq : (i : Int) - (j : Int) = ((i - j : Nat) : Int) := by omega
        clear hr HRk
        go_wp2
        go_roundw
        case rel => exact ⟨i - j, j, f', _, rfl, rfl, by omega, by omega, by omega, by omega, by omega, by rw [swr_size]; exact hsk, HRe, e0, e1, by omega, HO2⟩
        case measure => simp [intOf]; omega
      · have hJ : ¬ (j : Int) < (i : Int) := by omega
        have HO2 := Lib.hid (show rot m f' i (j - i) (swr (m - i) (m + j - i) i 0 dk) = rot m (b - a) i0 j0 d by rw [← HO.out, hf', rot, if_neg hij, if_neg hji])
        clear HO
        go_wp2_with fail
        refine (swr_any enc k HK.out g lb sf sb blk off (m - i) (m + j - i) i _ _ _ (by omega) (by omega) rfl dk _ HSK.out (HRk.out.here.below bwT hlk |>.here) hlk (by omega) (by omega) (by omega)).mono ?_
        rintro e w' ⟨rfl, hr⟩
        have e0 := hr.off.cellAt hlb (show w.heap.size ≠ blk by omega) c0
        have e1 := hr.off.cellAt hlb (show w.heap.size ≠ blk by omega) c1
        have se := hr.off.size
        have HRe := Lib.hid (HRk.out.on hr)
        have hq : (j : Int) - (i : Int) = ((j - i : Nat) : Int) := by omega
        clear hr HRk
        go_wp2
        go_roundw
        case rel => exact ⟨i, j - i, f', _, rfl, rfl, by omega, by omega, by omega, by omega, by omega, by rw [swr_size]; exact hsk, HRe, e0, e1, by omega, HO2⟩
        case measure => simp [intOf]; omega
end
end Go.Proofs.Ytoipdgoejichbaa
