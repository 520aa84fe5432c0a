/- The library's stable sort, to the swap: stable_func. -/
import Derived.Test.YtoipdgoejichbaaSym
namespace Go.Proofs.Ytoipdgoejichbaa
set_option linter.unusedVariables false
set_option linter.unusedSimpArgs false
open Go.RowKit Go.Shelf

section
variable {α : Type} [Inhabited α] (lt : α → α → Bool)
theorem insInner_size (a : Nat) : ∀ (j : Nat) (d : Array α), (Sort.insInner lt a j d).size = d.size
  | 0, d => by rw [Sort.insInner]
  | j + 1, d => by
    rw [Sort.insInner]
    split
    · rw [insInner_size a j, Sort.size_swp]
    · rfl
theorem insOuter_size (a b : Nat) : ∀ (c i : Nat) (d : Array α), b - i ≤ c → (Sort.insOuter lt a b i d).size = d.size
  | 0, i, d, h => by rw [Sort.insOuter, if_neg (by omega)]
  | c + 1, i, d, h => by
    rw [Sort.insOuter]
    split
    · rw [insOuter_size a b c (i + 1) _ (by omega), insInner_size]
    · rfl
theorem ins_size (d : Array α) (a b : Nat) : (Sort.insertionSort lt d a b).size = d.size := insOuter_size lt a b _ _ d (Nat.le_refl _)
theorem insB_size (n : Nat) : ∀ (f a : Nat) (d : Array α), (insB lt n f a d).size = d.size
  | 0, a, d => ins_size lt d a n
  | f + 1, a, d => by
    rw [insB]
    split
    · rw [insB_size n f, ins_size]
    · exact ins_size lt d a n
theorem mrg_size (n bs : Nat) : ∀ (f a : Nat) (d : Array α), (mrg lt n bs f a d).size = d.size
  | 0, _, _ => rfl
  | f + 1, a, d => by
    rw [mrg]
    split
    · rw [mrg_size n bs f, sym_size]
    · split
      · exact sym_size ..
      · rfl
end
section
variable {α : Type} [Inhabited α]
set_option maxHeartbeats 8000000 in
set_option maxRecDepth 100000 in
theorem stb_any (enc : α → List Value) (k : Nat) (hk : ∀ x, (enc x).length = k) (lt : α → α → Bool) (g : Nat) (lb : Array Value) (sf : Nat) (sb : Array Value) (blk off : Nat) (eg : ∀ args w, (callFunc g args).run Try.prog w = .ok (.enter g args) w) (n : Nat) (hsz : n ≤ 1000000) (hswap : SwapSwapsK Try.prog sf sb enc k blk off n) (d : Array α) (w : World) (hds : d.size = n) (hless : LessG Try.prog g lb enc k lt w blk off n) (hR : RowAt enc k w blk off d w) (hblk : blk < w.heap.size) :
    Calls Try.prog 101 #[.agg #[.func (.func g) #[] lb, .func (.func sf) #[] sb], .int .i64 n] w fun e w' => e = .returned (.tuple #[]) ∧ RowAt enc k w blk off (stableA lt n d) w' := by
  have HR := Lib.hid hR
  have HSW := Lib.hid hswap
  have HLESS := Lib.hid hless
  have HK := Lib.hid hk
  obtain ⟨R1, hR1⟩ : ∃ R, R = insB lt n n 0 d := ⟨_, rfl⟩
  obtain ⟨R2, hR2⟩ : ∃ R, R = pas lt n n 20 R1 := ⟨_, rfl⟩
  have hRES : stableA lt n d = R2 := by rw [hR2, hR1]; rfl
  have hR1s : R1.size = n := by rw [hR1, insB_size]; exact hds
  have HR1 := Lib.hid hR1
  have HR2 := Lib.hid hR2
  rw [hRES]
  clear hR hswap hk hless hR1 hR2 hRES
  go_enter Try.func101, Try.ntmps101
  go_wp2
  go_loopw [5, 6] (fun s5 s6 wr => ∃ (a b f : Nat) (dk : Array α), s5 = .int .i64 a ∧ s6 = .int .i64 b ∧ Hid (b = a + 20) ∧ a ≤ n ∧ n ≤ a + f ∧ dk.size = n ∧ Hid (RowAt enc k w blk off dk wr) ∧ wr.cell? ⟨w.heap.size, 0, none⟩ = some (.func (.func g) #[] lb) ∧ wr.cell? ⟨w.heap.size, 1, none⟩ = some (.func (.func sf) #[] sb) ∧ w.heap.size < wr.heap.size ∧ Hid (insB lt n f a dk = R1)) (fun _ s6 _ => n + 20 - (intOf s6).toNat)
  case atStart => exact ⟨0, 20, n, d, rfl, rfl, Lib.hid rfl, Nat.zero_le _, by omega, hds, Lib.hid (HR.out.below bwT hblk), by simp [go_sem], by simp [go_sem], by simp, Lib.hid HR1.out.symm⟩
  case round =>
    clear HR
    obtain ⟨wb, hwb⟩ : ∃ wm : World, wm = wr := ⟨_, rfl⟩
    subst hwb
    obtain ⟨a, b, f, dk, rfl, rfl, HB, han, haf, hsk, HRk, c0, c1, hlb, HO⟩ := hrel
    have hb1 : b = a + 20 := HB.out
    have hb2 : b ≤ n + 20 := by omega
    have hab : a ≤ b := by omega
    have hlk := HRk.out.lt hblk
    by_cases hlt : b ≤ n
    · have hI : (b : Int) ≤ (n : Int) := by omega
      obtain ⟨f', hf'⟩ : ∃ f', f = f' + 1 := ⟨f - 1, by omega⟩
      have HO2 := Lib.hid (show insB lt n f' b (Sort.insertionSort lt dk a b) = R1 by rw [← HO.out, hf', insB, ← hb1, if_pos hlt])
      have hfb : n ≤ b + f' := by omega
      clear HO hf' hb1
      go_wp2_with fail
      refine (insG_any enc k HK.out lt g lb sf sb blk off a b dk _ _ eg (by rw [hsk]; exact HLESS.out.on HRk.out) (by rw [hsk]; exact HSW.out) HRk.out.here hlk hab (by omega) (by omega)).mono ?_
      rintro e w' ⟨rfl, hr⟩
      have e0 := hr.off.cellAt hlb (show w.heap.size ≠ blk by omega) c0
      have e1 := hr.off.cellAt hlb (show w.heap.size ≠ blk by omega) c1
      have se := hr.off.size
      have HRe := Lib.hid (HRk.out.on hr)
      clear hr HRk HB
      go_wp2
      go_roundw
      case rel => exact ⟨b, b + 20, f', _, rfl, by go_num, Lib.hid rfl, hlt, hfb, by rw [ins_size]; exact hsk, HRe, e0, e1, by omega, HO2⟩
      case measure => simp [intOf]; omega
    · have hI : ¬ (b : Int) ≤ (n : Int) := by omega
      have HO2 := Lib.hid (show Sort.insertionSort lt dk a n = R1 by
        rw [← HO.out]
        cases f with
        | zero => rfl
        | succ f => rw [insB, ← hb1, if_neg hlt])
      clear HO hb1 haf
      go_wp2_with fail
      refine (insG_any enc k HK.out lt g lb sf sb blk off a n dk _ _ eg (by rw [hsk]; exact HLESS.out.on HRk.out) (by rw [hsk]; exact HSW.out) HRk.out.here hlk han (by omega) (by omega)).mono ?_
      rw [HO2.out]
      rintro e w' ⟨rfl, hr⟩
      have e0 := hr.off.cellAt hlb (show w.heap.size ≠ blk by omega) c0
      have e1 := hr.off.cellAt hlb (show w.heap.size ≠ blk by omega) c1
      have se := hr.off.size
      have HRe := Lib.hid (HRk.out.on hr)
      have hle : w.heap.size < w'.heap.size := by omega
      clear hr HRk HB c0 c1 hlb HO2 HR1 hsk
      go_wp2
      go_loopw [4, 5, 6, 7] (fun s4 _ _ _ wr => ∃ (bs f : Nat) (dk : Array α), s4 = .int .i64 bs ∧ 20 ≤ bs ∧ bs ≤ 2 * n + 20 ∧ n ≤ bs + f ∧ dk.size = n ∧ Hid (RowAt enc k w blk off dk wr) ∧ wr.cell? ⟨w.heap.size, 0, none⟩ = some (.func (.func g) #[] lb) ∧ wr.cell? ⟨w.heap.size, 1, none⟩ = some (.func (.func sf) #[] sb) ∧ w.heap.size < wr.heap.size ∧ Hid (pas lt n f bs dk = R2)) (fun s4 _ _ _ _ => 2 * n + 20 - (intOf s4).toNat)
      case atStart => exact ⟨20, n, R1, rfl, Nat.le_refl _, by omega, by omega, hR1s, HRe, e0, e1, hle, Lib.hid HR2.out.symm⟩
      case round =>
        clear HRe e0 e1 hle HR2
        obtain ⟨wd, hwd⟩ : ∃ wm : World, wm = wr := ⟨_, rfl⟩
        subst hwd
        obtain ⟨bs, f, dk, rfl, hbs, hbs2, hbf, hsk, HRk, c0, c1, hlb, HO⟩ := hrel
        by_cases hlt2 : bs < n
        · have hI2 : (bs : Int) < (n : Int) := by omega
          obtain ⟨f', hf'⟩ : ∃ f', f = f' + 1 := ⟨f - 1, by omega⟩
          obtain ⟨M, hM⟩ : ∃ M, M = mrg lt n bs (n + 1) 0 dk := ⟨_, rfl⟩
          have hMs : M.size = n := by rw [hM, mrg_size]; exact hsk
          have HM := Lib.hid hM
          have HO2 := Lib.hid (show pas lt n f' (2 * bs) M = R2 by rw [← HO.out, hf', pas, if_pos hlt2, hM])
          have hfb : n ≤ 2 * bs + f' := by omega
          clear HO hf' hM
          go_wp2
          go_loopw [5, 6] (fun s5 s6 wr => ∃ (a b c : Nat) (dk : Array α), s5 = .int .i64 a ∧ s6 = .int .i64 b ∧ Hid (b = a + 2 * bs) ∧ a ≤ n ∧ n + 1 ≤ a + c ∧ dk.size = n ∧ Hid (RowAt enc k w blk off dk wr) ∧ wr.cell? ⟨w.heap.size, 0, none⟩ = some (.func (.func g) #[] lb) ∧ wr.cell? ⟨w.heap.size, 1, none⟩ = some (.func (.func sf) #[] sb) ∧ w.heap.size < wr.heap.size ∧ Hid (mrg lt n bs c a dk = M)) (fun _ s6 _ => 3 * n - (intOf s6).toNat)
          case atStart => exact ⟨0, 2 * bs, n + 1, dk, rfl, by go_num, Lib.hid (by omega), Nat.zero_le _, by omega, hsk, HRk, c0, c1, hlb, Lib.hid HM.out.symm⟩
          case round =>
            clear HRk c0 c1 hlb HM hsk
            obtain ⟨we, hwe⟩ : ∃ wm : World, wm = wr := ⟨_, rfl⟩
            subst hwe
            obtain ⟨a, b, c, dk, rfl, rfl, HB, han, hac, hsk, HRk, c0, c1, hlb, HO⟩ := hrel
            have hb1 : b = a + 2 * bs := HB.out
            obtain ⟨c', hc'⟩ : ∃ c', c = c' + 1 := ⟨c - 1, by omega⟩
            have hlk := HRk.out.lt hblk
            have hb3 : b ≤ 3 * n := by omega
            by_cases hlt3 : b ≤ n
            · have hI3 : (b : Int) ≤ (n : Int) := by omega
              have HO3 := Lib.hid (show mrg lt n bs c' b (symM lt n a (a + bs) b dk) = M by rw [← HO.out, hc', mrg, ← hb1, if_pos hlt3])
              have hfc : n + 1 ≤ b + c' := by omega
              have ham : a + bs < b := by omega
              clear HO hc' hb1
              go_wp2_with fail
              refine (sym_any enc k HK.out lt g lb sf sb blk off eg n (by omega) HSW.out n a (a + bs) b _ _ _ rfl (by omega) rfl dk _ hsk (HLESS.out.on HRk.out) HRk.out.here hlk (by omega) ham hlt3 (by omega)).mono ?_
              rintro e w' ⟨rfl, hr⟩
              have e0 := hr.off.cellAt hlb (show w.heap.size ≠ blk by omega) c0
              have e1 := hr.off.cellAt hlb (show w.heap.size ≠ blk by omega) c1
              have se := hr.off.size
              have HRe := Lib.hid (HRk.out.on hr)
              clear hr HRk HB
              go_wp2
              go_roundw
              case rel => exact ⟨b, b + 2 * bs, c', _, rfl, by go_num, Lib.hid rfl, hlt3, hfc, by rw [sym_size]; exact hsk, HRe, e0, e1, by omega, HO3⟩
              case measure => simp [intOf]; omega
            · have hI3 : ¬ (b : Int) ≤ (n : Int) := by omega
              have HO3 := Lib.hid (show (if a + bs < n then symM lt n a (a + bs) n dk else dk) = M by rw [← HO.out, hc', mrg, ← hb1, if_neg hlt3])
              clear HO hc' hb1
              by_cases hmn : a + bs < n
              · have hmI : (a : Int) + (bs : Int) < (n : Int) := by omega
                rw [if_pos hmn] at HO3
                go_wp2_with fail
                refine (sym_any enc k HK.out lt g lb sf sb blk off eg n (by omega) HSW.out n a (a + bs) n _ _ _ rfl (by omega) rfl dk _ hsk (HLESS.out.on HRk.out) HRk.out.here hlk (by omega) hmn (Nat.le_refl _) (by omega)).mono ?_
                rw [HO3.out]
                rintro e w' ⟨rfl, hr⟩
                have e0 := hr.off.cellAt hlb (show w.heap.size ≠ blk by omega) c0
                have e1 := hr.off.cellAt hlb (show w.heap.size ≠ blk by omega) c1
                have se := hr.off.size
                have HRe := Lib.hid (HRk.out.on hr)
                clear hr HRk HB
                go_wp2
                go_roundw
                case rel => exact ⟨2 * bs, f', _, by go_num, by omega, by omega, hfb, hMs, HRe, e0, e1, by omega, HO2⟩
                case measure => simp [intOf]; omega
              · have hmI : ¬ (a : Int) + (bs : Int) < (n : Int) := by omega
                rw [if_neg hmn] at HO3
                have HRe := Lib.hid (show RowAt enc k w blk off M we by rw [← HO3.out]; exact HRk.out)
                clear HRk HB
                go_wp2
                go_roundw
                case rel => exact ⟨2 * bs, f', _, by go_num, by omega, by omega, hfb, hMs, HRe, c0, c1, hlb, HO2⟩
                case measure => simp [intOf]; omega
        · have hI2 : ¬ (bs : Int) < (n : Int) := by omega
          have HF := Lib.hid (show RowAt enc k w blk off R2 wd by
            have e : pas lt n f bs dk = dk := by
              cases f with
              | zero => rfl
              | succ f => rw [pas, if_neg hlt2]
            rw [← HO.out, e]; exact HRk.out)
          clear HRk HO
          go_wp2
          go_end0
          exact ⟨rfl, HF.out⟩
end
end Go.Proofs.Ytoipdgoejichbaa
