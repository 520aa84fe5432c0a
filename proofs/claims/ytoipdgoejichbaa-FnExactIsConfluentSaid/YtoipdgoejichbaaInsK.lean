/- Ours: sort.Slice at most twelve items of many cells, where the comparison may lay blocks of its own: the row ends sorted by insertion. -/
import Derived.Test.YtoipdgoejichbaaSortK
import Derived.Test.YtoipdgoejichbaaProg
namespace Go.Proofs.Ytoipdgoejichbaa
set_option linter.unusedVariables false
set_option linter.unusedSimpArgs false
open Go.RowKit Go.Shelf

section
variable {α : Type} [Inhabited α]
/-- The row holds these items; of the blocks that lay in w0 the row's alone has turned. -/
structure RowAt (enc : α → List Value) (k : Nat) (w0 : World) (blk off : Nat) (d : Array α) (W : World) : Prop where
  holds : Sort.HoldsK enc k W blk off d
  frz : ∀ o, W.frozen? ⟨blk, o, none⟩ = false
  off : OffF [blk] w0 W
theorem RowAt.below {enc : α → List Value} {k : Nat} {w0 W W' : World} {blk off : Nat} {d : Array α} (h : RowAt enc k w0 blk off d W) (hb : Below W.heap.size W W') (hl : blk < w0.heap.size) : RowAt enc k w0 blk off d W' := by
  have hl' : blk < W.heap.size := Nat.lt_of_lt_of_le hl h.off.size
  exact ⟨fun j hj => ⟨(hb.cell (p := ⟨blk, off + j, none⟩) hl').trans (h.holds j hj).1, (hb.frozen (p := ⟨blk, off + j, none⟩) hl').trans (h.holds j hj).2⟩, fun o => (hb.frozen (p := ⟨blk, o, none⟩) hl').trans (h.frz o), h.off.below hb⟩
theorem putRow_off (W : World) (blk off : Nat) (F : Array Value) : OffF [blk] W (Sort.putRow id W blk off F) := by
  refine ⟨rfl, rfl, rfl, by simp [Sort.putRow, Sort.mapBlock], fun b _ hn => ?_⟩
  have hne : b ≠ blk := by simpa using hn
  unfold Sort.putRow Sort.mapBlock
  simp only [Array.getElem?_modify]
  rw [if_neg (Ne.symm hne)]
theorem putRow_frz (W : World) (blk off : Nat) (F : Array Value) (h : ∀ o, W.frozen? ⟨blk, o, none⟩ = false) (o : Nat) : (Sort.putRow id W blk off F).frozen? ⟨blk, o, none⟩ = false := by
  have hb2 := h o
  unfold World.frozen? Sort.putRow Sort.mapBlock at *
  simp only [Array.getElem?_modify, if_true] at *
  cases hh : W.heap[blk]? with
  | none => simp
  | some ob =>
    rw [hh] at hb2
    cases ob <;> simp_all [Sort.onCells]
theorem swp_eq {enc : α → List Value} {k : Nat} (hk : ∀ x, (enc x).length = k) {W : World} {blk off : Nat} {d : Array α} (h : Sort.HoldsK enc k W blk off d) {i j : Nat} (hi : i < d.size) (hj : j < d.size) :
    (W.setCells blk (off + i * k) (enc d[j]!)).setCells blk (off + j * k) (enc d[i]!) = Sort.putRow id W blk off (Sort.flatK enc k (Sort.swp d i j)) := by
  have e := Sort.swap_worldK enc k hk W 0 0 blk off d i j hi hj
  have e0 := Sort.putRowK_self enc k W blk off d h
  simp only [Sort.ahead_zero, Nat.add_zero, World.drewN_zero] at e
  rw [e0] at e
  exact e
theorem RowAt.swp {enc : α → List Value} {k : Nat} (hk : ∀ x, (enc x).length = k) {w0 W : World} {blk off : Nat} {d : Array α} (h : RowAt enc k w0 blk off d W) {i j : Nat} (hi : i < d.size) (hj : j < d.size) :
    RowAt enc k w0 blk off (Sort.swp d i j) ((W.setCells blk (off + i * k) (enc d[j]!)).setCells blk (off + j * k) (enc d[i]!)) ∧ OffF [blk] W ((W.setCells blk (off + i * k) (enc d[j]!)).setCells blk (off + j * k) (enc d[i]!)) := by
  rw [swp_eq hk h.holds hi hj]
  exact ⟨⟨Sort.holdsK_putRowK enc k W blk off d _ h.holds (by simp [Sort.size_swp]), putRow_frz W blk off _ h.frz, h.off.trans (putRow_off W blk off _)⟩, putRow_off W blk off _⟩
/-- What the comparison must do: answer by the row's items; of what lay it turns nothing. -/
def LessG (P : Program) (g : Nat) (lb : Array Value) (enc : α → List Value) (k : Nat) (lt : α → α → Bool) (w0 : World) (blk off size : Nat) : Prop :=
  ∀ (W : World) (d : Array α), RowAt enc k w0 blk off d W → d.size = size → ∀ i j : Nat, i < size → j < size →
    Calls P g (#[.int .i64 i, .int .i64 j] ++ lb) W fun e w' => e = .returned (.bool (lt d[i]! d[j]!)) ∧ Below W.heap.size W w'
end

section
variable {α : Type} [Inhabited α]
set_option maxHeartbeats 4000000 in
set_option maxRecDepth 100000 in
theorem insG_any (enc : α → List Value) (k : Nat) (hk : ∀ x, (enc x).length = k) (lt : α → α → Bool) (g : Nat) (lb : Array Value) (sf : Nat) (sb : Array Value) (blk off a b : Nat) (d : Array α) (w0 w : World)
    (eg : ∀ args w, (callFunc g args).run Try.prog w = .ok (.enter g args) w) (hless : LessG Try.prog g lb enc k lt w0 blk off d.size) (hswap : SwapSwapsK Try.prog sf sb enc k blk off d.size)
    (hR : RowAt enc k w0 blk off d w) (hblk : blk < w0.heap.size) (hab : a ≤ b) (hb : b ≤ d.size) (hsz : d.size < 4611686018427387904) :
    Calls Try.prog 118 #[.agg #[.func (.func g) #[] lb, .func (.func sf) #[] sb], .int .i64 a, .int .i64 b] w fun e w' => e = .returned (.tuple #[]) ∧ RowAt enc k w0 blk off (Sort.insertionSort lt d a b) w' := by
  have hlw : blk < w.heap.size := Nat.lt_of_lt_of_le hblk hR.off.size
  have HR := Lib.hid hR
  have HLESS := Lib.hid hless
  have HSW := Lib.hid hswap
  have HK := Lib.hid hk
  clear hR hless hswap hk
  go_enter Try.func118, Try.ntmps118
  go_wp2
  go_loopw [6] (fun vi wr => ∃ (i : Nat) (dk : Array α), vi = .int .i64 i ∧ a < i ∧ i ≤ b + 1 ∧ dk.size = d.size ∧ Hid (RowAt enc k w0 blk off dk wr) ∧ wr.cell? ⟨w.heap.size, 0, none⟩ = some (.func (.func g) #[] lb) ∧ wr.cell? ⟨w.heap.size, 1, none⟩ = some (.func (.func sf) #[] sb) ∧ w.heap.size < wr.heap.size ∧ Hid (Sort.insOuter lt a b i dk = Sort.insOuter lt a b (a + 1) d)) (fun vi _ => b + 1 - (intOf vi).toNat)
  case atStart => exact ⟨a + 1, d, by go_num, by omega, by omega, rfl, Lib.hid (HR.out.below bwT hblk), by simp [go_sem], by simp [go_sem], by simp, Lib.hid rfl⟩
  case round =>
    clear HR
    obtain ⟨wb, hwb⟩ : ∃ wm : World, wm = wr := ⟨_, rfl⟩
    subst hwb
    obtain ⟨i, dk, rfl, hai, hib, hsk, HRk, c0, c1, hlb, HO⟩ := hrel
    by_cases hlt : i < b
    · have hI : (i : Int) < (b : Int) := by omega
      go_wp2
      go_loopw [7] (fun vj wr => ∃ (j : Nat) (dj : Array α), vj = .int .i64 j ∧ a ≤ j ∧ j ≤ i ∧ dj.size = d.size ∧ Hid (RowAt enc k w0 blk off dj wr) ∧ wr.cell? ⟨w.heap.size, 0, none⟩ = some (.func (.func g) #[] lb) ∧ wr.cell? ⟨w.heap.size, 1, none⟩ = some (.func (.func sf) #[] sb) ∧ w.heap.size < wr.heap.size ∧ Hid (Sort.insInner lt a j dj = Sort.insInner lt a i dk)) (fun vj _ => (intOf vj).toNat)
      case atStart => exact ⟨i, dk, rfl, by omega, Nat.le_refl _, hsk, HRk, c0, c1, hlb, Lib.hid rfl⟩
      case round =>
        clear HRk c0 c1 hlb
        obtain ⟨wd, hwd⟩ : ∃ wm : World, wm = wr := ⟨_, rfl⟩
        subst hwd
        obtain ⟨j, dj, rfl, haj, hji, hsj, HRj, c0, c1, hlb, HI⟩ := hrel
        by_cases hja : a < j
        · have hJ : (a : Int) < (j : Int) := by omega
          have hl := HLESS.out wd dj HRj.out hsj j (j - 1) (by omega) (by omega)
          rw [show (((j - 1 : Nat) : Int)) = (j : Int) - 1 by omega] at hl
          cases hlv : lt dj[j]! dj[j - 1]! with
          | true =>
            rw [hlv] at hl
            have HLV := Lib.hid hlv
            clear hlv
            go_wp2_with (go_at_fn g; refine hl.mono ?_; rintro e w' ⟨rfl, hb'⟩; have d0 := oldc hb' hlb c0; have d1 := oldc hb' hlb c1)
            have HRn := Lib.hid (HRj.out.below hb' hblk)
            have hs := HSW.out w' dj HRn.out.holds hsj j (j - 1) (by omega) (by omega)
            rw [show (((j - 1 : Nat) : Int)) = (j : Int) - 1 by omega] at hs
            rw [hs, Oper.upon_value]
            have hsw := HRn.out.swp HK.out (i := j) (j := j - 1) (by omega) (by omega)
            obtain ⟨we, hwe⟩ : ∃ W : World, W = (w'.setCells blk (off + j * k) (enc dj[j - 1]!)).setCells blk (off + (j - 1) * k) (enc dj[j]!) := ⟨_, rfl⟩
            rw [← hwe] at hsw ⊢
            have sw := hsw.2.size
            have sb' := hb'.size
            have hne : w.heap.size ∉ [blk] := by simp; omega
            have e0 := (World.cell?_of_block (w := w') (a := ⟨w.heap.size, 0, none⟩) (hsw.2.block w.heap.size (by omega) hne)).trans d0
            have e1 := (World.cell?_of_block (w := w') (a := ⟨w.heap.size, 1, none⟩) (hsw.2.block w.heap.size (by omega) hne)).trans d1
            have HRe := Lib.hid hsw.1
            have HI2 := Lib.hid (show Sort.insInner lt a (j - 1) (Sort.swp dj j (j - 1)) = Sort.insInner lt a i dk by rw [← HI.out, insInner_go lt a j dj hja HLV.out])
            have hjm : (j : Int) - 1 = ((j - 1 : Nat) : Int) := by omega
            clear hs hsw hwe hl d0 d1 HRn
            go_wp2
            go_roundw
            case rel => exact ⟨j - 1, Sort.swp dj j (j - 1), by congr 1, by omega, by omega, by rw [Sort.size_swp]; exact hsj, HRe, e0, e1, by omega, HI2⟩
            case measure => simp [intOf]; omega
          | false =>
            rw [hlv] at hl
            have HO2 := Lib.hid (show Sort.insOuter lt a b (i + 1) dj = Sort.insOuter lt a b (a + 1) d by rw [← HO.out, insOuter_go _ _ _ _ _ hlt, ← HI.out, insInner_stop _ _ _ _ (Or.inr hlv)])
            clear hlv
            go_wp2_with (go_at_fn g; refine hl.mono ?_; rintro e w' ⟨rfl, hb'⟩; have d0 := oldc hb' hlb c0; have d1 := oldc hb' hlb c1)
            have HRn := Lib.hid (HRj.out.below hb' hblk)
            have sb' := hb'.size
            go_roundw
            case rel => exact ⟨i + 1, dj, by go_num, by omega, by omega, hsj, HRn, d0, d1, by omega, HO2⟩
            case measure => simp [intOf]; omega
        · have hJ : ¬ (a : Int) < (j : Int) := by omega
          have HO2 := Lib.hid (show Sort.insOuter lt a b (i + 1) dj = Sort.insOuter lt a b (a + 1) d by rw [← HO.out, insOuter_go _ _ _ _ _ hlt, ← HI.out, insInner_stop _ _ _ _ (Or.inl (by omega))])
          go_wp2
          go_roundw
          case rel => exact ⟨i + 1, dj, by go_num, by omega, by omega, hsj, HRj, c0, c1, hlb, HO2⟩
          case measure => simp [intOf]; omega
    · have hI : ¬ (i : Int) < (b : Int) := by omega
      have HF := Lib.hid (show RowAt enc k w0 blk off (Sort.insertionSort lt d a b) wb by
        unfold Sort.insertionSort
        rw [← HO.out, insOuter_stop _ _ _ _ _ hlt]; exact HRk.out)
      clear HRk HO
      go_wp2
      go_end0
      exact ⟨rfl, HF.out⟩
end
end Go.Proofs.Ytoipdgoejichbaa
