/- The sort that impl.group makes: the lists of numbers that the call owns, ascending. -/
import Derived.Test.YtlnihbhjkfhbmaaLessD
import Derived.Test.YtlnihbhjkfhbmaaShf
import Derived.Test.YtlnihbhjkfhbmaaGrp2
namespace Go.Proofs.Ytlnihbhjkfhbmaa
set_option linter.unusedVariables false
set_option linter.unusedSimpArgs false
open Go.RowKit Go.Shelf

theorem lexB_wo : Wo lexB where
  irrefl := lexB_self
  trans x y z h1 h2 := by
    cases h3 : lexB x z with
    | true => rfl
    | false =>
      -- x < y, so not y < x; not x < z: so not y < z ..
      have h4 := lexB_asym h1
      -- lexB_trans : lexB b a = false → lexB c b = false → lexB c a = false
      have h5 := lexB_trans (a := z) (b := x) (c := y) h3 h4
      rw [h2] at h5
      cases h5
  ntrans x y z h1 h2 := lexB_trans (a := z) (b := y) (c := x) h2 h1
theorem asc_of {l : Pms} (h : l.Pairwise fun a b => lexB b a = false) : Asc l := h
theorem infoLL : ∃ i, Try.prog.info? 31 = some i ∧ i.desc = .slice 22 := by
  have h : (Try.prog.info? 31).map (·.desc) = some (.slice 22) := by kernel_rfl
  cases hi : Try.prog.info? 31 with
  | none => rw [hi] at h; cases h
  | some i => rw [hi] at h; exact ⟨i, rfl, Option.some.inj h⟩
theorem infoL : ∃ i, Try.prog.info? 22 = some i ∧ i.size = 1 ∧ i.hasPointers = true ∧ i.bytes = 24 := by
  have h : (Try.prog.info? 22).map (fun i => (i.size, i.hasPointers, i.bytes)) = some (1, true, 24) := by kernel_rfl
  cases hi : Try.prog.info? 22 with
  | none => rw [hi] at h; cases h
  | some i =>
    rw [hi] at h
    have h2 := Option.some.inj h
    simp only [Prod.mk.injEq] at h2
    exact ⟨i, rfl, h2.1, h2.2.1, h2.2.2⟩
theorem swapK {n : Nat} {ie : TypeInfo} (hp : ie.hasPointers = true) (hb : ie.bytes = 24) : Lib.swapperK n ie 23 = if n = 0 then 1 else if n = 1 then 2 else 9 := by
  unfold Lib.swapperK
  rw [hp, hb]
  by_cases h0 : n = 0
  · simp [h0]
  · by_cases h1 : n = 1
    · simp [h1]
    · simp [h0, h1]
theorem sortG_any {lo up : Nat} (w : World) (B : Nat) (v : Value) (o : Pms) (hB : w.cell? ⟨B, 0, none⟩ = some v) (hBl : B < w.heap.size) (hBv : some B ≠ v.ownBlock) (hown : Ow lo up w [v] o) (hl : o.length ≤ 1048576) :
    Calls Try.prog 33 #[.iface 31 v, .func (.func 34) #[] #[.pointer (some ⟨B, 0, none⟩)]] w (PostSrt lexB lo up w v.ownBlock.toList v o) := by
  obtain ⟨i, hi, hd⟩ := infoLL
  obtain ⟨ie, hie, hs, hp, hb⟩ := infoL
  obtain ⟨ao, n, cap, rfl, hn, -⟩ := hown.rd.shape
  subst hn
  by_cases h2 : 2 ≤ o.length
  · obtain ⟨blk, off, -, -, rfl, -⟩ := hown.rd.at (i := 0) (by omega)
    have hne : B ≠ blk := fun e => hBv (by rw [e]; rfl)
    have hless : LessOk Try.prog 34 #[.pointer (some ⟨B, 0, none⟩)] lexB w blk (.slice (some ⟨blk, off, none⟩) o.length cap) o := by
      intro W ys hyl _ hsz hk hR i j hi hj
      exact lessG_d (B := B) ((World.cell?_of_block (w := w) (a := ⟨B, 0, none⟩) (hk B hBl hne)).trans hB) hR i j hi hj (by omega) _ rfl
    have hS := sort_many sa6 31 22 i ie hi hd (by kernel_rfl) hie 23 (fun _ => by kernel_rfl) hs (fun _ => by kernel_rfl) lexB lexB_wo 34 #[.pointer (some ⟨B, 0, none⟩)]
      (enters_of Try.func34 (by kernel_rfl) rfl) 52 o.length h2 (by rw [swapK hp hb, if_neg (by omega), if_neg (by omega)]; kernel_rfl) false
      (fun args W => run_callFunc_extern Try.func52 (by kernel_rfl) (by kernel_rfl) (by kernel_rfl) (e := Extern.ReflectliteSwapper.swap false) (by kernel_rfl) args W) rfl w blk off cap o (by omega) hown hless
    exact hS
  · have hS := sort_few (α := List Int) sa6 31 22 i ie hi hd (by kernel_rfl) hie 23 (fun _ => by kernel_rfl) lexB (.func 34) #[] #[.pointer (some ⟨B, 0, none⟩)] (if o.length = 0 then 44 else 45) ao o.length cap (by omega)
      (by
        rw [swapK hp hb]
        by_cases h0 : o.length = 0
        · rw [if_pos h0, if_pos h0]; kernel_rfl
        · rw [if_neg h0, if_neg h0, if_pos (by omega)]; kernel_rfl) w o (Value.slice ao o.length cap).ownBlock.toList hown
    exact hS
end Go.Proofs.Ytlnihbhjkfhbmaa
