/- Ours: relations that a function tells (their rows), and the contract of impl.related. -/
import Derived.Test.YtefbbbhidnnchaaZ14A
import Derived.Test.YtefbbbhidnnchaaZ14D
namespace Go.Proofs.Ytefbbbhidnnchaa
set_option linter.unusedVariables false
set_option linter.unusedSimpArgs false
open Go.RowKit

/-- The row of a up to k, and the first m rows of a relation on n numbers. -/
def rowTo (R : Nat → Nat → Bool) (a k : Nat) : List Int := ((List.range k).filter fun b => R a b).map fun (b : Nat) => (b : Int)
def relTo (R : Nat → Nat → Bool) (n m : Nat) : List (List Int) := (List.range m).map fun a => rowTo R a n
theorem rowTo_in {R : Nat → Nat → Bool} {a k : Nat} (h : R a k = true) : rowTo R a (k + 1) = rowTo R a k ++ [(k : Int)] := by
  unfold rowTo; rw [List.range_succ, List.filter_append, List.map_append]; simp [h]
theorem rowTo_out {R : Nat → Nat → Bool} {a k : Nat} (h : R a k = false) : rowTo R a (k + 1) = rowTo R a k := by
  unfold rowTo; rw [List.range_succ, List.filter_append, List.map_append]; simp [h]
theorem rowTo_len (R : Nat → Nat → Bool) (a k : Nat) : (rowTo R a k).length ≤ k := by
  unfold rowTo; rw [List.length_map]; exact Nat.le_trans (List.length_filter_le _ _) (by simp)
theorem relTo_succ (R : Nat → Nat → Bool) (n m : Nat) : relTo R n (m + 1) = relTo R n m ++ [rowTo R m n] := by
  unfold relTo; rw [List.range_succ, List.map_append]; rfl
theorem relTo_len (R : Nat → Nat → Bool) (n m : Nat) : (relTo R n m).length = m := by unfold relTo; simp
theorem relTo_at {R : Nat → Nat → Bool} {n m a : Nat} (h : a < m) : (relTo R n m)[a]? = some (rowTo R a n) := by
  unfold relTo; rw [List.getElem?_map, List.getElem?_range h]; rfl
theorem mem_rowTo {R : Nat → Nat → Bool} {a k : Nat} {p : Int} : p ∈ rowTo R a k ↔ ∃ b : Nat, b < k ∧ R a b = true ∧ p = b := by
  unfold rowTo
  rw [List.mem_map]
  constructor
  · rintro ⟨b, hb, rfl⟩
    rw [List.mem_filter, List.mem_range] at hb
    exact ⟨b, hb.1, hb.2, rfl⟩
  · rintro ⟨b, h1, h2, rfl⟩
    exact ⟨b, List.mem_filter.2 ⟨List.mem_range.2 h1, h2⟩, rfl⟩
def PostRl (w : World) (n : Nat) (L : List (List Int)) (e : Ending) (w' : World) : Prop := ∃ u, e = .returned (.agg #[.int .i64 n, u]) ∧ Ow w.heap.size w'.heap.size w' [u] L ∧ Below w.heap.size w w'
set_option maxRecDepth 20000 in
set_option maxHeartbeats 8000000 in
theorem related_any (w : World) (n : Nat) (hn : n ≤ 40) (g : Nat) (lb : Array Value) (R : Nat → Nat → Bool) (eg : ∀ args w, (callFunc g args).run Try.prog w = .ok (.enter g args) w)
    (hcl : ∀ (W : World) (a b : Nat), Below w.heap.size w W → a < n → b < n → Calls Try.prog g (#[.int .i64 a, .int .i64 b] ++ lb) W (PostB W (R a b))) :
    Calls Try.prog 88 #[.int .i64 n, .func (.func g) #[] lb] w (PostRl w n (relTo R n n)) := by
  have HCL := Lib.hid hcl
  clear hcl
  go_enter Try.func88, Try.ntmps88
  go_wp2
  go_loopw [6, 7, 8, 12, 16] (fun _ _ _ s12 _ wl => ∃ (m : Nat) (u : Value), m ≤ n ∧ s12 = .int .i64 m ∧ wl.cell? ⟨w.heap.size, 0, none⟩ = some (.int .i64 0) ∧ wl.cell? ⟨w.heap.size, 1, none⟩ = some (.slice none 0 0) ∧ (∀ o, wl.frozen? ⟨w.heap.size, o, none⟩ = false) ∧ wl.cell? ⟨w.heap.size + 1, 0, none⟩ = some (.int .i64 n) ∧ wl.cell? ⟨w.heap.size + 1, 1, none⟩ = some u ∧ (∀ o, wl.frozen? ⟨w.heap.size + 1, o, none⟩ = false) ∧ Hid (GL (α := List Int) true (w.heap.size + 1 + 1) (w.heap.size + 1 + 1) wl.heap.size wl 30 u (relTo R n m)) ∧ Below w.heap.size w wl ∧ w.heap.size + 1 + 1 ≤ wl.heap.size) (fun _ _ _ s12 _ _ => n - (intOf s12).toNat)
  case atStart => exact ⟨0, _, Nat.zero_le _, rfl, by simp [go_sem], by simp [go_sem], (fun o => by simp [go_sem]), by simp [go_sem], by simp [go_sem], (fun o => by simp [go_sem]), Lib.hid (GL.start _ _ _ _ _ _), bwT, by simp⟩
  case round =>
    obtain ⟨wo, hwo⟩ : ∃ wm : World, wm = wr := ⟨_, rfl⟩
    subst hwo
    obtain ⟨m, u, hm, rfl, y0, y1, yf, z0, z1, zf, HG, hbo, so⟩ := hrel
    have ly : w.heap.size < wo.heap.size := by omega
    have lz : w.heap.size + 1 < wo.heap.size := by omega
    by_cases hlt : m < n
    · have hI : (m : Int) < (n : Int) := by omega
      go_wp2
      go_loopw [7, 8, 16] (fun s7 _ s16 wl => ∃ k : Nat, k ≤ n ∧ s16 = .int .i64 k ∧ Hid (GL (α := Int) true wo.heap.size wo.heap.size wl.heap.size wl 3 s7 (rowTo R m k)) ∧ Below wo.heap.size wo wl) (fun _ _ s16 _ => n - (intOf s16).toNat)
      case atStart => exact ⟨0, Nat.zero_le _, rfl, Lib.hid (GL.start _ _ _ _ _ _), Below.refl _ _⟩
      case round =>
        obtain ⟨wi, hwi⟩ : ∃ wm : World, wm = wr := ⟨_, rfl⟩
        subst hwi
        obtain ⟨k, hk, rfl, HL, hbi⟩ := hrel
        have si := hbi.size
        have hbwi : Below w.heap.size w wi := hbo.trans (hbi.mono (by omega))
        have hlen := rowTo_len R m k
        by_cases hlk : k < n
        · have hIk : (k : Int) < (n : Int) := by omega
          have hl := HCL.out wi m k hbwi hlt hlk
          have HW := Lib.hid (show GL (α := Int) true wo.heap.size wo.heap.size wi.heap.size wi 3 _ (rowTo R m k) from HL.out)
          cases hR : R m k with
          | true =>
            rw [hR] at hl
            have HX := Lib.hid (rowTo_in hR)
            clear hR
            go_wp2_with fail
            refine hl.mono ?_
            rintro e w1 ⟨rfl, hb1⟩
            have HL1 := Lib.hid (HL.out.below hb1)
            obtain ⟨P, hP⟩ : ∃ P, P = rowTo R m k := ⟨_, rfl⟩
            rw [← hP] at HX HL1 hlen
            have s1 := hb1.size
            have hbi1 : Below wo.heap.size wo w1 := Below.after hbi hb1 si
            have hkI : I64 (k : Int) := by unfold I64; omega
            clear hl HW hP HL hb1
            go_wp2_with (at_builtin; refine wpList_push rfl rfl slInt (by show (0 : Nat) < 1; omega) (HL1.out.alloc _) rfl (ad := ⟨w1.heap.size, 0, none⟩) rfl (cs := [.int .i64 k]) (y := (k : Int)) (lx := w1.heap.size) (hx' := w1.heap.size) ?c1 (It.flat (z := true) (w0 := w1) (fp := []) ⟨rfl, hkI, rfl⟩) (by omega) (.inl szT) (by unfold maxLen; omega) (by omega) ?c2 ?_)
            case c1 =>
              intro j c hj
              match j, hj with
              | 0, hj => simp at hj; subst hj; simp [Addr.add]
            case c2 => simp; omega
            intro v1 w3 hL3 _ hb3
            have HL3 := Lib.hid (show GL (α := Int) true wo.heap.size wo.heap.size w3.heap.size w3 3 v1 (rowTo R m (k + 1)) by rw [HX.out]; exact hL3)
            have hbi3 : Below wo.heap.size wo w3 := Below.trans bwT hb3
            clear HL1 hL3 hb3
            go_wp2
            go_roundw
            case rel => exact ⟨k + 1, by omega, by go_num, HL3, hbi3⟩
            case measure => simp [intOf]; omega
          | false =>
            rw [hR] at hl
            have HX := Lib.hid (rowTo_out hR)
            clear hR HW
            go_wp2_with fail
            refine hl.mono ?_
            rintro e w1 ⟨rfl, hb1⟩
            have HL1 := Lib.hid (HL.out.below hb1)
            have hbi1 : Below wo.heap.size wo w1 := Below.after hbi hb1 si
            have HL3 := Lib.hid (show GL (α := Int) true wo.heap.size wo.heap.size w1.heap.size w1 3 _ (rowTo R m (k + 1)) by rw [HX.out]; exact HL1.out.top)
            clear hl HL HL1 hb1
            go_wp2
            go_roundw
            case rel => exact ⟨k + 1, by omega, by go_num, HL3, hbi1⟩
            case measure => simp [intOf]; omega
        · have hnk : ¬ (k : Int) < (n : Int) := by omega
          obtain rfl : k = n := by omega
          have HS := Lib.hid (relTo_succ R k m)
          have hll := relTo_len R k m
          obtain ⟨L, hL⟩ : ∃ L, L = rowTo R m k := ⟨_, rfl⟩
          obtain ⟨A, hA⟩ : ∃ A, A = relTo R k m := ⟨_, rfl⟩
          rw [← hL] at HL hlen HS
          rw [← hA] at HG hll HS
          have hA40 : A.length ≤ 40 := by omega
          clear hL hA hll
          obtain ⟨ra, rc, rfl, -, -⟩ := HL.out.len
          have HI4 := Lib.hid (GL.it (l0 := wo.heap.size) HL.out (Nat.le_refl _) (Nat.le_refl _))
          have HGi := Lib.hid (HG.out.below hbi)
          replace y0 := oldc hbi ly y0
          replace y1 := oldc hbi ly y1
          replace z0 := oldc hbi lz z0
          replace z1 := oldc hbi lz z1
          replace yf : ∀ o, wi.frozen? ⟨w.heap.size, o, none⟩ = false := fun o => (hbi.frozen (p := ⟨w.heap.size, o, none⟩) ly).trans (yf o)
          replace zf : ∀ o, wi.frozen? ⟨w.heap.size + 1, o, none⟩ = false := fun o => (hbi.frozen (p := ⟨w.heap.size + 1, o, none⟩) lz).trans (zf o)
          obtain ⟨ua, uc, rfl, -, -⟩ := HGi.out.len
          have n1 : ¬ w.heap.size + 1 = wi.heap.size := by omega
          have n2 : ¬ wi.heap.size = w.heap.size + 1 := by omega
          have n3 : ¬ w.heap.size = wi.heap.size := by omega
          have n4 : ¬ wi.heap.size = w.heap.size := by omega
          clear HG HL
          go_wp2_with (at_builtin; refine wpList_push rfl rfl slInts (by show (0 : Nat) < 1; omega) (HGi.out.alloc _) rfl (ad := ⟨wi.heap.size, 0, none⟩) rfl (cs := [_]) (y := L) (lx := wo.heap.size) (hx' := wi.heap.size) ?d1 (HI4.out.keep znT) (by omega) (.inl (Nat.le_refl _)) (by unfold maxLen; omega) (by omega) ?d2 ?_)
          case d2 => first | omega | (simp; omega)
          intro v5 w5 hG5 _ hb5
          obtain ⟨g5, cap5, rfl, -, -⟩ := hG5.form (by simp)
          rw [List.length_append, List.length_singleton] at hG5
          have hp5 : Below (w.heap.size + 1 + 1) wi w5 := Below.trans (show Below (w.heap.size + 1 + 1) wi _ from bwT) hb5
          have s5 := hp5.size
          have y0 := oldc hp5 (by omega) y0
          have y1 := oldc hp5 (by omega) y1
          have z0 := oldc hp5 (by omega) z0
          have z1 := oldc hp5 (by omega) z1
          have yf : ∀ o, w5.frozen? ⟨w.heap.size, o, none⟩ = false := fun o => (hp5.frozen (p := ⟨w.heap.size, o, none⟩) (by show w.heap.size < w.heap.size + 1 + 1; omega)).trans (yf o)
          have zf : ∀ o, w5.frozen? ⟨w.heap.size + 1, o, none⟩ = false := fun o => (hp5.frozen (p := ⟨w.heap.size + 1, o, none⟩) (Nat.lt_succ_self _)).trans (zf o)
          have hB5 : Below w.heap.size w w5 := hbwi.trans (hp5.mono (by omega))
          have HG5 := Lib.hid hG5
          have HGX := Lib.hid (show GL (α := List Int) true (w.heap.size + 1 + 1) (w.heap.size + 1 + 1) _ (w5.setCell ⟨w.heap.size + 1, 1, none⟩ (.slice (some ⟨g5, 0, none⟩) (A.length + 1) cap5)) 30 (.slice (some ⟨g5, 0, none⟩) (A.length + 1) cap5) (relTo R k (m + 1)) by
            rw [HS.out]; exact (HG5.out.keep zmT zmT).top)
          have l5 : w.heap.size + 1 < w5.heap.size := by omega
          have m1 : ¬ w.heap.size + 1 = w.heap.size := by omega
          have m2 : ¬ w.heap.size = w.heap.size + 1 := by omega
          clear HGi HI4 hG5 hb5 hp5 HG5 HS n1 n2 n3 n4 hbi hbwi HCL
          go_wp2
          go_roundw
          case rel => exact ⟨m + 1, _, by omega, by go_num, by simp [go_sem, *], by simp [go_sem, *], (fun o => by simp [go_sem, *]), by simp [go_sem, *], by simp [go_sem, *], (fun o => by simp [go_sem, *]), HGX, bwT, (by simp; omega)⟩
          case measure => simp [intOf]; omega
    · obtain rfl : m = n := by omega
      have hI : ¬ (m : Int) < (m : Int) := by omega
      have HO := Lib.hid (HG.out.ow (l0 := w.heap.size + 1 + 1) (Nat.le_refl _) (Nat.le_refl _))
      obtain ⟨A, hA⟩ : ∃ A, A = relTo R m m := ⟨_, rfl⟩
      rw [← hA] at HG HO
      have HA := Lib.hid hA
      obtain ⟨ua, uc, rfl, -, -⟩ := HG.out.len
      clear hA HG HCL
      go_wp2
      refine bodyPost_ret (v := .agg #[.int .i64 m, .slice ua A.length uc]) (by simp [results, go_sem, *]) rfl ?_
      refine ⟨_, rfl, ?_, ?_⟩
      · have HO2 := HO.out.keep (w' := (wo.setCell ⟨w.heap.size, 0, none⟩ (.int .i64 m)).setCell ⟨w.heap.size, 1, none⟩ (.slice ua A.length uc)) zmT
        rw [← HA.out]
        exact Ow.mono HO2 (by omega) (by simp)
      · exact bwT
end Go.Proofs.Ytefbbbhidnnchaa
