/- Contracts: all permutations of n numbers. -/
import Derived.Test.YtlnhhfebmeekhaaZ10H
import Derived.Test.YtlnhhfebmeekhaaLex
namespace Go.Proofs.Ytlnhhfebmeekhaa
set_option linter.unusedVariables false
set_option linter.unusedSimpArgs false
open Go.RowKit

def ext (x : Nat) (p : List Int) : List (List Int) := ((List.range x).filter fun (y : Nat) => !p.contains (y : Int)).map fun (y : Nat) => p ++ [(y : Int)]
def perms (n : Nat) : Nat → List (List Int)
  | 0 => [[]]
  | k + 1 => (perms n k).flatMap (ext n)

theorem ext_zero (p : List Int) : ext 0 p = [] := rfl
theorem ext_in {x : Nat} {p : List Int} (h : p.contains (x : Int) = true) : ext (x + 1) p = ext x p := by
  have h' : (x : Int) ∈ p := by simpa using h
  unfold ext; rw [List.range_succ, List.filter_append, List.map_append]; simp [h']
theorem ext_out {x : Nat} {p : List Int} (h : p.contains (x : Int) = false) : ext (x + 1) p = ext x p ++ [p ++ [(x : Int)]] := by
  have h' : ¬ (x : Int) ∈ p := by simpa using h
  unfold ext; rw [List.range_succ, List.filter_append, List.map_append]; simp [h']
theorem ext_len (x : Nat) (p : List Int) : (ext x p).length ≤ x := by
  unfold ext; rw [List.length_map]
  have := List.length_filter_le (fun y : Nat => !p.contains (y : Int)) (List.range x)
  simpa using this
theorem flat_ext_len (n : Nat) : ∀ L : List (List Int), (L.flatMap (ext n)).length ≤ L.length * n
  | [] => by simp
  | p :: L => by
    have h1 := ext_len n p
    have h2 := flat_ext_len n L
    rw [List.flatMap_cons, List.length_append, List.length_cons, Nat.add_mul]; omega
theorem perms_mem {n : Nat} : ∀ {k : Nat} {p : List Int}, p ∈ perms n k → p.length = k
  | 0, p, h => by simp [perms] at h; subst h; rfl
  | k + 1, p, h => by
    rw [perms, List.mem_flatMap] at h
    obtain ⟨q, hq, hp⟩ := h
    unfold ext at hp
    obtain ⟨y, _, rfl⟩ := List.mem_map.1 hp
    rw [List.length_append, perms_mem hq]; rfl
theorem perms_len {n : Nat} (hn : n ≤ 5) : ∀ k, (perms n k).length ≤ 5 ^ k
  | 0 => by simp [perms]
  | k + 1 => by
    rw [perms, Nat.pow_succ]
    have h1 := perms_len hn k
    have h2 := flat_ext_len n (perms n k)
    have h3 := Nat.mul_le_mul h1 hn
    omega
theorem perms_len5 {n k : Nat} (hn : n ≤ 5) (hk : k ≤ 5) : (perms n k).length ≤ 3125 :=
  Nat.le_trans (perms_len hn k) (Nat.le_trans (Nat.pow_le_pow_right (by omega) hk) (by decide))
theorem take_flat {n : Nat} {L : List (List Int)} {i : Nat} {p : List Int} (h : L[i]? = some p) : (L.take (i + 1)).flatMap (ext n) = (L.take i).flatMap (ext n) ++ ext n p := by
  rw [take_snoc h, List.flatMap_append]; simp

theorem Rd.ints_at {z : Bool} {lo hi : Nat} {w : World} {xs : List (List Int)} {ao : Option Addr} {n cap : Nat} (h : Rd z lo hi w [.slice ao n cap] xs) {i : Nat} (hi' : i < n) :
    ∃ b off p v, ao = some ⟨b, off, none⟩ ∧ Hid (xs[i]? = some p) ∧ w.cell? ⟨b, off + i, none⟩ = some v ∧ Rd z lo hi w [v] p ∧ lo ≤ b ∧ b < hi ∧ b < w.heap.size := by
  obtain ⟨b, off, p, cs, e, hx, hr, hl, h1, h2, h3, hc, hf⟩ := h.at hi'
  obtain ⟨v, rfl⟩ : ∃ v, cs = [v] := by
    match cs, hl with
    | [v], _ => exact ⟨v, rfl⟩
  exact ⟨b, off, p, v, e, hx, by have := hc 0 v rfl; simpa [Rep.sz] using this, hr, h1, h2, h3⟩

theorem Ow.lit1 (w : World) (v : Value) (E : TypeId) (hv : ∀ w', Rep.rep true w' [v] ([] : List Int) []) :
    Ow w.heap.size (w.heap.size + 1) (w.alloc (.cells #[v] E)) [.slice (some ⟨w.heap.size, 0, none⟩) 1 1] ([[]] : List (List Int)) := by
  refine ⟨[w.heap.size], ⟨_, rfl, some ⟨w.heap.size, 0, none⟩, 1, 1, rfl, rfl, Nat.le_refl _, by simp [maxLen], (fun h => by cases h), .inr ⟨w.heap.size, 0, [[v]], [[]], rfl, by simp, rfl, ⟨hv _, trivial⟩, ?_, ?_⟩⟩, ?_, by simp⟩
  · intro j c hj
    match j, hj with
    | 0, hj => simp at hj; subst hj; simp [go_sem]
  · intro _ o; simp [go_sem]
  · intro b hb; simp at hb; omega
theorem repNil (ao : Option Addr) (w : World) : Rep.rep true w [.slice ao 0 0] ([] : List Int) [] :=
  ⟨_, rfl, ao, 0, 0, rfl, rfl, Nat.le_refl _, by simp [maxLen], fun _ => rfl, .inl ⟨rfl, rfl⟩⟩

set_option maxRecDepth 20000 in
set_option maxHeartbeats 2000000 in
theorem permsI_any (w : World) (n : Nat) (hn : n ≤ 5) :
    Calls Try.prog 39 #[.int .i64 n] w (PostOw w (perms n n)) := by
  go_enter Try.func39, Try.ntmps39
  go_wp2
  go_loopw [3, 10] (fun s3 s10 wr => ∃ k : Nat, k ≤ n ∧ s10 = .int .i64 k ∧ Hid (Ow w.heap.size wr.heap.size wr [s3] (perms n k)) ∧ Below w.heap.size w wr) (fun _ s10 _ => n - (intOf s10).toNat)
  case atStart => exact ⟨0, Nat.zero_le _, rfl, Lib.hid ((Ow.lit1 w _ _ (repNil _)).top), bwT⟩
  case round =>
    rename_i wr
    obtain ⟨k, hk, rfl, hO, hb⟩ := hrel
    have sW := hb.size
    by_cases hlt : k < n
    · have hO := hO.out
      obtain ⟨L, hL⟩ : ∃ L, L = perms n k := ⟨_, rfl⟩
      rw [← hL] at hO
      have hL1 : L.length ≤ 3125 := by rw [hL]; exact perms_len5 hn (by omega)
      have hL2 := Lib.hid (show ∀ p ∈ L, p.length ≤ 5 by intro p hp; rw [hL] at hp; rw [perms_mem hp]; omega)
      have hLh := Lib.hid hL
      clear hL
      obtain ⟨ao, len, cap, rfl, rfl, hnc, hcm, -⟩ := hO.rd.shape
      unfold maxLen at hcm
      obtain ⟨wo, hwo⟩ : ∃ wo : World, wo = wr := ⟨_, rfl⟩
      subst hwo
      go_wp2
      go_loopw [4, 14] (fun s4 s14 wm => ∃ i : Nat, i ≤ L.length ∧ s14 = .int .i64 i ∧ Hid (GL true wo.heap.size wo.heap.size wm.heap.size wm 28 s4 ((L.take i).flatMap (ext n))) ∧ Below wo.heap.size wo wm) (fun _ s14 _ => L.length - (intOf s14).toNat)
      case atStart => exact ⟨0, Nat.zero_le _, rfl, Lib.hid (GL.start _ _ _ _ _ _), Below.refl _ _⟩
      case round =>
        obtain ⟨wm, hwm⟩ : ∃ wm : World, wm = wr := ⟨_, rfl⟩
        subst hwm
        obtain ⟨i, hi, rfl, hG, hbm⟩ := hrel
        have sM := hbm.size
        by_cases hli : i < L.length
        · obtain ⟨b, off, p, v, rfl, hp, hc, hrp, hb1, hb2, hb3⟩ := hO.rd.ints_at hli
          have hc := oldc hbm hb3 hc
          have hp5 := hL2.out p (List.mem_of_getElem? hp.out)
          have hA : ((L.take i).flatMap (ext n)).length ≤ 15625 := by
            have h1 := flat_ext_len n (L.take i)
            have h2 : (L.take i).length * n ≤ 3125 * 5 := Nat.mul_le_mul (by simp; omega) hn
            omega
          obtain ⟨A, hAe⟩ : ∃ A, A = (L.take i).flatMap (ext n) := ⟨_, rfl⟩
          rw [← hAe] at hA hG
          have HE := Lib.hid (show (L.take (i + 1)).flatMap (ext n) = A ++ ext n p by rw [hAe, take_flat hp.out])
          have HG := Lib.hid (show GL true wo.heap.size wo.heap.size wm.heap.size wm 28 _ (A ++ ext 0 p) by rw [ext_zero, List.append_nil]; exact hG.out)
          clear hAe hp hG
          have hiI : (i : Int) < (L.length : Int) := by omega
          obtain ⟨w2, hw2⟩ : ∃ w2 : World, w2 = wm := ⟨_, rfl⟩
          subst hw2
          go_wp2
          go_loopw [4, 19] (fun s4 s19 wi => ∃ x : Nat, x ≤ n ∧ s19 = .int .i64 x ∧ Hid (GL true wo.heap.size wo.heap.size wi.heap.size wi 28 s4 (A ++ ext x p)) ∧ Below wo.heap.size wo wi) (fun _ s19 _ => n - (intOf s19).toNat)
          case atStart => exact ⟨0, Nat.zero_le _, rfl, HG, hbm⟩
          case round =>
            obtain ⟨wi, hwi⟩ : ∃ wm : World, wm = wr := ⟨_, rfl⟩
            subst hwi
            clear HG
            obtain ⟨x, hx, rfl, hG, hbi⟩ := hrel
            have sI := hbi.size
            by_cases hlx : x < n
            · have hxI : (x : Int) < (n : Int) := by omega
              obtain ⟨r, hr⟩ : ∃ r, r = p.contains (x : Int) := ⟨_, rfl⟩
              have HR := Lib.hid hr
              clear hr
              go_wp2_with fail
              refine (hasInt_b _ _ p (hrp.below bwT) _ r HR.out).mono ?_
              rintro e w1 ⟨rfl, hb1w⟩
              have s1 := hb1w.size
              have hG := hG.out.below hb1w
              have hrp1 := (hrp.below hbi).below hb1w
              have hbi1 : Below wo.heap.size wo w1 := Below.after hbi hb1w sI
              clear hb1w hbi
              cases r
              · have HX := Lib.hid (ext_out HR.out.symm)
                go_wp2_with (at_builtin; refine wpList_spread_flat rfl rfl slInt (by show (0 : Nat) < 1; omega) (GL.start true w1.heap.size w1.heap.size w1.heap.size w1 _) rfl rfl hrp1 (by unfold maxLen; simp; omega) (by simp; omega) (Nat.le_refl _) ?_)
                intro v1 w3 hG3 _ hb3w
                (try simp only [List.nil_append] at hG3)
                have s3 := hb3w.size
                have hG := hG.below (hb3w.mono (by omega))
                have hbi3 : Below wo.heap.size wo w3 := hbi1.trans (hb3w.mono (by omega))
                clear hb3w
                go_wp2_with (at_builtin; refine wpList_push rfl rfl slInt (by show (0 : Nat) < 1; omega) (hG3.alloc _) rfl (ad := ⟨w3.heap.size, 0, none⟩) rfl (cs := [.int .i64 x]) (y := (x : Int)) (lx := w3.heap.size) (hx' := w3.heap.size) ?c1 (It.flat (z := true) (w0 := w1) (fp := []) ⟨rfl, ⟨by omega, by omega⟩, rfl⟩) (by omega) (.inl (Nat.le_refl _)) (by unfold maxLen; omega) (by omega) ?c2 ?_)
                case c1 =>
                  intro j c hj
                  match j, hj with
                  | 0, hj => simp at hj; subst hj; simp [Addr.add]
                case c2 => simp; omega
                intro v2 w4 hG4 _ hb4w
                have s4 := hb4w.size
                simp only [World.size_alloc] at s4
                have hz4 := Below.zone (Below.trans ((Below.refl w1.heap.size w3).alloc (by omega) _) hb4w) wo.heap.size
                have hG := hG.keep (hz4.mono (Nat.le_refl _) (by omega)) (hz4.mono (Nat.le_refl _) (by omega))
                have hbi4 : Below wo.heap.size wo w4 := Below.trans bwT (hb4w.mono (by omega))
                obtain ⟨g4, c4, rfl, hg4, -⟩ := hG4.form (by simp)
                have hI4 := GL.it (l0 := w1.heap.size) hG4 (Nat.le_refl _) (Nat.le_refl _)
                clear hb4w hG4 hG3
                have hA5 : (A ++ ext x p).length ≤ 15630 := by
                  have := ext_len x p
                  rw [List.length_append]; omega
                go_wp2_with (at_builtin; refine wpList_push rfl rfl slInts (by show (0 : Nat) < 1; omega) (hG.alloc _) rfl (ad := ⟨w4.heap.size, 0, none⟩) rfl (cs := [_]) (y := p ++ [(x : Int)]) (lx := w1.heap.size) (hx' := w4.heap.size) ?c1 (hI4.keep znT) (by omega) (.inl (by omega)) (by unfold maxLen; omega) (by omega) ?c2 ?_)
                case c1 =>
                  intro j c hj
                  match j, hj with
                  | 0, hj => simp at hj; subst hj; simp [Addr.add]
                case c2 => simp; omega
                intro v3 w5 hG5 _ hb5w
                have hbi5 : Below wo.heap.size wo w5 := Below.trans bwT (hb5w.mono (by omega))
                have HG5 := Lib.hid (show GL true wo.heap.size wo.heap.size w5.heap.size w5 28 v3 (A ++ ext (x + 1) p) by rw [HX.out]; simpa using hG5)
                clear hG hG5 hb5w hI4
                go_wp2
                go_roundw
                case rel => exact ⟨x + 1, by omega, by go_num, HG5, hbi5⟩
                case measure => simp [intOf]; omega
              · have HX := Lib.hid (ext_in HR.out.symm)
                have HG5 := Lib.hid (show GL true wo.heap.size wo.heap.size w1.heap.size w1 28 _ (A ++ ext (x + 1) p) by rw [HX.out]; exact hG.top)
                clear hG
                go_wp2
                go_roundw
                case rel => exact ⟨x + 1, by omega, by go_num, HG5, hbi1⟩
                case measure => simp [intOf]; omega
            · have hxn : x = n := by omega
              have HG5 := Lib.hid (show GL true wo.heap.size wo.heap.size wi.heap.size wi 28 _ ((L.take (i + 1)).flatMap (ext n)) by rw [HE.out, ← hxn]; exact hG.out)
              have hbm5 : Below wo.heap.size wo wi := hbi
              clear hG
              go_wp2
              go_roundw
              case rel => exact ⟨i + 1, by omega, by go_num, HG5, hbm5⟩
              case measure => simp [intOf]; omega
        · have HO := Lib.hid (show Ow w.heap.size wm.heap.size wm [_] (perms n (k + 1)) by
            have := GL.ow (l0 := w.heap.size) hG.out sW sW
            rw [List.take_of_length_le (by omega), hLh.out] at this
            exact this)
          have hbo : Below w.heap.size w wm := hb.trans (hbm.mono sW)
          clear hG hO
          go_wp2
          go_roundw
          case rel => exact ⟨k + 1, by omega, by go_num, HO, hbo⟩
          case measure => simp [intOf]; omega
    · have hkn : k = n := by omega
      have HO := Lib.hid (show Ow w.heap.size wr.heap.size wr [_] (perms n n) by have := hO.out; rw [hkn] at this; exact this)
      clear hO
      go_wp2
      go_ret
      exact ⟨_, rfl, HO.out, hb⟩
end Go.Proofs.Ytlnhhfebmeekhaa
