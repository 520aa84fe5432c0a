/- Texts laid one behind the other (merge.py): Samp, PermLaw, PAlg. -/
import Derived.Test.YtefbbbhidnnchaaZ14C
import Derived.Test.YtefbbbhidnnchaaZ14H
import Derived.Test.YtefbbbhidnnchaaRel
namespace Go.Proofs.Ytefbbbhidnnchaa
set_option linter.unusedVariables false
set_option linter.unusedSimpArgs false
open Go.RowKit

/-! ### Samp -/
section

theorem zip_lit {z : Bool} {w : World} : ∀ (xs : List Int), (∀ x ∈ xs, I64 x) → Zip (Rep.rep z w) (xs.map fun x => [Value.int .i64 x]) xs (xs.map fun _ => [])
  | [], _ => trivial
  | x :: xs, h => ⟨⟨rfl, h x (by simp), rfl⟩, zip_lit xs fun y hy => h y (by simp [hy])⟩
theorem flat_lit : ∀ (xs : List Int), (xs.map fun x => [Value.int .i64 x]).flatten = xs.map (Value.int .i64)
  | [] => rfl
  | x :: xs => by simp [flat_lit xs]
theorem nil_lit : ∀ (xs : List Int), (xs.map fun _ => ([] : List Nat)).flatten = []
  | [] => rfl
  | x :: xs => by simp [nil_lit xs]

/-- A slice of numbers that is written out. -/
theorem Ow.ints_lit0 (w : World) (E : TypeId) (xs : List Int) (h : ∀ x ∈ xs, I64 x) (hl : xs.length ≤ maxLen) :
    Ow w.heap.size (w.heap.size + 1) (w.alloc (.cells (xs.map (Value.int .i64)).toArray E)) [.slice (some ⟨w.heap.size, 0, none⟩) xs.length xs.length] xs := by
  refine ⟨[w.heap.size], ⟨_, rfl, _, _, _, rfl, rfl, Nat.le_refl _, hl, (fun h => by cases h), .inr ⟨w.heap.size, 0, _, _, rfl, by simp, by rw [nil_lit], zip_lit xs h, ?_, ?_⟩⟩, fun b hb => by simp at hb; omega, by simp⟩
  · intro j c hj
    rw [flat_lit] at hj
    simp only [Nat.zero_add]
    rw [World.cell?_alloc_new]
    simpa using hj
  · intro _ o
    simp [go_sem]

theorem Ow.ints_litS (w : World) (E : TypeId) (xs : List Int) (h : ∀ x ∈ xs, I64 x) (hl : xs.length ≤ maxLen) {b n : Nat} {cs : Array Value} (hb : w.heap.size = b) (hn : xs.length = n) (hc : (xs.map (Value.int .i64)).toArray = cs) :
    Ow b (b + 1) (w.alloc (.cells cs E)) [.slice (some ⟨b, 0, none⟩) n n] xs := by
  subst hb hn hc; exact Ow.ints_lit0 w E xs h hl

def sampC (s : List UInt8) : Cls :=
  if s = [107, 97, 114, 105, 101, 114, 97] then ([1, 0, 3, 2], [3, 2, 1, 0])
  else if s = [99, 105, 114, 99, 108, 101] then ([1, 2, 3, 0], [0, 1, 2, 3])
  else if s = [109, 111, 105, 101, 116, 105, 101, 115] then ([1, 0], [0, 1])
  else ([], [])

theorem Ow.nil2s (lo hi : Nat) (w : World) : Ow lo hi w [.slice none 0 0, .slice none 0 0] (([], []) : Cls) := by
  refine ⟨[], ⟨[.slice none 0 0], [.slice none 0 0], [], [], rfl, rfl, ?_, ?_⟩, fun b hb => (by cases hb), List.nodup_nil⟩ <;> exact ⟨_, rfl, none, 0, 0, rfl, rfl, Nat.le_refl _, by simp [maxLen], fun _ => rfl, .inl ⟨rfl, rfl⟩⟩

set_option maxHeartbeats 2000000 in
theorem sampS_any (s : ByteArray) (w : World) : Calls Try.prog 69 #[.string s] w (PostOw2 w (sampC s.toList)) := by
  cases h1 : (s.toList == [107, 97, 114, 105, 101, 114, 97])
  · cases h2 : (s.toList == [99, 105, 114, 99, 108, 101])
    · cases h3 : (s.toList == [109, 111, 105, 101, 116, 105, 101, 115])
      · have HE := Lib.hid (show sampC s.toList = ([], []) by
          have k1 := beq_eq_false_iff_ne.1 h1
          have k2 := beq_eq_false_iff_ne.1 h2
          have k3 := beq_eq_false_iff_ne.1 h3
          rw [sampC, if_neg k1, if_neg k2, if_neg k3])
        go_enter Try.func69, Try.ntmps69
        go_wp2
        exact bodyPost_ret (v := .agg #[.slice none 0 0, .slice none 0 0]) (by simp [results, go_sem]) rfl ⟨_, _, rfl, (by rw [HE.out]; exact Ow.nil2s _ _ _), bwT⟩
      · have HE := Lib.hid (show sampC s.toList = ([1, 0], [0, 1]) by
          have k1 := beq_eq_false_iff_ne.1 h1
          have k2 := beq_eq_false_iff_ne.1 h2
          rw [sampC, if_neg k1, if_neg k2, if_pos (beq_iff_eq.1 h3)])
        go_enter Try.func69, Try.ntmps69
        go_wp2
        exact bodyPost_ret (v := .agg #[.slice (some ⟨w.heap.size + 1, 0, none⟩) 2 2, .slice (some ⟨w.heap.size + 1 + 1, 0, none⟩) 2 2]) (by simp [results, go_sem]) rfl ⟨_, _, rfl, (by rw [HE.out]; exact (Ow.pair (l := w.heap.size) (h := w.heap.size + 1 + 1 + 1) ((Ow.ints_litS (w.alloc (.cells #[.slice (some ⟨w.heap.size + 1, 0, none⟩) 2 2, .slice (some ⟨w.heap.size + 1 + 1, 0, none⟩) 2 2] 44)) 3 [1, 0] (cs := #[.int .i64 1, .int .i64 0]) (by unfold I64; simp) (by simp [maxLen]) (by simp) rfl rfl).keep znT) (Ow.ints_litS ((w.alloc (.cells #[.slice (some ⟨w.heap.size + 1, 0, none⟩) 2 2, .slice (some ⟨w.heap.size + 1 + 1, 0, none⟩) 2 2] 44)).alloc (.cells #[.int .i64 1, .int .i64 0] 3)) 3 [0, 1] (cs := #[.int .i64 0, .int .i64 1]) (by unfold I64; simp) (by simp [maxLen]) (by simp) rfl rfl) (.inl (by omega)) (by omega) (by omega) (by omega) (by omega)).top), bwT⟩
    · have HE := Lib.hid (show sampC s.toList = ([1, 2, 3, 0], [0, 1, 2, 3]) by
        have k1 := beq_eq_false_iff_ne.1 h1
        rw [sampC, if_neg k1, if_pos (beq_iff_eq.1 h2)])
      go_enter Try.func69, Try.ntmps69
      go_wp2
      exact bodyPost_ret (v := .agg #[.slice (some ⟨w.heap.size + 1, 0, none⟩) 4 4, .slice (some ⟨w.heap.size + 1 + 1, 0, none⟩) 4 4]) (by simp [results, go_sem]) rfl ⟨_, _, rfl, (by rw [HE.out]; exact (Ow.pair (l := w.heap.size) (h := w.heap.size + 1 + 1 + 1) ((Ow.ints_litS (w.alloc (.cells #[.slice (some ⟨w.heap.size + 1, 0, none⟩) 4 4, .slice (some ⟨w.heap.size + 1 + 1, 0, none⟩) 4 4] 44)) 3 [1, 2, 3, 0] (cs := #[.int .i64 1, .int .i64 2, .int .i64 3, .int .i64 0]) (by unfold I64; simp) (by simp [maxLen]) (by simp) rfl rfl).keep znT) (Ow.ints_litS ((w.alloc (.cells #[.slice (some ⟨w.heap.size + 1, 0, none⟩) 4 4, .slice (some ⟨w.heap.size + 1 + 1, 0, none⟩) 4 4] 44)).alloc (.cells #[.int .i64 1, .int .i64 2, .int .i64 3, .int .i64 0] 3)) 3 [0, 1, 2, 3] (cs := #[.int .i64 0, .int .i64 1, .int .i64 2, .int .i64 3]) (by unfold I64; simp) (by simp [maxLen]) (by simp) rfl rfl) (.inl (by omega)) (by omega) (by omega) (by omega) (by omega)).top), bwT⟩
  · have HE := Lib.hid (show sampC s.toList = ([1, 0, 3, 2], [3, 2, 1, 0]) by rw [sampC, if_pos (beq_iff_eq.1 h1)])
    go_enter Try.func69, Try.ntmps69
    go_wp2
    exact bodyPost_ret (v := .agg #[.slice (some ⟨w.heap.size + 1, 0, none⟩) 4 4, .slice (some ⟨w.heap.size + 1 + 1, 0, none⟩) 4 4]) (by simp [results, go_sem]) rfl ⟨_, _, rfl, (by rw [HE.out]; exact (Ow.pair (l := w.heap.size) (h := w.heap.size + 1 + 1 + 1) ((Ow.ints_litS (w.alloc (.cells #[.slice (some ⟨w.heap.size + 1, 0, none⟩) 4 4, .slice (some ⟨w.heap.size + 1 + 1, 0, none⟩) 4 4] 44)) 3 [1, 0, 3, 2] (cs := #[.int .i64 1, .int .i64 0, .int .i64 3, .int .i64 2]) (by unfold I64; simp) (by simp [maxLen]) (by simp) rfl rfl).keep znT) (Ow.ints_litS ((w.alloc (.cells #[.slice (some ⟨w.heap.size + 1, 0, none⟩) 4 4, .slice (some ⟨w.heap.size + 1 + 1, 0, none⟩) 4 4] 44)).alloc (.cells #[.int .i64 1, .int .i64 0, .int .i64 3, .int .i64 2] 3)) 3 [3, 2, 1, 0] (cs := #[.int .i64 3, .int .i64 2, .int .i64 1, .int .i64 0]) (by unfold I64; simp) (by simp [maxLen]) (by simp) rfl rfl) (.inl (by omega)) (by omega) (by omega) (by omega) (by omega)).top), bwT⟩


end

/-! ### PermLaw -/
section

theorem permGo_of {n : Nat} : ∀ (xs : List Int) (seen : List Bool), (∀ x ∈ xs, 0 ≤ x ∧ x < n ∧ seen.getD x.toNat true = false) → (xs.map Int.toNat).Nodup → permGo n seen xs = true
  | [], _, _, _ => rfl
  | x :: xs, seen, h, hn => by
    rw [permGo, if_pos (h x (by simp))]
    simp only [List.map_cons, List.nodup_cons] at hn
    refine permGo_of xs _ (fun y hy => ?_) hn.2
    obtain ⟨h1, h2, h3⟩ := h y (by simp [hy])
    refine ⟨h1, h2, ?_⟩
    rw [List.getD_eq_getElem?_getD, List.getElem?_set_ne (fun e => hn.1 (List.mem_map.2 ⟨y, hy, e.symm⟩)), ← List.getD_eq_getElem?_getD]
    exact h3
theorem idL_at {n j : Nat} (h : j < n) : (idL n)[j]? = some (j : Int) := by simp [idL, h]
theorem idL_mem {n : Nat} {x : Int} (h : x ∈ idL n) : 0 ≤ x ∧ x < n := by
  unfold idL at h
  obtain ⟨i, hi, rfl⟩ := List.mem_map.1 h
  have := List.mem_range.1 hi
  omega
theorem idL_nodup (n : Nat) : ((idL n).map Int.toNat).Nodup := by
  have : (idL n).map Int.toNat = List.range n := by
    unfold idL; rw [List.map_map]
    exact (List.map_congr_left (fun i _ => by simp)).trans (List.map_id _)
  rw [this]; exact List.nodup_range
theorem isPerm_of {n : Nat} {p : List Int} (h : p.Perm (idL n)) : isPerm p = true ∧ p.length = n := by
  have hl : p.length = n := by rw [h.length_eq, idL_len]
  refine ⟨?_, hl⟩
  unfold isPerm
  refine permGo_of p _ (fun x hx => ?_) ((h.map Int.toNat).nodup_iff.2 (idL_nodup n))
  have := idL_mem (h.mem_iff.1 hx)
  refine ⟨this.1, by omega, ?_⟩
  rw [List.getD_eq_getElem?_getD, List.getElem?_replicate, if_pos (by omega)]; rfl

theorem inv_at {p : List Int} (h : isPerm p = true) {j : Nat} {x : Int} (hx : p[j]? = some x) : (inv p)[x.toNat]? = some (j : Int) := by
  have hr := isPerm_range h x (List.mem_of_getElem? hx)
  have := invSet_in p (List.replicate p.length 0) 0 j x (isPerm_nodup h) hx (by simp; omega)
  simpa [inv] using this
theorem comp_at {p q : List Int} {j : Nat} {x y : Int} (hx : p[j]? = some x) (hy : q[x.toNat]? = some y) : (comp p q)[j]? = some y := by
  unfold comp
  rw [List.getElem?_map, hx]
  simp [List.getD_eq_getElem?_getD, hy]
theorem comp_idL (q : List Int) : comp (idL q.length) q = q := by
  apply List.ext_getElem?
  intro i
  by_cases hi : i < q.length
  · rw [comp_at (idL_at hi) (by rw [Int.toNat_natCast]; exact List.getElem?_eq_getElem hi), List.getElem?_eq_getElem hi]
  · rw [List.getElem?_eq_none (by rw [comp_len, idL_len]; omega), List.getElem?_eq_none (by omega)]
theorem comp_perm {n : Nat} {p q : List Int} (hp : p.Perm (idL n)) (hq : q.length = n) : (comp p q).Perm q := by
  subst hq
  have : (comp p q).Perm (comp (idL q.length) q) := hp.map _
  rwa [comp_idL] at this
theorem comp_inv {n : Nat} {p : List Int} (hp : p.Perm (idL n)) : comp p (inv p) = idL n := by
  obtain ⟨h, hl⟩ := isPerm_of hp
  apply List.ext_getElem?
  intro i
  by_cases hi : i < n
  · have hx : p[i]? = some p[i] := List.getElem?_eq_getElem (by omega)
    rw [comp_at hx (inv_at h hx), idL_at hi]
  · rw [List.getElem?_eq_none (by rw [comp_len]; omega), List.getElem?_eq_none (by rw [idL_len]; omega)]
theorem inv_perm {n : Nat} {p : List Int} (hp : p.Perm (idL n)) : (inv p).Perm (idL n) := by
  obtain ⟨h, hl⟩ := isPerm_of hp
  have h1 := comp_perm hp (q := inv p) (by rw [inv_len, hl])
  rw [comp_inv hp] at h1
  exact h1.symm
theorem inv_comp {n : Nat} {p : List Int} (hp : p.Perm (idL n)) : comp (inv p) p = idL n := by
  obtain ⟨h, hl⟩ := isPerm_of hp
  apply List.ext_getElem?
  intro i
  by_cases hi : i < n
  · obtain ⟨j, x, hx, e, hj⟩ := isPerm_onto h (i := i) (by omega)
    have hr := isPerm_range h x (List.mem_of_getElem? hx)
    have h1 := inv_at h hx
    rw [e] at h1
    rw [comp_at h1 (by rw [Int.toNat_natCast]; exact hx), idL_at hi]
    congr 1; omega
  · rw [List.getElem?_eq_none (by rw [comp_len, inv_len]; omega), List.getElem?_eq_none (by rw [idL_len]; omega)]
end

/-! ### PAlg -/
section

abbrev IsP (n : Nat) (p : List Int) : Prop := p.Perm (idL n)
theorem perm_of_sub {α : Type} [DecidableEq α] : ∀ {a b : List α}, a.Nodup → (∀ x ∈ a, x ∈ b) → b.length ≤ a.length → a.Perm b
  | [], b, _, _, h => by
    have : b = [] := List.eq_nil_of_length_eq_zero (by simpa using h)
    subst this; exact List.Perm.nil
  | x :: a, b, hn, hs, h => by
    have hx : x ∈ b := hs x (by simp)
    rw [List.nodup_cons] at hn
    have hl := List.length_erase_of_mem hx
    have hp : 0 < b.length := List.length_pos_of_mem hx
    refine (List.Perm.cons x (perm_of_sub hn.2 (fun y hy => ?_) (by simp at h; omega))).trans (List.perm_cons_erase hx).symm
    exact (List.mem_erase_of_ne (fun e : y = x => hn.1 (by rw [← e]; exact hy))).2 (hs y (by simp [hy]))
theorem nodup_of_map {α β : Type} {f : α → β} : ∀ {l : List α}, (l.map f).Nodup → l.Nodup
  | [], _ => List.nodup_nil
  | x :: l, h => by
    rw [List.map_cons, List.nodup_cons] at h
    rw [List.nodup_cons]
    exact ⟨fun hm => h.1 (List.mem_map_of_mem hm), nodup_of_map h.2⟩
theorem nodup_map {α β : Type} {f : α → β} : ∀ {l : List α}, l.Nodup → (∀ x ∈ l, ∀ y ∈ l, f x = f y → x = y) → (l.map f).Nodup
  | [], _, _ => List.nodup_nil
  | x :: l, h, hi => by
    rw [List.nodup_cons] at h
    rw [List.map_cons, List.nodup_cons]
    refine ⟨fun hm => ?_, nodup_map h.2 fun a ha b hb => hi a (by simp [ha]) b (by simp [hb])⟩
    obtain ⟨y, hy, e⟩ := List.mem_map.1 hm
    have := hi y (by simp [hy]) x (by simp) e
    exact h.1 (this ▸ hy)

theorem IsP.len {n : Nat} {p : List Int} (h : IsP n p) : p.length = n := by have := List.Perm.length_eq h; rwa [idL_len] at this
theorem IsP.range {n : Nat} {p : List Int} (h : IsP n p) : InRange n p := fun x hx => idL_mem (List.Perm.mem_iff h |>.1 hx)
theorem IsP.nodup {n : Nat} {p : List Int} (h : IsP n p) : p.Nodup := (List.Perm.nodup_iff h).2 (nodup_of_map (idL_nodup n))
theorem isP_of {p : List Int} (h : isPerm p = true) : IsP p.length p := by
  refine perm_of_sub (nodup_of_map (isPerm_nodup h)) (fun x hx => ?_) (by rw [idL_len]; exact Nat.le_refl _)
  have := isPerm_range h x hx
  unfold idL
  exact List.mem_map.2 ⟨x.toNat, List.mem_range.2 (by omega), by omega⟩
theorem isP_id (n : Nat) : IsP n (idL n) := List.Perm.refl _
theorem isP_comp {n : Nat} {p q : List Int} (hp : IsP n p) (hq : IsP n q) : IsP n (comp p q) := (comp_perm hp hq.len).trans hq
theorem isP_inv {n : Nat} {p : List Int} (hp : IsP n p) : IsP n (inv p) := inv_perm hp
theorem comp_assoc {p q r : List Int} (h : InRange q.length p) : comp (comp p q) r = comp p (comp q r) := by
  unfold comp
  rw [List.map_map]
  apply List.map_congr_left
  intro x hx
  have hr := h x hx
  have hl : x.toNat < q.length := by omega
  simp [List.getD_eq_getElem?_getD, List.getElem?_map, List.getElem?_eq_getElem hl]
theorem asc3 {n : Nat} {p q r : List Int} (hp : IsP n p) (hq : IsP n q) : comp (comp p q) r = comp p (comp q r) := comp_assoc (by rw [hq.len]; exact hp.range)
theorem comp_id {n : Nat} {p : List Int} (hp : IsP n p) : comp p (idL n) = p := by
  unfold comp
  refine (List.map_congr_left (g := id) fun x hx => ?_).trans (List.map_id _)
  have := hp.range x hx
  rw [List.getD_eq_getElem?_getD, idL_at (by omega : x.toNat < n)]
  simp; omega
theorem id_comp {n : Nat} {p : List Int} (hp : IsP n p) : comp (idL n) p = p := by
  have := comp_idL p
  rwa [hp.len] at this
theorem cancel_left {n : Nat} {p q r : List Int} (hp : IsP n p) (hq : IsP n q) (hr : IsP n r) (h : comp p q = comp p r) : q = r := by
  have h2 := congrArg (comp (inv p)) h
  rwa [← asc3 (isP_inv hp) hp, ← asc3 (isP_inv hp) hp, inv_comp hp, id_comp hq, id_comp hr] at h2
theorem inv_uniq {n : Nat} {p r : List Int} (hp : IsP n p) (hr : IsP n r) (h : comp p r = idL n) : r = inv p :=
  cancel_left hp hr (isP_inv hp) (h.trans (comp_inv hp).symm)
/-! ### other names: q becomes s⁻¹ q s -/
def cj (s q : List Int) : List Int := comp (comp (inv s) q) s
section
variable {n : Nat} {s : List Int} (hs : IsP n s)
include hs
theorem cj_isP {q : List Int} (hq : IsP n q) : IsP n (cj s q) := isP_comp (isP_comp (isP_inv hs) hq) hs
/-- At s[i] stands s[q[i]]. -/
theorem cj_at {q : List Int} {i x : Nat} {y : Int} {z : Int} (hx : s[i]? = some (x : Int)) (hy : q[i]? = some y) (hz : s[y.toNat]? = some z) : (cj s q)[x]? = some z := by
  obtain ⟨h, hl⟩ := isPerm_of hs
  have h1 := inv_at h hx
  rw [Int.toNat_natCast] at h1
  exact comp_at (comp_at h1 (by rw [Int.toNat_natCast]; exact hy)) hz
end

/-! ### relabeling is the same -/
theorem relGo_out (p : List Int) : ∀ (ps fs out : List Int) (i : Nat), (∀ x ∈ ps, x.toNat ≠ i) → (relGo p out ps fs)[i]? = out[i]?
  | [], _, _, _, _ => by rw [relGo]; simp
  | _ :: _, [], _, _, _ => by rw [relGo]; simp
  | x :: ps, y :: fs, out, i, h => by
    rw [relGo, relGo_out p ps fs _ i (fun z hz => h z (by simp [hz])), List.getElem?_set_ne (h x (by simp))]
theorem relGo_in (p : List Int) : ∀ (ps fs out : List Int) (j : Nat) (x y : Int), (ps.map Int.toNat).Nodup → ps[j]? = some x → fs[j]? = some y → x.toNat < out.length → (relGo p out ps fs)[x.toNat]? = some (p.getD y.toNat 0)
  | [], _, _, _, _, _, _, h, _, _ => by simp at h
  | _ :: _, [], _, _, _, _, _, _, h, _ => by simp at h
  | a :: ps, b :: fs, out, 0, x, y, hn, h1, h2, hl => by
    simp at h1 h2; subst h1; subst h2
    rw [List.map_cons, List.nodup_cons] at hn
    rw [relGo, relGo_out p ps fs _ a.toNat (fun z hz e => hn.1 (by rw [← e]; exact List.mem_map_of_mem hz))]
    simp [hl]
  | a :: ps, b :: fs, out, j + 1, x, y, hn, h1, h2, hl => by
    rw [List.map_cons, List.nodup_cons] at hn
    rw [relGo]
    exact relGo_in p ps fs _ j x y hn.2 (by simpa using h1) (by simpa using h2) (by simpa using hl)
theorem relab_cj {n : Nat} {s f : List Int} (hs : IsP n s) (hf : IsP n f) : relab s f = cj s f := by
  obtain ⟨h, hl⟩ := isPerm_of hs
  apply List.ext_getElem?
  intro x
  by_cases hx : x < n
  · obtain ⟨i, a, ha, e, hi⟩ := isPerm_onto h (i := x) (by omega)
    have hr := isPerm_range h a (List.mem_of_getElem? ha)
    obtain rfl : a = (x : Int) := by omega
    obtain ⟨y, hy⟩ : ∃ y, f[i]? = some y := ⟨_, List.getElem?_eq_getElem (by rw [hf.len]; omega)⟩
    have hyr := hf.range y (List.mem_of_getElem? hy)
    obtain ⟨z, hz⟩ : ∃ z, s[y.toNat]? = some z := ⟨_, List.getElem?_eq_getElem (by omega)⟩
    rw [cj_at hs ha hy hz]
    have := relGo_in s s f (List.replicate s.length 0) i x y (isPerm_nodup h) ha hy (by simp; omega)
    unfold relab
    rw [Int.toNat_natCast] at this
    rw [this, List.getD_eq_getElem?_getD, hz]
    rfl
  · rw [List.getElem?_eq_none (by rw [relab_len]; omega), List.getElem?_eq_none (by rw [(cj_isP hs hf).len]; omega)]

end

end Go.Proofs.Ytefbbbhidnnchaa
