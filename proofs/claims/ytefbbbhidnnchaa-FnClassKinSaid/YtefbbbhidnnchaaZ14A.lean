/- Texts laid one behind the other (merge.py): Ty, Str, Fam, Ints, Cls, PermDef, Perm. -/
import Derived.Test.YtefbbbhidnnchaaGrow
import Derived.Test.YtefbbbhidnnchaaRows
import Derived.WalkLawsBesides
import Derived.WalkSpells
import Derived.IntWalk
import Derived.Handy
import Derived.Deep.RegionWith
import Derived.Deep.RegionHeld3
import Derived.Deep.QuietTactic
import Derived.BigQuiet
import Derived.Deep.DeepMust
import Derived.Deep.LoopGhost
import Derived.Deep.DeepFit
import Derived.Deep.DeepCutAuto
import Derived.Lib.Hide
import Derived.Test.YtefbbbhidnnchaaLib
namespace Go.Proofs.Ytefbbbhidnnchaa
set_option linter.unusedVariables false
set_option linter.unusedSimpArgs false
open Go.RowKit

/-! ### Ty -/
section

theorem slInt : SlTy Try.prog 30 3 (.int .i64 0) 1 8 := SlTy.of Try.underlying30 (by kernel_rfl) rfl
theorem slBool : SlTy Try.prog 77 4 (.bool false) 1 1 := SlTy.of Try.underlying77 (by kernel_rfl) rfl
theorem slInts : SlTy Try.prog 31 30 (.slice none 0 0) 1 24 := SlTy.of Try.underlying31 (by kernel_rfl) rfl
/-- One value comes back that is owned and new. -/
def PostOw {α : Type} [Rep α] (w : World) (x : α) (e : Ending) (w' : World) : Prop := ∃ u, e = .returned u ∧ Ow w.heap.size w'.heap.size w' [u] x ∧ Below w.heap.size w w'
/-- A bool comes back; what was there is as it was. -/
def PostB (w : World) (b : Bool) (e : Ending) (w' : World) : Prop := e = .returned (.bool b) ∧ Below w.heap.size w w'
def PostI (w : World) (n : Int) (e : Ending) (w' : World) : Prop := e = .returned (.int .i64 n) ∧ Below w.heap.size w w'

end

/-! ### Str -/
section
instance lawText : LawfulBEq ByteArray where
  eq_of_beq {a b} h := by
    cases a; cases b
    exact congrArg ByteArray.mk (eq_of_beq h)
  rfl {a} := by cases a; exact beq_self_eq_true (α := Array UInt8) _
instance decEqText : DecidableEq ByteArray := fun a b => decidable_of_iff (a.data = b.data) ⟨ByteArray.ext, congrArg _⟩
/-- A value comes back; what was there is as it was. -/
def PostV (w : World) (v : Value) (e : Ending) (w' : World) : Prop := e = .returned v ∧ Below w.heap.size w w'
theorem text_eq (a b : ByteArray) : (a.toList == b.toList) = decide (a = b) := by
  rw [ByteArray.toList_eq, ByteArray.toList_eq]
  by_cases e : a = b
  · subst e; simp
  · have h2 : ¬ a.data = b.data := fun h => e (ByteArray.ext h)
    simp [e, h2]

end

/-! ### Fam -/
section

/-- A person: name, sex, father, mother, born, died. A union: man, woman, from, tl. -/
abbrev Per := ByteArray × Int × Int × Int × Int × Int
abbrev Uni := Int × Int × Int × Int
abbrev Fam := List Per × List Uni

def letters (s : List UInt8) : Bool := s.all fun c => decide (97 ≤ c.toNat ∧ c.toNat ≤ 122)
def nameOk (s : ByteArray) : Bool := decide (1 ≤ s.size ∧ s.size ≤ 12) && letters s.data.toList

def upC (ps : List Per) (born q sex late : Int) : Bool :=
  match ps[q.toNat]? with
  | some (_, sx, _, _, bo, di) => decide (sx = sex) && (decide (bo < born) && decide (di = -1 ∨ born ≤ di + late))
  | none => false
def upOk (ps : List Per) (i : Nat) (born q sex late : Int) : Bool := decide (q = -1) || (decide (0 ≤ q ∧ q < i) && upC ps born q sex late)

def perC (ps : List Per) (i : Nat) : Per → Bool
  | (nm, sx, fa, mo, bo, di) => nameOk nm && (decide (sx = 1 ∨ sx = 2) && (decide (0 ≤ bo ∧ bo ≤ 9999) && (decide (di = -1 ∨ (bo ≤ di ∧ di ≤ 9999)) && (!decide (nm ∈ (ps.take i).map (·.1)) && (upOk ps i bo fa 1 1 && upOk ps i bo mo 2 0)))))
def perOk (ps : List Per) (i : Nat) : Bool := match ps[i]? with | some p => perC ps i p | none => false

def dep1 (out : List Int) (q : Int) : Int := if 0 ≤ q then out.getD q.toNat 0 + 1 else 0
def depOf (out : List Int) (fa mo : Int) : Int := max (dep1 out fa) (dep1 out mo)
def deps (ps : List Per) : List Int := ps.foldl (fun out p => out ++ [depOf out p.2.2.1 p.2.2.2.1]) []
def depOk (ps : List Per) : Bool := (deps ps).all fun d => decide (d ≤ 10)

def liveOk (di fr tl : Int) : Bool := decide (di = -1 ∨ (fr ≤ di ∧ (tl = -1 ∨ tl ≤ di)))
def uniP (a b : Per) (fr tl : Int) : Bool :=
  match a, b with
  | (_, sa, _, _, ba, da), (_, sb, _, _, bb, db) => decide (sa = 1 ∧ sb = 2) && (decide (fr ≤ 9999 ∧ ba ≤ fr ∧ bb ≤ fr) && (decide (tl = -1 ∨ (fr ≤ tl ∧ tl ≤ 9999)) && (liveOk da fr tl && liveOk db fr tl)))
def uniC (f : Fam) (k : Nat) : Uni → Bool
  | (m, wo, fr, tl) => decide ((0 ≤ m ∧ m < f.1.length) ∧ (0 ≤ wo ∧ wo < f.1.length)) &&
      ((match f.1[m.toNat]?, f.1[wo.toNat]? with | some a, some b => uniP a b fr tl | _, _ => false) && !decide ((m, wo) ∈ (f.2.take k).map fun v => (v.1, v.2.1)))
def uniOk (f : Fam) (k : Nat) : Bool := match f.2[k]? with | some u => uniC f k u | none => false

def famB (f : Fam) : Bool := decide (f.1.length ≤ 40 ∧ f.2.length ≤ 60) && ((List.range f.1.length).all (perOk f.1) && (depOk f.1 && (List.range f.2.length).all (uniOk f)))

theorem all_range {g : Nat → Bool} {n : Nat} : (List.range n).all g = true ↔ ∀ i, i < n → g i = true := by
  rw [List.all_eq_true]
  exact ⟨fun h i hi => h i (List.mem_range.2 hi), fun h i hi => h i (List.mem_range.1 hi)⟩
theorem all_range_false {g : Nat → Bool} {n i : Nat} (hi : i < n) (h : g i = false) : (List.range n).all g = false := by
  cases hh : (List.range n).all g
  · rfl
  · have := all_range.1 hh i hi; rw [h] at this; cases this

/-- What is known of the persons before i. -/
def PplTo (ps : List Per) (i : Nat) : Prop := ∀ k, k < i → perOk ps k = true

theorem perOk_at {ps : List Per} {i : Nat} {p : Per} (h : ps[i]? = some p) : perOk ps i = perC ps i p := by unfold perOk; rw [h]

theorem perC_facts {ps : List Per} {i : Nat} {nm : ByteArray} {sx fa mo bo di : Int} (h : perC ps i (nm, sx, fa, mo, bo, di) = true) :
    (sx = 1 ∨ sx = 2) ∧ (0 ≤ bo ∧ bo ≤ 9999) ∧ (di = -1 ∨ (bo ≤ di ∧ di ≤ 9999)) ∧ (fa = -1 ∨ (0 ≤ fa ∧ fa < i)) ∧ (mo = -1 ∨ (0 ≤ mo ∧ mo < i)) ∧ nameOk nm = true ∧ nm ∉ (ps.take i).map (·.1) := by
  simp only [perC, upOk, Bool.and_eq_true, Bool.or_eq_true, decide_eq_true_eq, Bool.not_eq_true', decide_eq_false_iff_not] at h
  obtain ⟨h1, h2, h3, h4, h5, h6, h7⟩ := h
  refine ⟨h2, h3, h4, ?_, ?_, h1, h5⟩
  · rcases h6 with h | h
    · exact .inl h
    · exact .inr h.1
  · rcases h7 with h | h
    · exact .inl h
    · exact .inr h.1
theorem PplTo.at {ps : List Per} {n i : Nat} (h : PplTo ps n) (hi : i < n) {nm : ByteArray} {sx fa mo bo di : Int} (hp : ps[i]? = some (nm, sx, fa, mo, bo, di)) :
    (sx = 1 ∨ sx = 2) ∧ (0 ≤ bo ∧ bo ≤ 9999) ∧ (di = -1 ∨ (bo ≤ di ∧ di ≤ 9999)) ∧ (fa = -1 ∨ (0 ≤ fa ∧ fa < i)) ∧ (mo = -1 ∨ (0 ≤ mo ∧ mo < i)) ∧ nameOk nm = true ∧ nm ∉ (ps.take i).map (·.1) :=
  perC_facts (by rw [← perOk_at hp]; exact h i hi)

theorem deps_snoc (ps : List Per) (p : Per) : deps (ps ++ [p]) = deps ps ++ [depOf (deps ps) p.2.2.1 p.2.2.2.1] := by
  unfold deps; rw [List.foldl_append]; rfl
theorem deps_len (ps : List Per) : (deps ps).length = ps.length := by
  have : ∀ (l : List Per) (o : List Int), (l.foldl (fun out p => out ++ [depOf out p.2.2.1 p.2.2.2.1]) o).length = o.length + l.length := by
    intro l
    induction l with
    | nil => intro o; rfl
    | cons a l ih => intro o; rw [List.foldl_cons, ih]; simp; omega
  have := this ps []
  simpa [deps] using this
theorem dep1_bd {out : List Int} {n : Nat} (h : ∀ d ∈ out, 0 ≤ d ∧ d ≤ n) (q : Int) : 0 ≤ dep1 out q ∧ dep1 out q ≤ (n : Int) + 1 := by
  unfold dep1; split
  · have : 0 ≤ out.getD q.toNat 0 ∧ out.getD q.toNat 0 ≤ n := by
      rw [List.getD_eq_getElem?_getD]
      cases e : out[q.toNat]? with
      | none => simp
      | some d => exact h d (List.mem_of_getElem? e)
    omega
  · omega
theorem deps_bd (ps : List Per) : ∀ i, i ≤ ps.length → ∀ d ∈ deps (ps.take i), 0 ≤ d ∧ d ≤ (i : Int)
  | 0, _ => fun d hd => by simp [deps] at hd
  | i + 1, hi => by
    have hx : ps[i]? = some ps[i] := List.getElem?_eq_getElem (by omega)
    have e : ps.take (i + 1) = ps.take i ++ [ps[i]] := take_snoc hx
    rw [e, deps_snoc]
    have ih := deps_bd ps i (by omega)
    intro d hd
    rcases List.mem_append.1 hd with hd | hd
    · have := ih d hd; omega
    · simp only [List.mem_singleton] at hd
      have h1 := dep1_bd (n := i) ih ps[i].2.2.1
      have h2 := dep1_bd (n := i) ih ps[i].2.2.2.1
      rw [hd]; unfold depOf; omega

end

/-! ### Ints -/
section

/-- The marks that are laid from k on. -/
def marks (k : Int) (n : Nat) : List Int := (List.range n).map fun i => k + (i : Nat)
/-- Cells are marked; nothing else has turned. -/
def PostMark {α : Type} [Rep α] (fp : List Nat) (w : World) (cs : List Value) (y : α) (n : Int) (e : Ending) (w' : World) : Prop :=
  e = .returned (.int .i64 n) ∧ Rep.rep true w' cs y fp ∧ OffF fp w w'




end

/-! ### Cls -/
section

/-- A system of classes: wives, children. -/
abbrev Cls := List Int × List Int

theorem Rd.two {α β : Type} [Rep (List α)] [Rep β] {z : Bool} {lo hi : Nat} {w : World} {a b : Value} {x : List α × β} (h : Rd z lo hi w [a, b] x) (h1 : Rep.sz (List α) = 1) : Rd z lo hi w [a] x.1 ∧ Rd z lo hi w [b] x.2 :=
  ⟨Rd.fst (c1 := [a]) (c2 := [b]) h (by rw [h1]; rfl), Rd.snd (c1 := [a]) (c2 := [b]) h (by rw [h1]; rfl)⟩

theorem shapeCls {z : Bool} {lo hi : Nat} {w : World} {a b : Value} {c : Cls} (h : Rd z lo hi w [a, b] c) : ∃ ao n cap bo m dap, a = .slice ao n cap ∧ b = .slice bo m dap := by
  obtain ⟨h1, h2⟩ := h.two rfl
  obtain ⟨ao, n, cap, rfl, -⟩ := h1.shape
  obtain ⟨bo, m, dap, rfl, -⟩ := h2.shape
  exact ⟨ao, n, cap, bo, m, dap, rfl, rfl⟩

/-- A struct comes back: owned and new. -/
def PostOw2 {α : Type} [Rep α] (w : World) (x : α) (e : Ending) (w' : World) : Prop := ∃ a b, e = .returned (.agg #[a, b]) ∧ Ow w.heap.size w'.heap.size w' [a, b] x ∧ Below w.heap.size w w'







end

/-! ### PermDef -/
section

def permGo (n : Nat) : List Bool → List Int → Bool
  | _, [] => true
  | seen, x :: xs => if 0 ≤ x ∧ x < n ∧ seen.getD x.toNat true = false then permGo n (seen.set x.toNat true) xs else false
def isPerm (xs : List Int) : Bool := permGo xs.length (List.replicate xs.length false) xs

def invGo (n : Nat) : List Int → Nat → List Int → Option (List Int)
  | out, _, [] => some out
  | out, k, x :: xs => if 0 ≤ x ∧ x < n ∧ out.getD x.toNat 0 < 0 then invGo n (out.set x.toNat k) (k + 1) xs else none
def l1Inv (order : List Int) (n : Nat) : Option (List Int) := if order.length = n then invGo n (List.replicate n (-1)) 0 order else none

def invSet : List Int → Nat → List Int → List Int
  | out, _, [] => out
  | out, k, x :: xs => invSet (out.set x.toNat k) (k + 1) xs
def inv (p : List Int) : List Int := invSet (List.replicate p.length 0) 0 p

def comp (p q : List Int) : List Int := p.map fun x => q.getD x.toNat 0

def InRange (n : Nat) (p : List Int) : Prop := ∀ x ∈ p, 0 ≤ x ∧ x < n

theorem permGo_range {n : Nat} : ∀ {seen : List Bool} {xs : List Int}, permGo n seen xs = true → InRange n xs
  | _, [], _ => fun x h => by cases h
  | seen, x :: xs, h => by
    rw [permGo] at h
    by_cases c : 0 ≤ x ∧ x < n ∧ seen.getD x.toNat true = false
    · rw [if_pos c] at h
      intro y hy
      rcases List.mem_cons.1 hy with rfl | hy
      · exact ⟨c.1, c.2.1⟩
      · exact permGo_range h y hy
    · rw [if_neg c] at h; cases h
theorem isPerm_range {xs : List Int} (h : isPerm xs = true) : InRange xs.length xs := permGo_range h

/-- The positions not yet seen, and what will fill them. -/
theorem permGo_invGo (n : Nat) : ∀ (xs : List Int) (seen : List Bool) (out : List Int) (k : Nat), seen.length = n → out.length = n → (∀ i, i < n → (seen.getD i true = false ↔ out.getD i 0 < 0)) →
    permGo n seen xs = (invGo n out k xs).isSome
  | [], _, _, _, _, _, _ => rfl
  | x :: xs, seen, out, k, h1, h2, h3 => by
    rw [permGo, invGo]
    by_cases c : 0 ≤ x ∧ x < n
    · obtain ⟨c1, c2⟩ := c
      have hi : x.toNat < n := by omega
      have := h3 x.toNat hi
      by_cases d : seen.getD x.toNat true = false
      · rw [if_pos ⟨c1, c2, d⟩, if_pos ⟨c1, c2, this.1 d⟩]
        refine permGo_invGo n xs _ _ (k + 1) (by simpa using h1) (by simpa using h2) fun i hi' => ?_
        simp only [List.getD_eq_getElem?_getD, List.getElem?_set]
        by_cases e : x.toNat = i
        · subst e; rw [if_pos rfl, if_pos rfl, if_pos (by omega), if_pos (by omega)]; simp
        · rw [if_neg e, if_neg e]
          have := h3 i hi'
          simpa only [List.getD_eq_getElem?_getD] using this
      · rw [if_neg (fun h => d h.2.2), if_neg (fun h => d (this.2 h.2.2))]; rfl
    · rw [if_neg (fun h => c ⟨h.1, h.2.1⟩), if_neg (fun h => c ⟨h.1, h.2.1⟩)]; rfl

theorem l1Inv_isPerm (xs : List Int) : isPerm xs = (l1Inv xs xs.length).isSome := by
  rw [l1Inv, if_pos rfl, isPerm]
  refine permGo_invGo _ xs _ _ 0 (by simp) (by simp) fun i hi => ?_
  simp [List.getD_eq_getElem?_getD, List.getElem?_replicate, hi]

theorem invSet_len : ∀ (xs : List Int) (out : List Int) (k : Nat), (invSet out k xs).length = out.length
  | [], _, _ => rfl
  | x :: xs, out, k => by rw [invSet, invSet_len xs]; simp

/-- What has not been written stands as it was. -/
theorem invSet_out : ∀ (xs : List Int) (out : List Int) (k i : Nat), (∀ x ∈ xs, x.toNat ≠ i) → (invSet out k xs)[i]? = out[i]?
  | [], _, _, _, _ => rfl
  | x :: xs, out, k, i, h => by
    rw [invSet, invSet_out xs _ _ i (fun y hy => h y (List.mem_cons_of_mem _ hy)), List.getElem?_set_ne (h x List.mem_cons_self)]
/-- The last writing counts; with different numbers the only one. -/
theorem invSet_in : ∀ (xs : List Int) (out : List Int) (k j : Nat) (x : Int), (xs.map Int.toNat).Nodup → xs[j]? = some x → x.toNat < out.length → (invSet out k xs)[x.toNat]? = some ((k + j : Nat) : Int)
  | [], _, _, j, x, _, h, _ => by simp at h
  | y :: xs, out, k, 0, x, hn, h, hl => by
    simp at h; subst h
    rw [invSet, invSet_out]
    · simp [hl]
    · intro z hz e
      simp only [List.map_cons, List.nodup_cons] at hn
      exact hn.1 (List.mem_map.2 ⟨z, hz, e⟩)
  | y :: xs, out, k, j + 1, x, hn, h, hl => by
    simp only [List.map_cons, List.nodup_cons] at hn
    rw [invSet, invSet_in xs _ (k + 1) j x hn.2 (by simpa using h) (by simpa using hl)]
    congr 2; omega

theorem invGo_invSet (n : Nat) : ∀ (xs : List Int) (out r : List Int) (k : Nat), invGo n out k xs = some r → r = invSet out k xs
  | [], out, r, k, h => by simp [invGo] at h; rw [invSet, h]
  | x :: xs, out, r, k, h => by
    rw [invGo] at h
    by_cases c : 0 ≤ x ∧ x < n ∧ out.getD x.toNat 0 < 0
    · rw [if_pos c] at h; rw [invSet]; exact invGo_invSet n xs _ r _ h
    · rw [if_neg c] at h; cases h

theorem permGo_nodup {n : Nat} : ∀ (xs : List Int) (seen : List Bool), seen.length = n → permGo n seen xs = true → (xs.map Int.toNat).Nodup ∧ ∀ x ∈ xs, seen.getD x.toNat true = false
  | [], _, _, _ => ⟨by simp, fun x h => by cases h⟩
  | x :: xs, seen, hl, h => by
    rw [permGo] at h
    by_cases c : 0 ≤ x ∧ x < n ∧ seen.getD x.toNat true = false
    · rw [if_pos c] at h
      obtain ⟨h1, h2⟩ := permGo_nodup xs _ (by simpa using hl) h
      have hne : ∀ y ∈ xs, y.toNat ≠ x.toNat := by
        intro y hy e
        have := h2 y hy
        rw [e] at this
        simp only [List.getD_eq_getElem?_getD, List.getElem?_set] at this
        have h3 : x.toNat < seen.length := by omega
        simp [h3] at this
      refine ⟨?_, fun y hy => ?_⟩
      · simp only [List.map_cons, List.nodup_cons]
        refine ⟨fun hm => ?_, h1⟩
        obtain ⟨y, hy, e⟩ := List.mem_map.1 hm
        exact hne y hy e
      · rcases List.mem_cons.1 hy with rfl | hy
        · exact c.2.2
        · have := h2 y hy
          simp only [List.getD_eq_getElem?_getD] at this ⊢
          rwa [List.getElem?_set_ne (hne y hy).symm] at this
    · rw [if_neg c] at h; cases h
theorem isPerm_nodup {xs : List Int} (h : isPerm xs = true) : (xs.map Int.toNat).Nodup := (permGo_nodup xs _ (by simp) h).1

/-- Different numbers below n, n of them: each is met. -/
theorem pigeon (n : Nat) (l : List Nat) (hn : l.Nodup) (hl : ∀ x ∈ l, x < n) (hlen : l.length = n) (i : Nat) (hi : i < n) : i ∈ l := by
  refine Classical.byContradiction fun hni => ?_
  have h1 : (i :: l).Nodup := List.nodup_cons.2 ⟨hni, hn⟩
  have h2 : (i :: l) ⊆ List.range n := fun x hx => by
    rcases List.mem_cons.1 hx with rfl | hx
    · exact List.mem_range.2 hi
    · exact List.mem_range.2 (hl x hx)
  have := h1.length_le_of_subset h2
  simp at this; omega

theorem isPerm_onto {xs : List Int} (h : isPerm xs = true) {i : Nat} (hi : i < xs.length) : ∃ j x, xs[j]? = some x ∧ x.toNat = i ∧ j < xs.length := by
  have hr := isPerm_range h
  have hm : i ∈ xs.map Int.toNat := pigeon xs.length _ (isPerm_nodup h) (fun x hx => by
    obtain ⟨y, hy, rfl⟩ := List.mem_map.1 hx
    have := hr y hy; omega) (by simp) i hi
  obtain ⟨x, hx, e⟩ := List.mem_map.1 hm
  obtain ⟨j, hj⟩ := List.mem_iff_getElem?.1 hx
  exact ⟨j, x, hj, e, (List.getElem?_eq_some_iff.1 hj).1⟩

theorem invSet_perm {xs a b : List Int} (h : isPerm xs = true) (ha : a.length = xs.length) (hb : b.length = xs.length) : invSet a 0 xs = invSet b 0 xs := by
  apply List.ext_getElem?
  intro i
  by_cases hi : i < xs.length
  · obtain ⟨j, x, hj, rfl, hjl⟩ := isPerm_onto h hi
    rw [invSet_in xs a 0 j x (isPerm_nodup h) hj (by omega), invSet_in xs b 0 j x (isPerm_nodup h) hj (by omega)]
  · rw [List.getElem?_eq_none (by rw [invSet_len]; omega), List.getElem?_eq_none (by rw [invSet_len]; omega)]

/-- Both ways of turning a permutation round come to one. -/
theorem l1Inv_eq (xs : List Int) : l1Inv xs xs.length = if isPerm xs = true then some (inv xs) else none := by
  have h := l1Inv_isPerm xs
  cases hp : isPerm xs with
  | false =>
    rw [hp] at h
    cases hl : l1Inv xs xs.length with
    | none => rfl
    | some r => rw [hl] at h; cases h
  | true =>
    rw [hp] at h
    cases hl : l1Inv xs xs.length with
    | none => rw [hl] at h; cases h
    | some r =>
      rw [l1Inv, if_pos rfl] at hl
      have := invGo_invSet _ _ _ _ _ hl
      rw [this, if_pos rfl, inv]
      exact congrArg some (invSet_perm hp (by simp) (by simp))
theorem inv_len (xs : List Int) : (inv xs).length = xs.length := by rw [inv, invSet_len]; simp
theorem comp_len (p q : List Int) : (comp p q).length = p.length := by simp [comp]

theorem invSet_range : ∀ (xs out : List Int) (k n : Nat), InRange n out → k + xs.length ≤ n → InRange n (invSet out k xs)
  | [], _, _, _, h, _ => h
  | x :: xs, out, k, n, h, hk => by
    rw [invSet]
    refine invSet_range xs _ _ _ (fun y hy => ?_) (by simp at hk; omega)
    simp only [List.length_cons] at hk
    rcases List.mem_or_eq_of_mem_set hy with hy | rfl
    · exact h y hy
    · omega
theorem inv_range {xs : List Int} : InRange xs.length (inv xs) := by
  cases xs with
  | nil => intro x hx; simp [inv, invSet] at hx
  | cons x xs => exact invSet_range _ _ _ _ (fun y hy => by rw [(List.mem_replicate.1 hy).2]; simp) (by simp)


end

/-! ### Perm -/
section

theorem l1In_any (x a b : Int) (w : World) :
    Calls Try.prog 76 #[.int .i64 x, .int .i64 a, .int .i64 b] w (PostB w (decide (a ≤ x ∧ x ≤ b))) := by
  by_cases h1 : a ≤ x
  · by_cases h2 : x ≤ b
    · have HF := Lib.hid (show decide (a ≤ x ∧ x ≤ b) = true by simp [h1, h2])
      rw [HF.out]
      go_enter Try.func76, Try.ntmps76
      go_wp2
      go_ret
      exact ⟨rfl, Below.refl _ _⟩
    · have HF := Lib.hid (show decide (a ≤ x ∧ x ≤ b) = false by simp [h2])
      rw [HF.out]
      go_enter Try.func76, Try.ntmps76
      go_wp2
      go_ret
      exact ⟨rfl, Below.refl _ _⟩
  · have HF := Lib.hid (show decide (a ≤ x ∧ x ≤ b) = false by simp [h1])
    rw [HF.out]
    go_enter Try.func76, Try.ntmps76
    go_wp2
    go_ret
    exact ⟨rfl, Below.refl _ _⟩
theorem l1In_b (x a b : Int) (w : World) (r : Bool) (h : r = decide (a ≤ x ∧ x ≤ b)) :
    Calls Try.prog 76 #[.int .i64 x, .int .i64 a, .int .i64 b] w (PostB w r) := h ▸ l1In_any x a b w

theorem permGo_no1 {n : Nat} {s : List Bool} {x : Int} {xs : List Int} (h : x < 0) : permGo n s (x :: xs) = false := by rw [permGo, if_neg]; omega
theorem permGo_no2 {n : Nat} {s : List Bool} {x : Int} {xs : List Int} (h : n ≤ x) : permGo n s (x :: xs) = false := by rw [permGo, if_neg]; omega
theorem permGo_no3 {n : Nat} {s : List Bool} {m : Nat} {xs : List Int} (h : s[m]? = some true) : permGo n s (m :: xs) = false := by
  rw [permGo, if_neg]; intro hh; have := hh.2.2; simp [List.getD_eq_getElem?_getD, h] at this
theorem permGo_yes {n : Nat} {s : List Bool} {m : Nat} {xs : List Int} (hm : m < n) (h : s[m]? = some false) : permGo n s (m :: xs) = permGo n (s.set m true) xs := by
  rw [permGo, if_pos]
  · simp
  · simp [List.getD_eq_getElem?_getD, h]; omega

set_option maxHeartbeats 2000000 in
theorem isPermI_any {z : Bool} {lo hi : Nat} (w : World) (v : Value) (xs : List Int) (h : Rd z lo hi w [v] xs) (hl : xs.length ≤ 1048576) :
    Calls Try.prog 85 #[v] w (PostB w (isPerm xs)) := by
  obtain ⟨ao, n, cap, rfl, rfl, hnc, hcm, hnone⟩ := h.shape
  go_enter Try.func85, Try.ntmps85
  go_wp2_with (at_make; refine wpList_mk (α := Bool) rfl rfl slBool (y0 := false) (fun _ => ⟨rfl, rfl⟩) rfl rfl rfl rfl (by omega) (by unfold maxLen; omega) ?_; intro w1 how hb1 hlt)
  go_loopw [5, 11] (fun q i wr => ∃ k : Nat, k ≤ xs.length ∧ i = .int .i64 k ∧ ∃ s : List Bool, Ow w.heap.size (w.heap.size + 1) wr [.slice (some ⟨w.heap.size, 0, none⟩) xs.length xs.length] s ∧ Hid (permGo xs.length s (xs.drop k) = isPerm xs) ∧ Below w.heap.size w wr) (fun _ i _ => xs.length - (intOf i).toNat)
  case atStart => exact ⟨0, Nat.zero_le _, rfl, _, how, rfl, hb1⟩
  case round =>
    obtain ⟨k, hk, rfl, s, how', hp, hb⟩ := hrel
    clear how hb1 hlt
    by_cases hlt : k < xs.length
    · obtain ⟨b, off, x, rfl, hx, hc, hx1, hx2, _⟩ := (h.below hb).int_at hlt
      have hp' := hp.out
      rw [drop_cons hx.out] at hp'
      have HP := Lib.hid hp'
      clear hp hp' hx h
      by_cases h0 : x < 0
      · have HF := Lib.hid (HP.out.symm.trans (permGo_no1 h0))
        rw [HF.out]
        clear how' HP
        go_wp2
        go_ret
        exact ⟨rfl, hb⟩
      · obtain ⟨m, rfl⟩ := Int.eq_ofNat_of_zero_le (Int.not_lt.1 h0)
        by_cases hn : xs.length ≤ m
        · have HF := Lib.hid (HP.out.symm.trans (permGo_no2 (by omega)))
          rw [HF.out]
          clear how' HP
          go_wp2
          go_ret
          exact ⟨rfl, hb⟩
        · obtain ⟨y, hy, hcy, hfy, _⟩ := how'.bool_at0 (i := m) (by omega)
          have hmI : (m : Int) < xs.length := by omega
          cases y with
          | true =>
            have HF := Lib.hid (HP.out.symm.trans (permGo_no3 hy.out))
            rw [HF.out]
            clear how' HP hy
            go_wp2
            go_ret
            exact ⟨rfl, hb⟩
          | false =>
            have HS := Lib.hid (how'.bool_set0 (i := m) (by omega) true)
            have HN := Lib.hid ((permGo_yes (by omega) hy.out).symm.trans HP.out)
            clear how' HP hy
            go_wp2
            go_roundw
            case rel => exact ⟨k + 1, by omega, by go_num, _, HS.out, HN.out, hb.setCell (Nat.le_refl _) _⟩
            case measure => simp [intOf]; omega
    · have HF := Lib.hid (show isPerm xs = true by rw [← hp.out, List.drop_eq_nil_of_le (by omega)]; rfl)
      clear how' hp h
      go_wp2
      go_ret
      exact ⟨ret_bool HF.out.symm, hb⟩
theorem isPermI_b {z : Bool} {lo hi : Nat} (w : World) (v : Value) (xs : List Int) (h : Rd z lo hi w [v] xs) (hl : xs.length ≤ 1048576) (r : Bool) (hr : r = isPerm xs) :
    Calls Try.prog 85 #[v] w (PostB w r) := hr ▸ isPermI_any w v xs h hl

/-- A slice and true come back, or nothing and false. -/
def PostOk {α : Type} [Rep α] (w : World) (r : Option α) (e : Ending) (w' : World) : Prop :=
  (match r with
   | some x => ∃ u, e = .returned (.tuple #[u, .bool true]) ∧ Ow w.heap.size w'.heap.size w' [u] x
   | none => e = .returned (.tuple #[.slice none 0 0, .bool false])) ∧ Below w.heap.size w w'

theorem invGo_no1 {n : Nat} {s : List Int} {k : Nat} {x : Int} {xs : List Int} (h : x < 0) : invGo n s k (x :: xs) = none := by rw [invGo, if_neg]; omega
theorem invGo_no2 {n : Nat} {s : List Int} {k : Nat} {x : Int} {xs : List Int} (h : n ≤ x) : invGo n s k (x :: xs) = none := by rw [invGo, if_neg]; omega
theorem invGo_no3 {n : Nat} {s : List Int} {k m : Nat} {y : Int} {xs : List Int} (h : s[m]? = some y) (hy : 0 ≤ y) : invGo n s k (m :: xs) = none := by
  rw [invGo, if_neg]; intro hh; have := hh.2.2; simp [List.getD_eq_getElem?_getD, h] at this; omega
theorem invGo_yes {n : Nat} {s : List Int} {k m : Nat} {y : Int} {xs : List Int} (hm : m < n) (h : s[m]? = some y) (hy : y < 0) : invGo n s k (m :: xs) = invGo n (s.set m k) (k + 1) xs := by
  rw [invGo, if_pos]
  · simp
  · simp [List.getD_eq_getElem?_getD, h]; omega

theorem rep_set_snoc {α : Type} {n k : Nat} {a b : α} (h : k < n) : (List.replicate k a ++ List.replicate (n - k) b).set k a = List.replicate (k + 1) a ++ List.replicate (n - (k + 1)) b := by
  rw [List.set_append_right _ _ (by simp)]
  have e : n - k = (n - (k + 1)) + 1 := by omega
  rw [e, List.replicate_succ]
  simp [List.replicate_succ']

set_option maxHeartbeats 2000000 in
theorem l1Inverse_any {z : Bool} {lo hi : Nat} (w : World) (v : Value) (xs : List Int) (n : Nat) (h : Rd z lo hi w [v] xs) (hl : xs.length ≤ 1048576) (hn : n ≤ 1048576) :
    Calls Try.prog 102 #[v, .int .i64 n] w (PostOk w (l1Inv xs n)) := by
  obtain ⟨ao, n', cap, rfl, rfl, hnc, hcm, hnone⟩ := h.shape
  go_enter Try.func102, Try.ntmps102
  go_wp2_with (at_make; refine wpList_mk (α := Int) (n := n) rfl rfl slInt (y0 := 0) (fun _ => ⟨rfl, by unfold I64; omega, rfl⟩) rfl rfl rfl rfl (by omega) (by unfold maxLen; omega) ?_; intro w1 how hb1 hlt)
  go_loopw [7, 14] (fun q i wr => ∃ k : Nat, k ≤ n ∧ i = .int .i64 k ∧ Ow w.heap.size (w.heap.size + 1) wr [.slice (some ⟨w.heap.size, 0, none⟩) n n] (List.replicate k (-1 : Int) ++ List.replicate (n - k) 0) ∧ Below w.heap.size w wr) (fun _ i _ => n - (intOf i).toNat)
  case atStart => exact ⟨0, Nat.zero_le _, rfl, by simpa using how, hb1⟩
  case round =>
    obtain ⟨k, hk, rfl, how', hb⟩ := hrel
    clear how hb1 hlt
    by_cases hlt : k < n
    · obtain ⟨y, hy, hcy, _, _, hfy, _⟩ := how'.int_at0 hlt
      have hset := how'.int_set0 hlt (y := -1) ⟨by omega, by omega⟩
      rw [rep_set_snoc hlt] at hset
      have HS := Lib.hid hset
      clear hset how' hy h
      go_wp2
      go_roundw
      case rel => exact ⟨k + 1, by omega, by go_num, HS.out, hb.setCell (Nat.le_refl _) _⟩
      case measure => simp [intOf]; omega
    · have e : k = n := by omega
      subst e
      by_cases hln : xs.length = k
      · have HLN := Lib.hid hln
        have hbne : ((xs.length : Int) != (k : Int)) = false := by simp [hln]
        have hl1 : xs.length ≤ k := by omega
        have hl2 : k ≤ xs.length := by omega
        have HE := Lib.hid (show l1Inv xs k = invGo k (List.replicate k (-1)) 0 xs from if_pos hln)
        clear hln
        have how2 := how'
        simp only [Nat.sub_self, List.replicate_zero, List.append_nil] at how2
        have HOW := Lib.hid how2
        clear how' how2
        go_wp2
        go_loopw [8, 9, 27] (fun q r i wr => ∃ j : Nat, j ≤ xs.length ∧ i = .int .i64 j ∧ ∃ s : List Int, Ow w.heap.size (w.heap.size + 1) wr [.slice (some ⟨w.heap.size, 0, none⟩) k k] s ∧ Hid (invGo k s j (xs.drop j) = l1Inv xs k) ∧ Below w.heap.size w wr) (fun _ _ i _ => xs.length - (intOf i).toNat)
        case atStart => exact ⟨0, Nat.zero_le _, rfl, _, HOW.out, HE.out.symm, hb⟩
        case round =>
          obtain ⟨j, hj, rfl, s, how', hp, hb⟩ := hrel
          clear HOW HE
          by_cases hlt : j < xs.length
          · obtain ⟨b, off, x, rfl, hx, hc, hx1, hx2, _⟩ := (h.below hb).int_at hlt
            have hp' := hp.out
            rw [drop_cons hx.out] at hp'
            have HP := Lib.hid hp'
            clear hp hp' hx h
            by_cases h0 : x < 0
            · have HF := Lib.hid (HP.out.symm.trans (invGo_no1 h0))
              rw [HF.out]
              clear how' HP
              go_wp2
              go_ret2
              exact ⟨rfl, hb⟩
            · obtain ⟨m, rfl⟩ := Int.eq_ofNat_of_zero_le (Int.not_lt.1 h0)
              by_cases hn' : k ≤ m
              · have HF := Lib.hid (HP.out.symm.trans (invGo_no2 (by omega)))
                rw [HF.out]
                clear how' HP
                go_wp2
                go_ret2
                exact ⟨rfl, hb⟩
              · obtain ⟨y, hy, hcy, hy1, hy2, hfy, _⟩ := how'.int_at0 (i := m) (by omega)
                have hmI : (m : Int) < k := by omega
                by_cases hy0 : 0 ≤ y
                · have HF := Lib.hid (HP.out.symm.trans (invGo_no3 hy.out hy0))
                  rw [HF.out]
                  clear how' HP hy
                  go_wp2
                  go_ret2
                  exact ⟨rfl, hb⟩
                · have HS := Lib.hid (how'.int_set0 (i := m) (by omega) (y := j) ⟨by omega, by omega⟩)
                  have HN := Lib.hid ((invGo_yes (by omega) hy.out (by omega)).symm.trans HP.out)
                  clear how' HP hy
                  go_wp2
                  go_roundw
                  case rel => exact ⟨j + 1, by omega, by go_num, _, HS.out, HN.out, hb.setCell (Nat.le_refl _) _⟩
                  case measure => simp [intOf]; omega
          · have HF := Lib.hid (show l1Inv xs k = some s by rw [← hp.out, List.drop_eq_nil_of_le (by omega)]; rfl)
            have HO := Lib.hid how'.top
            clear how' hp h
            go_wp2
            go_ret2
            refine ⟨?_, hb⟩
            rw [HF.out]
            exact ⟨_, rfl, HO.out⟩
      · have hbne : ((xs.length : Int) != (k : Int)) = true := by simp; omega
        have HE := Lib.hid (show l1Inv xs k = none from if_neg hln)
        clear how' h hln
        go_wp2
        go_ret2
        refine ⟨?_, hb⟩
        rw [HE.out]
        rfl

end

end Go.Proofs.Ytefbbbhidnnchaa
