/- A library of ours: how lists, numbers and texts lie in memory ('rep'), which blocks they take (their footprint), and what keeps them. No function of the program is named here. -/
import Derived.WalkKit
import Derived.Laws.AppendOwnNone
import Derived.Deep.RegionHeld3
namespace Go.Proofs.Ytefbbbhidnnchaa
set_option linter.unusedVariables false
set_option linter.unusedSimpArgs false
open Go.RowKit

/-! ### zones of memory -/
/-- The blocks from lo on and below hi are as they were. -/
def Zone (lo hi : Nat) (w w' : World) : Prop := ∀ b, lo ≤ b → b < hi → w'.heap[b]? = w.heap[b]?

theorem Zone.refl (lo hi : Nat) (w : World) : Zone lo hi w w := fun _ _ _ => rfl
theorem Zone.trans {lo hi : Nat} {a b c : World} (h : Zone lo hi a b) (k : Zone lo hi b c) : Zone lo hi a c := fun i h1 h2 => (k i h1 h2).trans (h i h1 h2)
theorem Zone.mono {lo hi lo' hi' : Nat} {a b : World} (h : Zone lo hi a b) (h1 : lo ≤ lo') (h2 : hi' ≤ hi) : Zone lo' hi' a b := fun i a1 a2 => h i (Nat.le_trans h1 a1) (Nat.lt_of_lt_of_le a2 h2)
theorem Zone.alloc {lo hi : Nat} {a w : World} (h : Zone lo hi a w) (hh : hi ≤ w.heap.size) (o : Obj) : Zone lo hi a (w.alloc o) :=
  fun i h1 h2 => (Below.heap_alloc w o i (Nat.lt_of_lt_of_le h2 hh)).trans (h i h1 h2)
theorem Zone.setCell {lo hi : Nat} {a w : World} (h : Zone lo hi a w) {p : Addr} (hp : p.block < lo ∨ hi ≤ p.block) (u : Value) : Zone lo hi a (w.setCell p u) :=
  fun i h1 h2 => (Below.heap_setCell w p u i (by omega)).trans (h i h1 h2)
theorem Zone.drew {lo hi : Nat} {a w : World} (h : Zone lo hi a w) : Zone lo hi a w.drew := h
theorem Zone.below {lo hi : Nat} {a w w' : World} (h : Zone lo hi a w) {k : Nat} (hb : Below k w w') (hk : hi ≤ k) : Zone lo hi a w' :=
  fun i h1 h2 => (hb.block i (Nat.lt_of_lt_of_le h2 hk)).trans (h i h1 h2)
theorem Zone.grown {lo hi : Nat} {a w w' : World} (h : Zone lo hi a w) {row : Option Nat} (hg : w.grownBy w' row) (hh : hi ≤ w.heap.size) (hr : ∀ k, row = some k → k < lo ∨ hi ≤ k) : Zone lo hi a w' :=
  fun i h1 h2 => (hg.block i (Nat.lt_of_lt_of_le h2 hh) (fun e => by have := hr i e.symm; omega)).trans (h i h1 h2)
theorem Below.zone {B : Nat} {w w' : World} (h : Below B w w') (lo : Nat) : Zone lo B w w' := fun i _ h2 => h.block i h2

/-! ### short words for what walks pay again and again (the last argument pays itself) -/
theorem szT {p : Prop} (h : p := by first | omega | (simp only [World.size_alloc, World.size_setCell, World.size_drew] at *; omega) | (simp; omega) | simp) : p := h
theorem ltT {p : Prop} (h : p := by first | omega | (simp; omega) | (simp; done)) : p := h
theorem bwT {k : Nat} {a b : World} (h : Below k a b := by repeat' (first | (with_reducible exact Below.refl _ _) | (with_reducible assumption) | (with_reducible refine Below.alloc ?_ (by first | omega | (simp; omega) | simp) _) | (with_reducible refine Below.setCell ?_ (by first | omega | (simp; omega) | simp) _) | (with_reducible refine Below.drew ?_) | (with_reducible refine below_drewN ?_ _))) : Below k a b := h
theorem znT {l u : Nat} {a b : World} (h : Zone l u a b := by repeat' (first | (with_reducible exact Zone.refl _ _ _) | (with_reducible refine Zone.setCell ?_ (Or.inl (by first | omega | (simp; omega) | simp)) _) | (with_reducible refine Zone.alloc ?_ (by first | omega | (simp; omega) | simp) _) | (with_reducible refine Zone.drew ?_))) : Zone l u a b := h
theorem zmT {l u : Nat} {a b : World} (h : Zone l u a b := by repeat' (first | (with_reducible exact Zone.refl _ _ _) | (with_reducible refine Zone.setCell ?_ (by first | (left; omega) | (right; omega) | (left; simp; omega) | (right; simp; omega) | (left; simp; done)) _) | (with_reducible refine Zone.alloc ?_ (by first | omega | (simp; omega) | simp) _) | (with_reducible refine Zone.drew ?_))) : Zone l u a b := h
theorem zgT {l u : Nat} {a b : World} (h : Zone l u a b := by repeat' (first | (with_reducible exact Zone.refl _ _ _) | (with_reducible refine zone_drewN ?_ _) | (with_reducible refine Zone.setCell ?_ (by first | (left; omega) | (right; omega) | (left; simp; omega) | (right; simp; omega) | (left; simp; done) | (right; simp; done)) _) | (with_reducible refine Zone.alloc ?_ (by first | omega | (simp; omega) | simp) _) | (with_reducible refine Zone.drew ?_))) : Zone l u a b := h
theorem kpT {p : Prop} (h : p := by first | exact trivial | ((try dsimp only); (first | (with_reducible assumption) | (go_keep; done) | (simp [go_sem, *]; done) | go_keep))) : p := h
section
variable {P : Program} {ops : Array Oper} {Q : Exit → Act → World → Prop} {md : Region.Mode} {S : World → Prop}
/-- wpAnyH_take: operation i is taken first. -/
theorem tkR (i : Nat) {oi : Oper} {v : Value} {fuel : Nat} {listed : Array Bool} {a : Act} {w : World} (hY : ∀ w, S w → (execOp a.eval oi).run P w = .ok (.value v) w)
    (h : wpAnyH P md ops Q S fuel (listed.setIfInBounds i true) (a.put oi.dst v) w)
    (hi : ops[i]? = some oi := by simp only [List.getElem?_toArray, List.getElem?_cons_succ, List.getElem?_cons_zero]; rfl)
    (hs : Region.noSelect ops = true := by kernel_rfl) (hf : Region.free md ops listed i = true := by kernel_rfl) (hr : (Region.ready md ops listed).contains i = true := by kernel_rfl)
    (hQ : ∀ c a w, Q (.panic c) (a.put oi.dst v) w → Q (.panic c) a w := by exact fun _ _ _ h => h) (hg : Region.wanted oi (yielded ops a.tmps) = true := by rfl) (hS : S w := by assumption) : wpAnyH P md ops Q S (fuel + 1) listed a w :=
  wpAnyH_take hi hs hf hr hQ (Or.inl ⟨hg, hY⟩) hS h
/-- .. a guarded one that is not wanted. -/
theorem skR (i : Nat) {oi : Oper} {fuel : Nat} {listed : Array Bool} {a : Act} {w : World}
    (h : wpAnyH P md ops Q S fuel (listed.setIfInBounds i true) (a.put oi.dst undef) w)
    (hi : ops[i]? = some oi := by simp only [List.getElem?_toArray, List.getElem?_cons_succ, List.getElem?_cons_zero]; rfl)
    (hs : Region.noSelect ops = true := by kernel_rfl) (hf : Region.free md ops listed i = true := by kernel_rfl) (hr : (Region.ready md ops listed).contains i = true := by kernel_rfl)
    (hQ : ∀ c a w, Q (.panic c) (a.put oi.dst undef) w → Q (.panic c) a w := by exact fun _ _ _ h => h) (hg : Region.wanted oi (yielded ops a.tmps) = false := by kernel_rfl) (hS : S w := by assumption) : wpAnyH P md ops Q S (fuel + 1) listed a w :=
  wpAnyH_take hi hs hf hr hQ (Or.inr ⟨hg, rfl⟩) hS h
/-- AllReadyH.cons. -/
theorem rdR {fuel : Nat} {listed : Array Bool} {a : Act} {w : World} {i : Nat} {o : Oper} {rs : List Nat}
    (h : ∀ K' : Act → World → Prop, Shut (∀ a w, S w → (S w → wpAnyH P md ops Q S fuel (listed.setIfInBounds i true) a w) → K' a w) → if Region.wanted o (yielded ops a.tmps) = true then Oper.wp P o a w K' Q else K' (a.put o.dst undef) w)
    (hs : AllReadyH P md ops Q S fuel listed a w rs) (ho : ops[i]? = some o := by simp only [List.getElem?_toArray, List.getElem?_cons_succ, List.getElem?_cons_zero]; rfl) : AllReadyH P md ops Q S fuel listed a w (i :: rs) := AllReadyH.cons ho h hs
end
theorem Below.after {B : Nat} {w0 w w' : World} (h : Below B w0 w) (k : Below w.heap.size w w') (hB : B ≤ w.heap.size) : Below B w0 w' := h.trans (k.mono hB)

/-! ### what lies in memory -/
class Rep (α : Type) where
  sz : Nat
  rep : Bool → World → List Value → α → List Nat → Prop
  len : ∀ {z w cs x fp}, rep z w cs x fp → cs.length = sz
  one : ∀ {z w cs x fp}, rep z w cs x fp → ∀ c ∈ cs, c.oneCell' = true
  lt : ∀ {z w cs x fp}, rep z w cs x fp → ∀ b ∈ fp, b < w.heap.size
  keep : ∀ {z w w' cs x fp}, rep z w cs x fp → (∀ b ∈ fp, w'.heap[b]? = w.heap[b]?) → rep z w' cs x fp
  weak : ∀ {z w cs x fp}, rep z w cs x fp → rep false w cs x fp

/-- Items that hold no reference. -/
class FlatRep (α : Type) extends Rep α where
  flat : ∀ {z w cs x fp}, rep z w cs x fp → fp = [] ∧ ∀ z' w', rep z' w' cs x []
  det : ∀ {z w cs x fp z' w' cs' fp'}, rep z w cs x fp → rep z' w' cs' x fp' → cs = cs'

/-- 64-bit range. -/
def I64 (x : Int) : Prop := -9223372036854775808 ≤ x ∧ x ≤ 9223372036854775807

instance : FlatRep Int where
  sz := 1
  rep _ _ cs x fp := cs = [.int .i64 x] ∧ I64 x ∧ fp = []
  weak h := h
  flat h := ⟨h.2.2, fun _ _ => ⟨h.1, h.2.1, rfl⟩⟩
  det h k := h.1.trans k.1.symm
  len h := by rw [h.1]; rfl
  one h := by rw [h.1]; intro c hc; simp at hc; subst hc; rfl
  lt h := by rw [h.2.2]; intro b hb; cases hb
  keep h _ := h

instance : FlatRep Bool where
  sz := 1
  rep _ _ cs x fp := cs = [.bool x] ∧ fp = []
  weak h := h
  flat h := ⟨h.2, fun _ _ => ⟨h.1, rfl⟩⟩
  det h k := h.1.trans k.1.symm
  len h := by rw [h.1]; rfl
  one h := by rw [h.1]; intro c hc; simp at hc; subst hc; rfl
  lt h := by rw [h.2]; intro b hb; cases hb
  keep h _ := h

instance : FlatRep ByteArray where
  sz := 1
  rep _ _ cs x fp := cs = [.string x] ∧ x.size ≤ maxLen ∧ fp = []
  weak h := h
  flat h := ⟨h.2.2, fun _ _ => ⟨h.1, h.2.1, rfl⟩⟩
  det h k := h.1.trans k.1.symm
  len h := by rw [h.1]; rfl
  one h := by rw [h.1]; intro c hc; simp at hc; subst hc; rfl
  lt h := by rw [h.2.2]; intro b hb; cases hb
  keep h _ := h

/-- Three lists, item by item. -/
def Zip {α : Type} (R : List Value → α → List Nat → Prop) : List (List Value) → List α → List (List Nat) → Prop
  | [], [], [] => True
  | c :: cs, x :: xs, f :: fs => R c x f ∧ Zip R cs xs fs
  | _, _, _ => False

theorem Zip.mono {α : Type} {R R' : List Value → α → List Nat → Prop} : ∀ {cs : List (List Value)} {xs : List α} {fs : List (List Nat)}, Zip R cs xs fs → (∀ c x f, f ∈ fs → R c x f → R' c x f) → Zip R' cs xs fs
  | [], [], [], _, _ => trivial
  | c :: cs, x :: xs, f :: fs, h, k => ⟨k _ _ _ (by simp) h.1, Zip.mono h.2 (fun c x f hf => k c x f (by simp [hf]))⟩
  | [], [], _ :: _, h, _ => h.elim
  | [], _ :: _, _, h, _ => h.elim
  | _ :: _, [], _, h, _ => h.elim
  | _ :: _, _ :: _, [], h, _ => h.elim

theorem Zip.snoc {α : Type} {R : List Value → α → List Nat → Prop} : ∀ {cs : List (List Value)} {xs : List α} {fs : List (List Nat)}, Zip R cs xs fs → ∀ {c x f}, R c x f → Zip R (cs ++ [c]) (xs ++ [x]) (fs ++ [f])
  | [], [], [], _, _, _, _, h => ⟨h, trivial⟩
  | _ :: _, _ :: _, _ :: _, h, _, _, _, k => ⟨h.1, Zip.snoc h.2 k⟩
  | [], [], _ :: _, h, _, _, _, _ => h.elim
  | [], _ :: _, _, h, _, _, _, _ => h.elim
  | _ :: _, [], _, h, _, _, _, _ => h.elim
  | _ :: _, _ :: _, [], h, _, _, _, _ => h.elim

theorem Zip.append {α : Type} {R : List Value → α → List Nat → Prop} : ∀ {cs : List (List Value)} {xs : List α} {fs : List (List Nat)}, Zip R cs xs fs → ∀ {cs' xs' fs'}, Zip R cs' xs' fs' → Zip R (cs ++ cs') (xs ++ xs') (fs ++ fs')
  | [], [], [], _, _, _, _, h => h
  | _ :: _, _ :: _, _ :: _, h, _, _, _, k => ⟨h.1, Zip.append h.2 k⟩
  | [], [], _ :: _, h, _, _, _, _ => h.elim
  | [], _ :: _, _, h, _, _, _, _ => h.elim
  | _ :: _, [], _, h, _, _, _, _ => h.elim
  | _ :: _, _ :: _, [], h, _, _, _, _ => h.elim

theorem Zip.lens {α : Type} {R : List Value → α → List Nat → Prop} : ∀ {cs : List (List Value)} {xs : List α} {fs : List (List Nat)}, Zip R cs xs fs → cs.length = xs.length ∧ fs.length = xs.length
  | [], [], [], _ => ⟨rfl, rfl⟩
  | _ :: _, _ :: _, _ :: _, h => by have := Zip.lens h.2; simp; omega
  | [], [], _ :: _, h => h.elim
  | [], _ :: _, _, h => h.elim
  | _ :: _, [], _, h => h.elim
  | _ :: _, _ :: _, [], h => h.elim

theorem Zip.get {α : Type} {R : List Value → α → List Nat → Prop} : ∀ {cs : List (List Value)} {xs : List α} {fs : List (List Nat)}, Zip R cs xs fs → ∀ {i : Nat} {x : α}, xs[i]? = some x → ∃ c f, cs[i]? = some c ∧ fs[i]? = some f ∧ R c x f
  | [], [], [], _, i, x, h => by simp at h
  | c :: cs, x :: xs, f :: fs, h, 0, y, k => by simp at k; subst k; exact ⟨c, f, rfl, rfl, h.1⟩
  | c :: cs, x :: xs, f :: fs, h, i + 1, y, k => by
    obtain ⟨c', f', h1, h2, h3⟩ := Zip.get h.2 (i := i) (x := y) (by simpa using k)
    exact ⟨c', f', by simpa using h1, by simpa using h2, h3⟩
  | [], [], _ :: _, h, _, _, _ => h.elim
  | [], _ :: _, _, h, _, _, _ => h.elim
  | _ :: _, [], _, h, _, _, _ => h.elim
  | _ :: _, _ :: _, [], h, _, _, _ => h.elim

theorem Zip.drop {α : Type} {R : List Value → α → List Nat → Prop} (i : Nat) {cs : List (List Value)} {xs : List α} {fs : List (List Nat)} (h : Zip R cs xs fs) : Zip R (cs.drop i) (xs.drop i) (fs.drop i) := by
  induction i generalizing cs xs fs with
  | zero => simpa using h
  | succ i ih =>
    match cs, xs, fs, h with
    | [], [], [], _ => trivial
    | _ :: _, _ :: _, _ :: _, h => simpa using ih h.2

theorem Zip.take {α : Type} {R : List Value → α → List Nat → Prop} (i : Nat) {cs : List (List Value)} {xs : List α} {fs : List (List Nat)} (h : Zip R cs xs fs) : Zip R (cs.take i) (xs.take i) (fs.take i) := by
  induction i generalizing cs xs fs with
  | zero => simp [Zip]
  | succ i ih =>
    match cs, xs, fs, h with
    | [], [], [], _ => trivial
    | _ :: _, _ :: _, _ :: _, h => exact ⟨h.1, ih h.2⟩

theorem Zip.set {α : Type} {R : List Value → α → List Nat → Prop} : ∀ {cs : List (List Value)} {xs : List α} {fs : List (List Nat)}, Zip R cs xs fs → ∀ {i c x f}, R c x f → i < xs.length → Zip R (cs.set i c) (xs.set i x) (fs.set i f)
  | [], [], [], _, _, _, _, _, _, h => by simp at h
  | c :: cs, x :: xs, f :: fs, h, 0, _, _, _, k, _ => ⟨k, h.2⟩
  | c :: cs, x :: xs, f :: fs, h, i + 1, _, _, _, k, hi => ⟨h.1, Zip.set h.2 k (by simpa using hi)⟩
  | [], [], _ :: _, h, _, _, _, _, _, _ => h.elim
  | [], _ :: _, _, h, _, _, _, _, _, _ => h.elim
  | _ :: _, [], _, h, _, _, _, _, _, _ => h.elim
  | _ :: _, _ :: _, [], h, _, _, _, _, _, _ => h.elim

theorem cellsAt_flat {s : Nat} : ∀ {css : List (List Value)} {i : Nat} {c : List Value}, (∀ d ∈ css, d.length = s) → css[i]? = some c → ∀ j, j < s → css.flatten[i * s + j]? = c[j]?
  | [], i, c, _, h, _, _ => by simp at h
  | d :: css, 0, c, hl, h, j, hj => by
    simp at h; subst h
    have := hl d (by simp)
    simp only [List.flatten_cons, Nat.zero_mul, Nat.zero_add]
    rw [List.getElem?_append_left (by omega)]
  | d :: css, i + 1, c, hl, h, j, hj => by
    have h2 := hl d (by simp)
    have ih := cellsAt_flat (css := css) (i := i) (c := c) (fun d hd => hl d (by simp [hd])) (by simpa using h) j hj
    simp only [List.flatten_cons]
    rw [List.getElem?_append_right (by rw [Nat.add_mul]; omega), ← ih]
    congr 1
    rw [Nat.add_mul]; omega

theorem length_flat {s : Nat} : ∀ {css : List (List Value)}, (∀ d ∈ css, d.length = s) → css.flatten.length = css.length * s
  | [], _ => by simp
  | d :: css, h => by
    have := length_flat (css := css) (fun d hd => h d (by simp [hd]))
    have h2 := h d (by simp)
    simp only [List.flatten_cons, List.length_append, List.length_cons, Nat.add_mul]
    omega

section
variable {α : Type} [Rep α]

theorem Zip.sizes {z : Bool} {w : World} : ∀ {cs : List (List Value)} {xs : List α} {fs : List (List Nat)}, Zip (Rep.rep z w) cs xs fs → ∀ d ∈ cs, d.length = Rep.sz α
  | [], _, _, _, d, hd => by cases hd
  | c :: cs, x :: xs, f :: fs, h, d, hd => by
    rcases List.mem_cons.1 hd with rfl | hd
    · exact Rep.len h.1
    · exact Zip.sizes h.2 d hd
  | _ :: _, [], _, h, _, _ => h.elim
  | _ :: _, _ :: _, [], h, _, _ => h.elim

theorem Zip.lt {z : Bool} {w : World} : ∀ {cs : List (List Value)} {xs : List α} {fs : List (List Nat)}, Zip (Rep.rep z w) cs xs fs → ∀ b ∈ fs.flatten, b < w.heap.size
  | [], [], [], _, b, hb => by simp at hb
  | c :: cs, x :: xs, f :: fs, h, b, hb => by
    simp only [List.flatten_cons, List.mem_append] at hb
    rcases hb with hb | hb
    · exact Rep.lt h.1 b hb
    · exact Zip.lt h.2 b hb
  | [], [], _ :: _, h, _, _ => h.elim
  | [], _ :: _, _, h, _, _ => h.elim
  | _ :: _, [], _, h, _, _ => h.elim
  | _ :: _, _ :: _, [], h, _, _ => h.elim

theorem Zip.keep {z : Bool} {w w' : World} {cs : List (List Value)} {xs : List α} {fs : List (List Nat)} (h : Zip (Rep.rep z w) cs xs fs) (k : ∀ b ∈ fs.flatten, w'.heap[b]? = w.heap[b]?) : Zip (Rep.rep z w') cs xs fs :=
  h.mono fun _ _ f hf r => Rep.keep r fun b hb => k b (List.mem_flatten.2 ⟨f, hf, hb⟩)

theorem Zip.one {z : Bool} {w : World} : ∀ {cs : List (List Value)} {xs : List α} {fs : List (List Nat)}, Zip (Rep.rep z w) cs xs fs → ∀ c ∈ cs.flatten, c.oneCell' = true
  | [], _, _, _, d, hd => by simp at hd
  | c :: cs, x :: xs, f :: fs, h, d, hd => by
    simp only [List.flatten_cons, List.mem_append] at hd
    rcases hd with hd | hd
    · exact Rep.one h.1 d hd
    · exact Zip.one h.2 d hd
  | _ :: _, [], _, h, _, _ => h.elim
  | _ :: _, _ :: _, [], h, _, _ => h.elim

/-- A slice: its address, its length, its capacity, the items' cells one behind the other. -/
def SliceRep (z : Bool) (w : World) (v : Value) (xs : List α) (fp : List Nat) : Prop :=
  ∃ ao n cap, v = .slice ao n cap ∧ xs.length = n ∧ n ≤ cap ∧ cap ≤ maxLen ∧ (ao = none → cap = 0) ∧
    ((n = 0 ∧ fp = []) ∨ ∃ b off css fps, ao = some ⟨b, off, none⟩ ∧ b < w.heap.size ∧ fp = b :: fps.flatten ∧ Zip (Rep.rep z w) css xs fps ∧
      (∀ j c, css.flatten[j]? = some c → w.cell? ⟨b, off + j, none⟩ = some c) ∧ (z = true → ∀ o, w.frozen? ⟨b, o, none⟩ = false))

instance : Rep (List α) where
  sz := 1
  rep z w cs xs fp := ∃ v, cs = [v] ∧ SliceRep z w v xs fp
  weak h := by
    obtain ⟨v, rfl, ao, n, cap, rfl, h1, h2, h3, h4, h⟩ := h
    refine ⟨_, rfl, ao, n, cap, rfl, h1, h2, h3, h4, ?_⟩
    rcases h with h | ⟨b, off, css, fps, rfl, hb, rfl, hz, hc, hf⟩
    · exact .inl h
    · exact .inr ⟨b, off, css, fps, rfl, hb, rfl, hz.mono (fun _ _ _ _ r => Rep.weak r), hc, fun h => by cases h⟩
  len h := by obtain ⟨v, rfl, _⟩ := h; rfl
  one h := by
    obtain ⟨v, rfl, ao, n, cap, rfl, _⟩ := h
    intro c hc; simp at hc; subst hc; rfl
  lt h := by
    obtain ⟨v, rfl, ao, n, cap, rfl, _, _, _, _, h⟩ := h
    rcases h with ⟨_, rfl⟩ | ⟨b, off, css, fps, rfl, hb, rfl, hz, _, _⟩
    · intro b hb; cases hb
    · intro c hc
      rcases List.mem_cons.1 hc with rfl | hc
      · exact hb
      · exact hz.lt c hc
  keep h k := by
    rename_i w w' _ _ _
    obtain ⟨v, rfl, ao, n, cap, rfl, h1, h2, h3, h4, h⟩ := h
    refine ⟨_, rfl, ao, n, cap, rfl, h1, h2, h3, h4, ?_⟩
    rcases h with h | ⟨b, off, css, fps, rfl, hb, rfl, hz, hc, hf⟩
    · exact .inl h
    · have hk := k b (by simp)
      refine .inr ⟨b, off, css, fps, rfl, ?_, rfl, hz.keep (fun b hb => k b (by simp [hb])), fun j c hj => ?_, fun hz o => ?_⟩
      · rw [Array.getElem?_eq_getElem hb] at hk
        exact (Array.getElem?_eq_some_iff.1 hk).1
      · rw [World.cell?_of_block (w := w) (a := ⟨b, off + j, none⟩) hk]; exact hc j c hj
      · rw [World.frozen?_of_block (w := w) (a := ⟨b, o, none⟩) hk]; exact hf hz o
end

/-- Two things, one behind the other. -/
instance {α β : Type} [Rep α] [Rep β] : Rep (α × β) where
  sz := Rep.sz α + Rep.sz β
  rep z w cs x fp := ∃ c1 c2 f1 f2, cs = c1 ++ c2 ∧ fp = f1 ++ f2 ∧ Rep.rep z w c1 x.1 f1 ∧ Rep.rep z w c2 x.2 f2
  len h := by obtain ⟨c1, c2, f1, f2, rfl, rfl, h1, h2⟩ := h; rw [List.length_append, Rep.len h1, Rep.len h2]
  one h := by
    obtain ⟨c1, c2, f1, f2, rfl, rfl, h1, h2⟩ := h
    intro c hc
    rcases List.mem_append.1 hc with hc | hc
    · exact Rep.one h1 c hc
    · exact Rep.one h2 c hc
  lt h := by
    obtain ⟨c1, c2, f1, f2, rfl, rfl, h1, h2⟩ := h
    intro c hc
    rcases List.mem_append.1 hc with hc | hc
    · exact Rep.lt h1 c hc
    · exact Rep.lt h2 c hc
  keep h k := by
    obtain ⟨c1, c2, f1, f2, rfl, rfl, h1, h2⟩ := h
    exact ⟨c1, c2, f1, f2, rfl, rfl, Rep.keep h1 (fun b hb => k b (List.mem_append.2 (.inl hb))), Rep.keep h2 (fun b hb => k b (List.mem_append.2 (.inr hb)))⟩
  weak h := by
    obtain ⟨c1, c2, f1, f2, rfl, rfl, h1, h2⟩ := h
    exact ⟨c1, c2, f1, f2, rfl, rfl, Rep.weak h1, Rep.weak h2⟩
instance {α β : Type} [FlatRep α] [FlatRep β] : FlatRep (α × β) where
  flat h := by
    obtain ⟨c1, c2, f1, f2, rfl, rfl, h1, h2⟩ := h
    obtain ⟨rfl, k1⟩ := FlatRep.flat h1
    obtain ⟨rfl, k2⟩ := FlatRep.flat h2
    exact ⟨rfl, fun z' w' => ⟨c1, c2, [], [], rfl, rfl, k1 z' w', k2 z' w'⟩⟩
  det h k := by
    obtain ⟨c1, c2, f1, f2, rfl, rfl, h1, h2⟩ := h
    obtain ⟨d1, d2, g1, g2, rfl, rfl, k1, k2⟩ := k
    rw [FlatRep.det h1 k1, FlatRep.det h2 k2]

/-! ### read, owned: footprints put away -/
def InZ (lo hi : Nat) (fp : List Nat) : Prop := ∀ b ∈ fp, lo ≤ b ∧ b < hi

/-- These cells read as x; what it takes of memory lies in the zone. -/
def Rd {α : Type} [Rep α] (z : Bool) (lo hi : Nat) (w : World) (cs : List Value) (x : α) : Prop := ∃ fp, Rep.rep z w cs x fp ∧ InZ lo hi fp
/-- .. and no two slices of it share a block; it can be written. -/
def Ow {α : Type} [Rep α] (lo hi : Nat) (w : World) (cs : List Value) (x : α) : Prop := ∃ fp, Rep.rep true w cs x fp ∧ InZ lo hi fp ∧ fp.Nodup

section
variable {α : Type} [Rep α] {z : Bool} {lo hi : Nat} {w w' : World} {cs : List Value} {x : α}
theorem Ow.rd (h : Ow lo hi w cs x) : Rd true lo hi w cs x := by obtain ⟨fp, h1, h2, _⟩ := h; exact ⟨fp, h1, h2⟩
theorem Rd.keep (h : Rd z lo hi w cs x) (k : Zone lo hi w w') : Rd z lo hi w' cs x := by
  obtain ⟨fp, h1, h2⟩ := h
  exact ⟨fp, Rep.keep h1 (fun b hb => k b (h2 b hb).1 (h2 b hb).2), h2⟩
theorem Ow.keep (h : Ow lo hi w cs x) (k : Zone lo hi w w') : Ow lo hi w' cs x := by
  obtain ⟨fp, h1, h2, h3⟩ := h
  exact ⟨fp, Rep.keep h1 (fun b hb => k b (h2 b hb).1 (h2 b hb).2), h2, h3⟩
theorem Rd.mono {lo' hi' : Nat} (h : Rd z lo hi w cs x) (h1 : lo' ≤ lo) (h2 : hi ≤ hi') : Rd z lo' hi' w cs x := by
  obtain ⟨fp, a, b⟩ := h
  exact ⟨fp, a, fun i hi => ⟨Nat.le_trans h1 (b i hi).1, Nat.lt_of_lt_of_le (b i hi).2 h2⟩⟩
theorem Ow.mono {lo' hi' : Nat} (h : Ow lo hi w cs x) (h1 : lo' ≤ lo) (h2 : hi ≤ hi') : Ow lo' hi' w cs x := by
  obtain ⟨fp, a, b, c⟩ := h
  exact ⟨fp, a, fun i hi => ⟨Nat.le_trans h1 (b i hi).1, Nat.lt_of_lt_of_le (b i hi).2 h2⟩, c⟩
/-- Whatever reads lies below the heap's end. -/
theorem Rd.top (h : Rd z lo hi w cs x) : Rd z lo w.heap.size w cs x := by
  obtain ⟨fp, a, b⟩ := h
  exact ⟨fp, a, fun i hi => ⟨(b i hi).1, Rep.lt a i hi⟩⟩
theorem Ow.top (h : Ow lo hi w cs x) : Ow lo w.heap.size w cs x := by
  obtain ⟨fp, a, b, c⟩ := h
  exact ⟨fp, a, fun i hi => ⟨(b i hi).1, Rep.lt a i hi⟩, c⟩
theorem Rd.all (h : Rd z lo hi w cs x) : Rd z 0 w.heap.size w cs x := h.top.mono (Nat.zero_le _) (Nat.le_refl _)
theorem Rd.below (h : Rd z lo hi w cs x) (hb : Below w.heap.size w w') : Rd z lo hi w' cs x := by
  obtain ⟨fp, a, b⟩ := h
  exact ⟨fp, Rep.keep a (fun i hi => hb.block i (Rep.lt a i hi)), b⟩
theorem Ow.below (h : Ow lo hi w cs x) (hb : Below w.heap.size w w') : Ow lo hi w' cs x := by
  obtain ⟨fp, a, b, c⟩ := h
  exact ⟨fp, Rep.keep a (fun i hi => hb.block i (Rep.lt a i hi)), b, c⟩
theorem Rd.weak (h : Rd z lo hi w cs x) : Rd false lo hi w cs x := by obtain ⟨fp, a, b⟩ := h; exact ⟨fp, Rep.weak a, b⟩
theorem Rd.len (h : Rd z lo hi w cs x) : cs.length = Rep.sz α := by obtain ⟨fp, a, b⟩ := h; exact Rep.len a
end

/-- An item: read (nd = false), or owned (nd = true). -/
def It {α : Type} [Rep α] (nd : Bool) (lo hi : Nat) (w : World) (cs : List Value) (x : α) : Prop := ∃ fp, Rep.rep nd w cs x fp ∧ InZ lo hi fp ∧ (nd = true → fp.Nodup)
theorem It.rd {α : Type} [Rep α] {nd : Bool} {lo hi : Nat} {w : World} {cs : List Value} {x : α} (h : It nd lo hi w cs x) : Rd nd lo hi w cs x := by obtain ⟨fp, a, b, _⟩ := h; exact ⟨fp, a, b⟩
theorem It.ow {α : Type} [Rep α] {lo hi : Nat} {w : World} {cs : List Value} {x : α} (h : It true lo hi w cs x) : Ow lo hi w cs x := by obtain ⟨fp, a, b, c⟩ := h; exact ⟨fp, a, b, c rfl⟩
theorem Ow.it {α : Type} [Rep α] {lo hi : Nat} {w : World} {cs : List Value} {x : α} (h : Ow lo hi w cs x) : It true lo hi w cs x := by obtain ⟨fp, a, b, c⟩ := h; exact ⟨fp, a, b, fun _ => c⟩
theorem Rd.it {α : Type} [Rep α] {z : Bool} {lo hi : Nat} {w : World} {cs : List Value} {x : α} (h : Rd z lo hi w cs x) : It false lo hi w cs x := by obtain ⟨fp, a, b⟩ := h; exact ⟨fp, Rep.weak a, b, fun h => by cases h⟩
theorem It.flat {α : Type} [FlatRep α] {nd : Bool} {lo hi : Nat} {w : World} {cs : List Value} {x : α} {z : Bool} {w0 : World} {fp : List Nat} (h : Rep.rep z w0 cs x fp) : It nd lo hi w cs x :=
  ⟨[], (FlatRep.flat h).2 _ _, (fun _ h => by cases h), fun _ => List.nodup_nil⟩
theorem It.keep {α : Type} [Rep α] {nd : Bool} {lo hi : Nat} {w w' : World} {cs : List Value} {x : α} (h : It nd lo hi w cs x) (k : Zone lo hi w w') : It nd lo hi w' cs x := by
  obtain ⟨fp, h1, h2, h3⟩ := h
  exact ⟨fp, Rep.keep h1 (fun b hb => k b (h2 b hb).1 (h2 b hb).2), h2, h3⟩

section
variable {α : Type} [Rep α] {z : Bool} {lo hi : Nat} {w w' : World} {v : Value} {xs : List α}
theorem Rd.shape (h : Rd z lo hi w [v] xs) : ∃ ao n cap, v = .slice ao n cap ∧ xs.length = n ∧ n ≤ cap ∧ cap ≤ maxLen ∧ (ao = none → cap = 0) := by
  obtain ⟨fp, ⟨v', hv, ao, n, cap, rfl, h1, h2, h3, h4, _⟩, _⟩ := h
  simp at hv; subst hv
  exact ⟨ao, n, cap, rfl, h1, h2, h3, h4⟩
/-- Item i of a slice. -/
theorem Rd.at {ao : Option Addr} {n cap : Nat} (h : Rd z lo hi w [.slice ao n cap] xs) {i : Nat} (hi' : i < n) :
    ∃ b off x cs, ao = some ⟨b, off, none⟩ ∧ Hid (xs[i]? = some x) ∧ Rd z lo hi w cs x ∧ cs.length = Rep.sz α ∧ lo ≤ b ∧ b < hi ∧ b < w.heap.size ∧
      (∀ j c, cs[j]? = some c → w.cell? ⟨b, off + (i * Rep.sz α + j), none⟩ = some c) ∧ (z = true → ∀ o, w.frozen? ⟨b, o, none⟩ = false) := by
  obtain ⟨fp, ⟨v', hv, ao', n', cap', rfl, h1, h2, h3, h4, h⟩, hz⟩ := h
  simp at hv; obtain ⟨rfl, rfl, rfl⟩ := hv
  rcases h with ⟨rfl, _⟩ | ⟨b, off, css, fps, rfl, hb, rfl, hzip, hc, hf⟩
  · omega
  · have hx : xs[i]? = some xs[i] := List.getElem?_eq_getElem (by omega)
    obtain ⟨cs, f, e1, e2, r⟩ := hzip.get hx
    refine ⟨b, off, xs[i], cs, rfl, hx, ⟨f, r, fun k hk => hz k ?_⟩, Rep.len r, (hz b (by simp)).1, (hz b (by simp)).2, hb, fun j c hj => hc _ c ?_, hf⟩
    · simp only [List.mem_cons, List.mem_flatten]; exact .inr ⟨f, List.mem_of_getElem? e2, hk⟩
    · rw [cellsAt_flat hzip.sizes e1 j (by rw [← Rep.len r]; exact (List.getElem?_eq_some_iff.1 hj).1)]; exact hj
end

theorem app_inj {a b c d : List Value} (h : a ++ b = c ++ d) (hl : a.length = c.length) : a = c ∧ b = d := List.append_inj h hl

section
variable {α β : Type} [Rep α] [Rep β] {z nd : Bool} {lo hi lo' hi' : Nat} {w : World} {c1 c2 : List Value} {x : α} {y : β}
theorem Rd.pair (h1 : Rd z lo hi w c1 x) (h2 : Rd z lo hi w c2 y) : Rd z lo hi w (c1 ++ c2) (x, y) := by
  obtain ⟨f1, a1, b1⟩ := h1
  obtain ⟨f2, a2, b2⟩ := h2
  refine ⟨f1 ++ f2, ⟨c1, c2, f1, f2, rfl, rfl, a1, a2⟩, fun b hb => ?_⟩
  rcases List.mem_append.1 hb with hb | hb
  · exact b1 b hb
  · exact b2 b hb
theorem Rd.fst {x : α × β} (h : Rd z lo hi w (c1 ++ c2) x) (hl : c1.length = Rep.sz α) : Rd z lo hi w c1 x.1 := by
  obtain ⟨fp, ⟨d1, d2, f1, f2, e, rfl, a1, a2⟩, b⟩ := h
  obtain ⟨rfl, rfl⟩ := app_inj e (by rw [hl, Rep.len a1])
  exact ⟨f1, a1, fun i hi => b i (List.mem_append.2 (.inl hi))⟩
theorem Rd.snd {x : α × β} (h : Rd z lo hi w (c1 ++ c2) x) (hl : c1.length = Rep.sz α) : Rd z lo hi w c2 x.2 := by
  obtain ⟨fp, ⟨d1, d2, f1, f2, e, rfl, a1, a2⟩, b⟩ := h
  obtain ⟨rfl, rfl⟩ := app_inj e (by rw [hl, Rep.len a1])
  exact ⟨f2, a2, fun i hi => b i (List.mem_append.2 (.inr hi))⟩
theorem It.pair {nd : Bool} (h1 : It nd lo hi w c1 x) (h2 : It nd lo' hi' w c2 y) (hh : hi ≤ lo' ∨ hi' ≤ lo) {l h : Nat} (l1 : l ≤ lo) (l2 : l ≤ lo') (u1 : hi ≤ h) (u2 : hi' ≤ h) : It nd l h w (c1 ++ c2) (x, y) := by
  obtain ⟨f1, a1, b1, n1⟩ := h1
  obtain ⟨f2, a2, b2, n2⟩ := h2
  refine ⟨f1 ++ f2, ⟨c1, c2, f1, f2, rfl, rfl, a1, a2⟩, fun b hb => ?_, fun hnd => ?_⟩
  · rcases List.mem_append.1 hb with hb | hb
    · have := b1 b hb; omega
    · have := b2 b hb; omega
  · rw [List.nodup_append]
    refine ⟨n1 hnd, n2 hnd, fun i hi j hj e => ?_⟩
    have := b1 i hi
    have := b2 j hj
    omega
theorem Ow.pair (h1 : Ow lo hi w c1 x) (h2 : Ow lo' hi' w c2 y) (hh : hi ≤ lo' ∨ hi' ≤ lo) {l h : Nat} (l1 : l ≤ lo) (l2 : l ≤ lo') (u1 : hi ≤ h) (u2 : hi' ≤ h) : Ow l h w (c1 ++ c2) (x, y) :=
  (It.pair h1.it h2.it hh l1 l2 u1 u2).ow
end

theorem drop_cons {α : Type} {xs : List α} {i : Nat} {x : α} (h : xs[i]? = some x) : xs.drop i = x :: xs.drop (i + 1) := by
  obtain ⟨hi, rfl⟩ := List.getElem?_eq_some_iff.1 h
  exact List.drop_eq_getElem_cons hi
theorem take_snoc {α : Type} {xs : List α} {i : Nat} {x : α} (h : xs[i]? = some x) : xs.take (i + 1) = xs.take i ++ [x] := by
  rw [List.take_succ_eq_append_getElem (List.getElem?_eq_some_iff.1 h).1, (List.getElem?_eq_some_iff.1 h).2]

/-- Item i of a slice of numbers. -/
theorem Rd.int_at {z : Bool} {lo hi : Nat} {w : World} {xs : List Int} {ao : Option Addr} {n cap : Nat} (h : Rd z lo hi w [.slice ao n cap] xs) {i : Nat} (hi' : i < n) :
    ∃ b off x, ao = some ⟨b, off, none⟩ ∧ Hid (xs[i]? = some x) ∧ w.cell? ⟨b, off + i, none⟩ = some (.int .i64 x) ∧ -9223372036854775808 ≤ x ∧ x ≤ 9223372036854775807 ∧ lo ≤ b ∧ b < hi ∧ b < w.heap.size ∧ (z = true → ∀ o, w.frozen? ⟨b, o, none⟩ = false) := by
  obtain ⟨b, off, x, cs, e, hx, ⟨fp, ⟨rfl, hr, _⟩, _⟩, _, h1, h2, h3, hc, hf⟩ := h.at hi'
  exact ⟨b, off, x, e, hx, by have := hc 0 (.int .i64 x) rfl; simpa [Rep.sz] using this, hr.1, hr.2, h1, h2, h3, hf⟩
theorem Rd.bool_at {z : Bool} {lo hi : Nat} {w : World} {xs : List Bool} {ao : Option Addr} {n cap : Nat} (h : Rd z lo hi w [.slice ao n cap] xs) {i : Nat} (hi' : i < n) :
    ∃ b off x, ao = some ⟨b, off, none⟩ ∧ Hid (xs[i]? = some x) ∧ w.cell? ⟨b, off + i, none⟩ = some (.bool x) ∧ lo ≤ b ∧ b < hi ∧ b < w.heap.size ∧ (z = true → ∀ o, w.frozen? ⟨b, o, none⟩ = false) := by
  obtain ⟨b, off, x, cs, e, hx, ⟨fp, ⟨rfl, _⟩, _⟩, _, h1, h2, h3, hc, hf⟩ := h.at hi'
  exact ⟨b, off, x, e, hx, by have := hc 0 (.bool x) rfl; simpa [Rep.sz] using this, h1, h2, h3, hf⟩
theorem Rd.str_at {z : Bool} {lo hi : Nat} {w : World} {xs : List ByteArray} {ao : Option Addr} {n cap : Nat} (h : Rd z lo hi w [.slice ao n cap] xs) {i : Nat} (hi' : i < n) :
    ∃ b off x, ao = some ⟨b, off, none⟩ ∧ Hid (xs[i]? = some x) ∧ w.cell? ⟨b, off + i, none⟩ = some (.string x) ∧ x.size ≤ maxLen ∧ lo ≤ b ∧ b < hi ∧ b < w.heap.size ∧ (z = true → ∀ o, w.frozen? ⟨b, o, none⟩ = false) := by
  obtain ⟨b, off, x, cs, e, hx, ⟨fp, ⟨rfl, hs, _⟩, _⟩, _, h1, h2, h3, hc, hf⟩ := h.at hi'
  exact ⟨b, off, x, e, hx, by have := hc 0 (.string x) rfl; simpa [Rep.sz] using this, hs, h1, h2, h3, hf⟩

/-! ### small things for walks -/
theorem oldc {k b o : Nat} {w w' : World} (hb : Below k w w') (h : b < k) {v : Value} (hv : w.cell? ⟨b, o, none⟩ = some v) : w'.cell? ⟨b, o, none⟩ = some v := (hb.cell (p := ⟨b, o, none⟩) h).trans hv
theorem ret_bool {a b : Bool} (h : a = b) : Ending.returned (.bool a) = .returned (.bool b) := by rw [h]
theorem ret_int {k : IntKind} {a b : Int} (h : a = b) : Ending.returned (.int k a) = .returned (.int k b) := by rw [h]
theorem bcell {k : Nat} {W w1 : World} (hb : Below k W w1) : (∀ b o, b < k → w1.cell? ⟨b, o, none⟩ = W.cell? ⟨b, o, none⟩) ∧ (∀ b o, b < k → w1.frozen? ⟨b, o, none⟩ = W.frozen? ⟨b, o, none⟩) :=
  ⟨fun b o h => hb.cell (p := ⟨b, o, none⟩) h, fun b o h => hb.frozen (p := ⟨b, o, none⟩) h⟩

end Go.Proofs.Ytefbbbhidnnchaa
