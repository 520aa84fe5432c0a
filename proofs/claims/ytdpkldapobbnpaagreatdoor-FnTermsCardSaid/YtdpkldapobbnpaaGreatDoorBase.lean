/- Texts laid one behind the other (merge.py): Lib, Kin, Grow, Ty, Str, Ints, TyStep, Cls, KinH, Typs, PermDef, Perm, Perm2, Perm3, Rel, Rel2, Grow2, Grow3, KinS, TypI, Idn, TPm, TPmI, Lex, AlwI, IntSS, Put, MarkT, MkStep, DKinType, Fam. -/
import Derived.WalkKit
import Derived.Laws.AppendOwnNone
import Derived.Deep.RegionHeld3
import Derived.Test.YtdpkldapobbnpaaGreatDoorRows
import Derived.WalkLawsBesides
import Derived.WalkSpells
import Derived.IntWalk
import Derived.Handy
import Derived.Deep.RegionWith
import Derived.Deep.QuietTactic
import Derived.BigQuiet
import Derived.Deep.DeepMust
import Derived.Deep.LoopGhost
import Derived.Deep.DeepFit
import Derived.Deep.DeepCutAuto
import Derived.Lib.Hide
import Derived.Deep.AppendLies
import Derived.Deep.RegionHeldLaw
import Derived.Laws.IdiomStrings
namespace Go.Proofs.YtdpkldapobbnpaaGreatDoor
set_option linter.unusedVariables false
set_option linter.unusedSimpArgs false
open Go.RowKit
section
def Zone (lo hi : Nat) (w w' : World) : Prop := ∀ b, lo ≤ b → b < hi → w'.heap[b]? = w.heap[b]?
theorem Zone.refl (lo hi : Nat) (w : World) : Zone lo hi w w := fun _ _ _ => rfl
theorem Zone.trans {lo hi : Nat} {a b c : World} (h : Zone lo hi a b) (k : Zone lo hi b c) : Zone lo hi a c := fun i h1 h2 => (k i h1 h2).trans (h i h1 h2)
theorem Zone.mono {lo hi lo' hi' : Nat} {a b : World} (h : Zone lo hi a b) (h1 : lo ≤ lo') (h2 : hi' ≤ hi) : Zone lo' hi' a b := fun i a1 a2 => h i (Nat.le_trans h1 a1) (Nat.lt_of_lt_of_le a2 h2)
theorem Zone.alloc {lo hi : Nat} {a w : World} (h : Zone lo hi a w) (hh : hi ≤ w.heap.size) (o : Obj) : Zone lo hi a (w.alloc o) :=
 fun i h1 h2 => (Below.heap_alloc w o i (Nat.lt_of_lt_of_le h2 hh)).trans (h i h1 h2)
theorem Zone.setCell {lo hi : Nat} {a w : World} (h : Zone lo hi a w) {p : Addr} (hp : p.block < lo ∨ hi ≤ p.block) (u : Value) : Zone lo hi a (w.setCell p u) :=
 fun i h1 h2 => (Below.heap_setCell w p u i (by omega)).trans (h i h1 h2)
theorem Zone.drew {lo hi : Nat} {a w : World} (h : Zone lo hi a w) : Zone lo hi a w.drew := h
theorem Zone.below {lo hi : Nat} {a w w' : World} (h : Zone lo hi a w) {k : Nat} (hb : Below k w w') (hk : hi ≤ k) : Zone lo hi a w' :=
 fun i h1 h2 => (hb.block i (Nat.lt_of_lt_of_le h2 hk)).trans (h i h1 h2)
theorem Zone.grown {lo hi : Nat} {a w w' : World} (h : Zone lo hi a w) {row : Option Nat} (hg : w.grownBy w' row) (hh : hi ≤ w.heap.size) (hr : ∀ k, row = some k → k < lo ∨ hi ≤ k) : Zone lo hi a w' :=
 fun i h1 h2 => (hg.block i (Nat.lt_of_lt_of_le h2 hh) (fun e => by have := hr i e.symm; omega)).trans (h i h1 h2)
theorem Below.zone {B : Nat} {w w' : World} (h : Below B w w') (lo : Nat) : Zone lo B w w' := fun i _ h2 => h.block i h2
theorem cA {α : Type} {l : List α} {i : Nat} {a : α} : l.toArray.setIfInBounds i a = (l.set i a).toArray := List.setIfInBounds_toArray ..
theorem cB {α : Type} {x : α} {xs : List α} {a : α} : (x :: xs).set 0 a = a :: xs := List.set_cons_zero ..
theorem cC {α : Type} {x : α} {xs : List α} {n : Nat} {a : α} : (x :: xs).set (n + 1) a = x :: xs.set n a := List.set_cons_succ ..
theorem szT {p : Prop} (h : p := by first | omega | (simp only [World.size_alloc, World.size_setCell, World.size_drew] at *; omega) | (simp; omega) | simp) : p := h
theorem ltT {p : Prop} (h : p := by first | omega | (simp; omega) | (simp; done)) : p := h
theorem bwT {k : Nat} {a b : World} (h : Below k a b := by repeat' (first | (with_reducible exact Below.refl _ _) | (with_reducible assumption) | (with_reducible refine Below.alloc ?_ (by first | omega | (simp; omega) | simp) _) | (with_reducible refine Below.setCell ?_ (by first | omega | (simp; omega) | simp) _) | (with_reducible refine Below.drew ?_) | (with_reducible refine below_drewN ?_ _))) : Below k a b := h
theorem znT {l u : Nat} {a b : World} (h : Zone l u a b := by repeat' (first | (with_reducible exact Zone.refl _ _ _) | (with_reducible refine Zone.setCell ?_ (Or.inl (by first | omega | (simp; omega) | simp)) _) | (with_reducible refine Zone.alloc ?_ (by first | omega | (simp; omega) | simp) _) | (with_reducible refine Zone.drew ?_))) : Zone l u a b := h
theorem zmT {l u : Nat} {a b : World} (h : Zone l u a b := by repeat' (first | (with_reducible exact Zone.refl _ _ _) | (with_reducible refine Zone.setCell ?_ (by first | (left; omega) | (right; omega) | (left; simp; omega) | (right; simp; omega) | (left; simp; done)) _) | (with_reducible refine Zone.alloc ?_ (by first | omega | (simp; omega) | simp) _) | (with_reducible refine Zone.drew ?_))) : Zone l u a b := h
theorem zgT {l u : Nat} {a b : World} (h : Zone l u a b := by repeat' (first | (with_reducible exact Zone.refl _ _ _) | (with_reducible refine zone_drewN ?_ _) | (with_reducible refine Zone.setCell ?_ (by first | (left; omega) | (right; omega) | (left; simp; omega) | (right; simp; omega) | (left; simp; done) | (right; simp; done)) _) | (with_reducible refine Zone.alloc ?_ (by first | omega | (simp; omega) | simp) _) | (with_reducible refine Zone.drew ?_))) : Zone l u a b := h
theorem kpT {p : Prop} (h : p := by first | exact trivial | ((try dsimp only); (first | (with_reducible assumption) | (go_keep; done) | (simp [go_sem, *]; done) | go_keep))) : p := h
section
variable {P : Program} {ops : Array Oper} {Q : Exit → Act → World → Prop} {md : Region.Mode} {S : World → Prop}
theorem tkR (i : Nat) {oi : Oper} {v : Value} {fuel : Nat} {listed : Array Bool} {a : Act} {w : World} (hY : ∀ w, S w → (execOp a.eval oi).run P w = .ok (.value v) w)
  (h : wpAnyH P md ops Q S fuel (listed.setIfInBounds i true) (a.put oi.dst v) w)
  (hi : ops[i]? = some oi := by simp only [List.getElem?_toArray, List.getElem?_cons_succ, List.getElem?_cons_zero]; rfl)
  (hs : Region.noSelect ops = true := by kernel_rfl) (hf : Region.free md ops listed i = true := by kernel_rfl) (hr : (Region.ready md ops listed).contains i = true := by kernel_rfl)
  (hQ : ∀ c a w, Q (.panic c) (a.put oi.dst v) w → Q (.panic c) a w := by exact fun _ _ _ h => h) (hg : Region.wanted oi (yielded ops a.tmps) = true := by rfl) (hS : S w := by assumption) : wpAnyH P md ops Q S (fuel + 1) listed a w :=
 wpAnyH_take hi hs hf hr hQ (Or.inl ⟨hg, hY⟩) hS h
theorem tkA (i : Nat) {oi : Oper} {v : Value} {fuel : Nat} {listed : Array Bool} {a : Act} {w : World} (h : wpAnyH P md ops Q S fuel (listed.setIfInBounds i true) (a.put oi.dst v) w)
  (hi : ops[i]? = some oi := by simp only [List.getElem?_toArray, List.getElem?_cons_succ, List.getElem?_cons_zero]; rfl)
  (hY : ∀ w, S w → (execOp a.eval oi).run P w = .ok (.value v) w := by intro w hSw; (try dsimp only at hSw); go_simp <;> with_reducible rfl)
  (hs : Region.noSelect ops = true := by kernel_rfl) (hf : Region.free md ops listed i = true := by kernel_rfl) (hr : (Region.ready md ops listed).contains i = true := by kernel_rfl)
  (hQ : ∀ c a w, Q (.panic c) (a.put oi.dst v) w → Q (.panic c) a w := by exact fun _ _ _ h => h) (hg : Region.wanted oi (yielded ops a.tmps) = true := by rfl) (hS : S w := by assumption) : wpAnyH P md ops Q S (fuel + 1) listed a w :=
 wpAnyH_take hi hs hf hr hQ (Or.inl ⟨hg, hY⟩) hS h
theorem skR (i : Nat) {oi : Oper} {fuel : Nat} {listed : Array Bool} {a : Act} {w : World}
  (h : wpAnyH P md ops Q S fuel (listed.setIfInBounds i true) (a.put oi.dst undef) w)
  (hi : ops[i]? = some oi := by simp only [List.getElem?_toArray, List.getElem?_cons_succ, List.getElem?_cons_zero]; rfl)
  (hs : Region.noSelect ops = true := by kernel_rfl) (hf : Region.free md ops listed i = true := by kernel_rfl) (hr : (Region.ready md ops listed).contains i = true := by kernel_rfl)
  (hQ : ∀ c a w, Q (.panic c) (a.put oi.dst undef) w → Q (.panic c) a w := by exact fun _ _ _ h => h) (hg : Region.wanted oi (yielded ops a.tmps) = false := by kernel_rfl) (hS : S w := by assumption) : wpAnyH P md ops Q S (fuel + 1) listed a w :=
 wpAnyH_take hi hs hf hr hQ (Or.inr ⟨hg, rfl⟩) hS h
theorem rdR {fuel : Nat} {listed : Array Bool} {a : Act} {w : World} {i : Nat} {o : Oper} {rs : List Nat}
  (h : ∀ K' : Act → World → Prop, Shut (∀ a w, S w → (S w → wpAnyH P md ops Q S fuel (listed.setIfInBounds i true) a w) → K' a w) → if Region.wanted o (yielded ops a.tmps) = true then Oper.wp P o a w K' Q else K' (a.put o.dst undef) w)
  (hs : AllReadyH P md ops Q S fuel listed a w rs) (ho : ops[i]? = some o := by simp only [List.getElem?_toArray, List.getElem?_cons_succ, List.getElem?_cons_zero]; rfl) : AllReadyH P md ops Q S fuel listed a w (i :: rs) := AllReadyH.cons ho h hs
end
theorem Below.after {B : Nat} {w0 w w' : World} (h : Below B w0 w) (k : Below w.heap.size w w') (hB : B ≤ w.heap.size) : Below B w0 w' := h.trans (k.mono hB)
class Rep (α : Type) where
 sz : Nat
 rep : Bool → World → List Value → α → List Nat → Prop
 len : ∀ {z w cs x fp}, rep z w cs x fp → cs.length = sz
 one : ∀ {z w cs x fp}, rep z w cs x fp → ∀ c ∈ cs, c.oneCell' = true
 lt : ∀ {z w cs x fp}, rep z w cs x fp → ∀ b ∈ fp, b < w.heap.size
 keep : ∀ {z w w' cs x fp}, rep z w cs x fp → (∀ b ∈ fp, w'.heap[b]? = w.heap[b]?) → rep z w' cs x fp
 weak : ∀ {z w cs x fp}, rep z w cs x fp → rep false w cs x fp
class FlatRep (α : Type) extends Rep α where
 flat : ∀ {z w cs x fp}, rep z w cs x fp → fp = [] ∧ ∀ z' w', rep z' w' cs x []
 det : ∀ {z w cs x fp z' w' cs' fp'}, rep z w cs x fp → rep z' w' cs' x fp' → cs = cs'
def I64 (x : Int) : Prop := -9223372036854775808 ≤ x ∧ x ≤ 9223372036854775807
instance : FlatRep Int where
 sz := 1
 rep _ _ cs x fp := cs = [.int .i64 x] ∧ I64 x ∧ fp = []
 weak h := h
 flat h := ⟨h.2.2, fun _ _ => ⟨h.1, h.2.1, rfl⟩⟩
 det h k := h.1.trans k.1.symm
 len h := by rw [h.1]; rfl
 one h := by rw [h.1]; intro c hc; simp at hc; subst hc; rfl
 lt h := by rw [h.2.2]; intro b hb; cases hb
 keep h _ := h
instance : FlatRep Bool where
 sz := 1
 rep _ _ cs x fp := cs = [.bool x] ∧ fp = []
 weak h := h
 flat h := ⟨h.2, fun _ _ => ⟨h.1, rfl⟩⟩
 det h k := h.1.trans k.1.symm
 len h := by rw [h.1]; rfl
 one h := by rw [h.1]; intro c hc; simp at hc; subst hc; rfl
 lt h := by rw [h.2]; intro b hb; cases hb
 keep h _ := h
instance : FlatRep ByteArray where
 sz := 1
 rep _ _ cs x fp := cs = [.string x] ∧ x.size ≤ maxLen ∧ fp = []
 weak h := h
 flat h := ⟨h.2.2, fun _ _ => ⟨h.1, h.2.1, rfl⟩⟩
 det h k := h.1.trans k.1.symm
 len h := by rw [h.1]; rfl
 one h := by rw [h.1]; intro c hc; simp at hc; subst hc; rfl
 lt h := by rw [h.2.2]; intro b hb; cases hb
 keep h _ := h
def Zip {α : Type} (R : List Value → α → List Nat → Prop) : List (List Value) → List α → List (List Nat) → Prop
 | [], [], [] => True
 | c :: cs, x :: xs, f :: fs => R c x f ∧ Zip R cs xs fs
 | _, _, _ => False
theorem Zip.mono {α : Type} {R R' : List Value → α → List Nat → Prop} : ∀ {cs : List (List Value)} {xs : List α} {fs : List (List Nat)}, Zip R cs xs fs → (∀ c x f, f ∈ fs → R c x f → R' c x f) → Zip R' cs xs fs
 | [], [], [], _, _ => trivial
 | c :: cs, x :: xs, f :: fs, h, k => ⟨k _ _ _ (by simp) h.1, Zip.mono h.2 (fun c x f hf => k c x f (by simp [hf]))⟩
 | [], [], _ :: _, h, _ => h.elim
 | [], _ :: _, _, h, _ => h.elim
 | _ :: _, [], _, h, _ => h.elim
 | _ :: _, _ :: _, [], h, _ => h.elim
theorem Zip.snoc {α : Type} {R : List Value → α → List Nat → Prop} : ∀ {cs : List (List Value)} {xs : List α} {fs : List (List Nat)}, Zip R cs xs fs → ∀ {c x f}, R c x f → Zip R (cs ++ [c]) (xs ++ [x]) (fs ++ [f])
 | [], [], [], _, _, _, _, h => ⟨h, trivial⟩
 | _ :: _, _ :: _, _ :: _, h, _, _, _, k => ⟨h.1, Zip.snoc h.2 k⟩
 | [], [], _ :: _, h, _, _, _, _ => h.elim
 | [], _ :: _, _, h, _, _, _, _ => h.elim
 | _ :: _, [], _, h, _, _, _, _ => h.elim
 | _ :: _, _ :: _, [], h, _, _, _, _ => h.elim
theorem Zip.append {α : Type} {R : List Value → α → List Nat → Prop} : ∀ {cs : List (List Value)} {xs : List α} {fs : List (List Nat)}, Zip R cs xs fs → ∀ {cs' xs' fs'}, Zip R cs' xs' fs' → Zip R (cs ++ cs') (xs ++ xs') (fs ++ fs')
 | [], [], [], _, _, _, _, h => h
 | _ :: _, _ :: _, _ :: _, h, _, _, _, k => ⟨h.1, Zip.append h.2 k⟩
 | [], [], _ :: _, h, _, _, _, _ => h.elim
 | [], _ :: _, _, h, _, _, _, _ => h.elim
 | _ :: _, [], _, h, _, _, _, _ => h.elim
 | _ :: _, _ :: _, [], h, _, _, _, _ => h.elim
theorem Zip.lens {α : Type} {R : List Value → α → List Nat → Prop} : ∀ {cs : List (List Value)} {xs : List α} {fs : List (List Nat)}, Zip R cs xs fs → cs.length = xs.length ∧ fs.length = xs.length
 | [], [], [], _ => ⟨rfl, rfl⟩
 | _ :: _, _ :: _, _ :: _, h => by have := Zip.lens h.2; simp; omega
 | [], [], _ :: _, h => h.elim
 | [], _ :: _, _, h => h.elim
 | _ :: _, [], _, h => h.elim
 | _ :: _, _ :: _, [], h => h.elim
theorem Zip.get {α : Type} {R : List Value → α → List Nat → Prop} : ∀ {cs : List (List Value)} {xs : List α} {fs : List (List Nat)}, Zip R cs xs fs → ∀ {i : Nat} {x : α}, xs[i]? = some x → ∃ c f, cs[i]? = some c ∧ fs[i]? = some f ∧ R c x f
 | [], [], [], _, i, x, h => by simp at h
 | c :: cs, x :: xs, f :: fs, h, 0, y, k => by simp at k; subst k; exact ⟨c, f, rfl, rfl, h.1⟩
 | c :: cs, x :: xs, f :: fs, h, i + 1, y, k => by
   obtain ⟨c', f', h1, h2, h3⟩ := Zip.get h.2 (i := i) (x := y) (by simpa using k)
   exact ⟨c', f', by simpa using h1, by simpa using h2, h3⟩
 | [], [], _ :: _, h, _, _, _ => h.elim
 | [], _ :: _, _, h, _, _, _ => h.elim
 | _ :: _, [], _, h, _, _, _ => h.elim
 | _ :: _, _ :: _, [], h, _, _, _ => h.elim
theorem Zip.drop {α : Type} {R : List Value → α → List Nat → Prop} (i : Nat) {cs : List (List Value)} {xs : List α} {fs : List (List Nat)} (h : Zip R cs xs fs) : Zip R (cs.drop i) (xs.drop i) (fs.drop i) := by
 induction i generalizing cs xs fs with
 | zero => simpa using h
 | succ i ih =>
   match cs, xs, fs, h with
   | [], [], [], _ => trivial
   | _ :: _, _ :: _, _ :: _, h => simpa using ih h.2
theorem Zip.take {α : Type} {R : List Value → α → List Nat → Prop} (i : Nat) {cs : List (List Value)} {xs : List α} {fs : List (List Nat)} (h : Zip R cs xs fs) : Zip R (cs.take i) (xs.take i) (fs.take i) := by
 induction i generalizing cs xs fs with
 | zero => simp [Zip]
 | succ i ih =>
   match cs, xs, fs, h with
   | [], [], [], _ => trivial
   | _ :: _, _ :: _, _ :: _, h => exact ⟨h.1, ih h.2⟩
theorem Zip.set {α : Type} {R : List Value → α → List Nat → Prop} : ∀ {cs : List (List Value)} {xs : List α} {fs : List (List Nat)}, Zip R cs xs fs → ∀ {i c x f}, R c x f → i < xs.length → Zip R (cs.set i c) (xs.set i x) (fs.set i f)
 | [], [], [], _, _, _, _, _, _, h => by simp at h
 | c :: cs, x :: xs, f :: fs, h, 0, _, _, _, k, _ => ⟨k, h.2⟩
 | c :: cs, x :: xs, f :: fs, h, i + 1, _, _, _, k, hi => ⟨h.1, Zip.set h.2 k (by simpa using hi)⟩
 | [], [], _ :: _, h, _, _, _, _, _, _ => h.elim
 | [], _ :: _, _, h, _, _, _, _, _, _ => h.elim
 | _ :: _, [], _, h, _, _, _, _, _, _ => h.elim
 | _ :: _, _ :: _, [], h, _, _, _, _, _, _ => h.elim
theorem cellsAt_flat {s : Nat} : ∀ {css : List (List Value)} {i : Nat} {c : List Value}, (∀ d ∈ css, d.length = s) → css[i]? = some c → ∀ j, j < s → css.flatten[i * s + j]? = c[j]?
 | [], i, c, _, h, _, _ => by simp at h
 | d :: css, 0, c, hl, h, j, hj => by
   simp at h; subst h
   have := hl d (by simp)
   simp only [List.flatten_cons, Nat.zero_mul, Nat.zero_add]
   rw [List.getElem?_append_left (by omega)]
 | d :: css, i + 1, c, hl, h, j, hj => by
   have h2 := hl d (by simp)
   have ih := cellsAt_flat (css := css) (i := i) (c := c) (fun d hd => hl d (by simp [hd])) (by simpa using h) j hj
   simp only [List.flatten_cons]
   rw [List.getElem?_append_right (by rw [Nat.add_mul]; omega), ← ih]
   congr 1
   rw [Nat.add_mul]; omega
theorem length_flat {s : Nat} : ∀ {css : List (List Value)}, (∀ d ∈ css, d.length = s) → css.flatten.length = css.length * s
 | [], _ => by simp
 | d :: css, h => by
   have := length_flat (css := css) (fun d hd => h d (by simp [hd]))
   have h2 := h d (by simp)
   simp only [List.flatten_cons, List.length_append, List.length_cons, Nat.add_mul]
   omega
section
variable {α : Type} [Rep α]
theorem Zip.sizes {z : Bool} {w : World} : ∀ {cs : List (List Value)} {xs : List α} {fs : List (List Nat)}, Zip (Rep.rep z w) cs xs fs → ∀ d ∈ cs, d.length = Rep.sz α
 | [], _, _, _, d, hd => by cases hd
 | c :: cs, x :: xs, f :: fs, h, d, hd => by
   rcases List.mem_cons.1 hd with rfl | hd
   ·exact Rep.len h.1
   ·exact Zip.sizes h.2 d hd
 | _ :: _, [], _, h, _, _ => h.elim
 | _ :: _, _ :: _, [], h, _, _ => h.elim
theorem Zip.lt {z : Bool} {w : World} : ∀ {cs : List (List Value)} {xs : List α} {fs : List (List Nat)}, Zip (Rep.rep z w) cs xs fs → ∀ b ∈ fs.flatten, b < w.heap.size
 | [], [], [], _, b, hb => by simp at hb
 | c :: cs, x :: xs, f :: fs, h, b, hb => by
   simp only [List.flatten_cons, List.mem_append] at hb
   rcases hb with hb | hb
   ·exact Rep.lt h.1 b hb
   ·exact Zip.lt h.2 b hb
 | [], [], _ :: _, h, _, _ => h.elim
 | [], _ :: _, _, h, _, _ => h.elim
 | _ :: _, [], _, h, _, _ => h.elim
 | _ :: _, _ :: _, [], h, _, _ => h.elim
theorem Zip.keep {z : Bool} {w w' : World} {cs : List (List Value)} {xs : List α} {fs : List (List Nat)} (h : Zip (Rep.rep z w) cs xs fs) (k : ∀ b ∈ fs.flatten, w'.heap[b]? = w.heap[b]?) : Zip (Rep.rep z w') cs xs fs :=
 h.mono fun _ _ f hf r => Rep.keep r fun b hb => k b (List.mem_flatten.2 ⟨f, hf, hb⟩)
theorem Zip.one {z : Bool} {w : World} : ∀ {cs : List (List Value)} {xs : List α} {fs : List (List Nat)}, Zip (Rep.rep z w) cs xs fs → ∀ c ∈ cs.flatten, c.oneCell' = true
 | [], _, _, _, d, hd => by simp at hd
 | c :: cs, x :: xs, f :: fs, h, d, hd => by
   simp only [List.flatten_cons, List.mem_append] at hd
   rcases hd with hd | hd
   ·exact Rep.one h.1 d hd
   ·exact Zip.one h.2 d hd
 | _ :: _, [], _, h, _, _ => h.elim
 | _ :: _, _ :: _, [], h, _, _ => h.elim
def SliceRep (z : Bool) (w : World) (v : Value) (xs : List α) (fp : List Nat) : Prop :=
 ∃ ao n cap, v = .slice ao n cap ∧ xs.length = n ∧ n ≤ cap ∧ cap ≤ maxLen ∧ (ao = none → cap = 0) ∧
   ((n = 0 ∧ fp = []) ∨ ∃ b off css fps, ao = some ⟨b, off, none⟩ ∧ b < w.heap.size ∧ fp = b :: fps.flatten ∧ Zip (Rep.rep z w) css xs fps ∧
     (∀ j c, css.flatten[j]? = some c → w.cell? ⟨b, off + j, none⟩ = some c) ∧ (z = true → ∀ o, w.frozen? ⟨b, o, none⟩ = false))
instance : Rep (List α) where
 sz := 1
 rep z w cs xs fp := ∃ v, cs = [v] ∧ SliceRep z w v xs fp
 weak h := by
  obtain ⟨v, rfl, ao, n, cap, rfl, h1, h2, h3, h4, h⟩ := h
  refine ⟨_, rfl, ao, n, cap, rfl, h1, h2, h3, h4, ?_⟩
  rcases h with h | ⟨b, off, css, fps, rfl, hb, rfl, hz, hc, hf⟩
  ·exact .inl h
  ·exact .inr ⟨b, off, css, fps, rfl, hb, rfl, hz.mono (fun _ _ _ _ r => Rep.weak r), hc, fun h => by cases h⟩
 len h := by obtain ⟨v, rfl, _⟩ := h; rfl
 one h := by
  obtain ⟨v, rfl, ao, n, cap, rfl, _⟩ := h
  intro c hc; simp at hc; subst hc; rfl
 lt h := by
  obtain ⟨v, rfl, ao, n, cap, rfl, _, _, _, _, h⟩ := h
  rcases h with ⟨_, rfl⟩ | ⟨b, off, css, fps, rfl, hb, rfl, hz, _, _⟩
  ·intro b hb; cases hb
  ·intro c hc
   rcases List.mem_cons.1 hc with rfl | hc
   ·exact hb
   ·exact hz.lt c hc
 keep h k := by
  rename_i w w' _ _ _
  obtain ⟨v, rfl, ao, n, cap, rfl, h1, h2, h3, h4, h⟩ := h
  refine ⟨_, rfl, ao, n, cap, rfl, h1, h2, h3, h4, ?_⟩
  rcases h with h | ⟨b, off, css, fps, rfl, hb, rfl, hz, hc, hf⟩
  ·exact .inl h
  ·have hk := k b (by simp)
   refine .inr ⟨b, off, css, fps, rfl, ?_, rfl, hz.keep (fun b hb => k b (by simp [hb])), fun j c hj => ?_, fun hz o => ?_⟩
   ·rw [Array.getElem?_eq_getElem hb] at hk
    exact (Array.getElem?_eq_some_iff.1 hk).1
   ·rw [World.cell?_of_block (w := w) (a := ⟨b, off + j, none⟩) hk]; exact hc j c hj
   ·rw [World.frozen?_of_block (w := w) (a := ⟨b, o, none⟩) hk]; exact hf hz o
end
instance {α β : Type} [Rep α] [Rep β] : Rep (α × β) where
 sz := Rep.sz α + Rep.sz β
 rep z w cs x fp := ∃ c1 c2 f1 f2, cs = c1 ++ c2 ∧ fp = f1 ++ f2 ∧ Rep.rep z w c1 x.1 f1 ∧ Rep.rep z w c2 x.2 f2
 len h := by obtain ⟨c1, c2, f1, f2, rfl, rfl, h1, h2⟩ := h; rw [List.length_append, Rep.len h1, Rep.len h2]
 one h := by
  obtain ⟨c1, c2, f1, f2, rfl, rfl, h1, h2⟩ := h
  intro c hc
  rcases List.mem_append.1 hc with hc | hc
  ·exact Rep.one h1 c hc
  ·exact Rep.one h2 c hc
 lt h := by
  obtain ⟨c1, c2, f1, f2, rfl, rfl, h1, h2⟩ := h
  intro c hc
  rcases List.mem_append.1 hc with hc | hc
  ·exact Rep.lt h1 c hc
  ·exact Rep.lt h2 c hc
 keep h k := by
  obtain ⟨c1, c2, f1, f2, rfl, rfl, h1, h2⟩ := h
  exact ⟨c1, c2, f1, f2, rfl, rfl, Rep.keep h1 (fun b hb => k b (List.mem_append.2 (.inl hb))), Rep.keep h2 (fun b hb => k b (List.mem_append.2 (.inr hb)))⟩
 weak h := by
  obtain ⟨c1, c2, f1, f2, rfl, rfl, h1, h2⟩ := h
  exact ⟨c1, c2, f1, f2, rfl, rfl, Rep.weak h1, Rep.weak h2⟩
instance {α β : Type} [FlatRep α] [FlatRep β] : FlatRep (α × β) where
 flat h := by
  obtain ⟨c1, c2, f1, f2, rfl, rfl, h1, h2⟩ := h
  obtain ⟨rfl, k1⟩ := FlatRep.flat h1
  obtain ⟨rfl, k2⟩ := FlatRep.flat h2
  exact ⟨rfl, fun z' w' => ⟨c1, c2, [], [], rfl, rfl, k1 z' w', k2 z' w'⟩⟩
 det h k := by
  obtain ⟨c1, c2, f1, f2, rfl, rfl, h1, h2⟩ := h
  obtain ⟨d1, d2, g1, g2, rfl, rfl, k1, k2⟩ := k
  rw [FlatRep.det h1 k1, FlatRep.det h2 k2]
def InZ (lo hi : Nat) (fp : List Nat) : Prop := ∀ b ∈ fp, lo ≤ b ∧ b < hi
def Rd {α : Type} [Rep α] (z : Bool) (lo hi : Nat) (w : World) (cs : List Value) (x : α) : Prop := ∃ fp, Rep.rep z w cs x fp ∧ InZ lo hi fp
def Ow {α : Type} [Rep α] (lo hi : Nat) (w : World) (cs : List Value) (x : α) : Prop := ∃ fp, Rep.rep true w cs x fp ∧ InZ lo hi fp ∧ fp.Nodup
section
variable {α : Type} [Rep α] {z : Bool} {lo hi : Nat} {w w' : World} {cs : List Value} {x : α}
theorem Ow.rd (h : Ow lo hi w cs x) : Rd true lo hi w cs x := by obtain ⟨fp, h1, h2, _⟩ := h; exact ⟨fp, h1, h2⟩
theorem Rd.keep (h : Rd z lo hi w cs x) (k : Zone lo hi w w') : Rd z lo hi w' cs x := by
 obtain ⟨fp, h1, h2⟩ := h
 exact ⟨fp, Rep.keep h1 (fun b hb => k b (h2 b hb).1 (h2 b hb).2), h2⟩
theorem Ow.keep (h : Ow lo hi w cs x) (k : Zone lo hi w w') : Ow lo hi w' cs x := by
 obtain ⟨fp, h1, h2, h3⟩ := h
 exact ⟨fp, Rep.keep h1 (fun b hb => k b (h2 b hb).1 (h2 b hb).2), h2, h3⟩
theorem Rd.mono {lo' hi' : Nat} (h : Rd z lo hi w cs x) (h1 : lo' ≤ lo) (h2 : hi ≤ hi') : Rd z lo' hi' w cs x := by
 obtain ⟨fp, a, b⟩ := h
 exact ⟨fp, a, fun i hi => ⟨Nat.le_trans h1 (b i hi).1, Nat.lt_of_lt_of_le (b i hi).2 h2⟩⟩
theorem Ow.mono {lo' hi' : Nat} (h : Ow lo hi w cs x) (h1 : lo' ≤ lo) (h2 : hi ≤ hi') : Ow lo' hi' w cs x := by
 obtain ⟨fp, a, b, c⟩ := h
 exact ⟨fp, a, fun i hi => ⟨Nat.le_trans h1 (b i hi).1, Nat.lt_of_lt_of_le (b i hi).2 h2⟩, c⟩
theorem Rd.top (h : Rd z lo hi w cs x) : Rd z lo w.heap.size w cs x := by
 obtain ⟨fp, a, b⟩ := h
 exact ⟨fp, a, fun i hi => ⟨(b i hi).1, Rep.lt a i hi⟩⟩
theorem Ow.top (h : Ow lo hi w cs x) : Ow lo w.heap.size w cs x := by
 obtain ⟨fp, a, b, c⟩ := h
 exact ⟨fp, a, fun i hi => ⟨(b i hi).1, Rep.lt a i hi⟩, c⟩
theorem Rd.all (h : Rd z lo hi w cs x) : Rd z 0 w.heap.size w cs x := h.top.mono (Nat.zero_le _) (Nat.le_refl _)
theorem Rd.below (h : Rd z lo hi w cs x) (hb : Below w.heap.size w w') : Rd z lo hi w' cs x := by
 obtain ⟨fp, a, b⟩ := h
 exact ⟨fp, Rep.keep a (fun i hi => hb.block i (Rep.lt a i hi)), b⟩
theorem Ow.below (h : Ow lo hi w cs x) (hb : Below w.heap.size w w') : Ow lo hi w' cs x := by
 obtain ⟨fp, a, b, c⟩ := h
 exact ⟨fp, Rep.keep a (fun i hi => hb.block i (Rep.lt a i hi)), b, c⟩
theorem Rd.weak (h : Rd z lo hi w cs x) : Rd false lo hi w cs x := by obtain ⟨fp, a, b⟩ := h; exact ⟨fp, Rep.weak a, b⟩
theorem Rd.len (h : Rd z lo hi w cs x) : cs.length = Rep.sz α := by obtain ⟨fp, a, b⟩ := h; exact Rep.len a
end
def It {α : Type} [Rep α] (nd : Bool) (lo hi : Nat) (w : World) (cs : List Value) (x : α) : Prop := ∃ fp, Rep.rep nd w cs x fp ∧ InZ lo hi fp ∧ (nd = true → fp.Nodup)
theorem It.rd {α : Type} [Rep α] {nd : Bool} {lo hi : Nat} {w : World} {cs : List Value} {x : α} (h : It nd lo hi w cs x) : Rd nd lo hi w cs x := by obtain ⟨fp, a, b, _⟩ := h; exact ⟨fp, a, b⟩
theorem It.ow {α : Type} [Rep α] {lo hi : Nat} {w : World} {cs : List Value} {x : α} (h : It true lo hi w cs x) : Ow lo hi w cs x := by obtain ⟨fp, a, b, c⟩ := h; exact ⟨fp, a, b, c rfl⟩
theorem Ow.it {α : Type} [Rep α] {lo hi : Nat} {w : World} {cs : List Value} {x : α} (h : Ow lo hi w cs x) : It true lo hi w cs x := by obtain ⟨fp, a, b, c⟩ := h; exact ⟨fp, a, b, fun _ => c⟩
theorem Rd.it {α : Type} [Rep α] {z : Bool} {lo hi : Nat} {w : World} {cs : List Value} {x : α} (h : Rd z lo hi w cs x) : It false lo hi w cs x := by obtain ⟨fp, a, b⟩ := h; exact ⟨fp, Rep.weak a, b, fun h => by cases h⟩
theorem It.flat {α : Type} [FlatRep α] {nd : Bool} {lo hi : Nat} {w : World} {cs : List Value} {x : α} {z : Bool} {w0 : World} {fp : List Nat} (h : Rep.rep z w0 cs x fp) : It nd lo hi w cs x :=
 ⟨[], (FlatRep.flat h).2 _ _, (fun _ h => by cases h), fun _ => List.nodup_nil⟩
theorem It.keep {α : Type} [Rep α] {nd : Bool} {lo hi : Nat} {w w' : World} {cs : List Value} {x : α} (h : It nd lo hi w cs x) (k : Zone lo hi w w') : It nd lo hi w' cs x := by
 obtain ⟨fp, h1, h2, h3⟩ := h
 exact ⟨fp, Rep.keep h1 (fun b hb => k b (h2 b hb).1 (h2 b hb).2), h2, h3⟩
section
variable {α : Type} [Rep α] {z : Bool} {lo hi : Nat} {w w' : World} {v : Value} {xs : List α}
theorem Rd.shape (h : Rd z lo hi w [v] xs) : ∃ ao n cap, v = .slice ao n cap ∧ xs.length = n ∧ n ≤ cap ∧ cap ≤ maxLen ∧ (ao = none → cap = 0) := by
 obtain ⟨fp, ⟨v', hv, ao, n, cap, rfl, h1, h2, h3, h4, _⟩, _⟩ := h
 simp at hv; subst hv
 exact ⟨ao, n, cap, rfl, h1, h2, h3, h4⟩
theorem Rd.at {ao : Option Addr} {n cap : Nat} (h : Rd z lo hi w [.slice ao n cap] xs) {i : Nat} (hi' : i < n) :
  ∃ b off x cs, ao = some ⟨b, off, none⟩ ∧ Hid (xs[i]? = some x) ∧ Rd z lo hi w cs x ∧ cs.length = Rep.sz α ∧ lo ≤ b ∧ b < hi ∧ b < w.heap.size ∧
    (∀ j c, cs[j]? = some c → w.cell? ⟨b, off + (i * Rep.sz α + j), none⟩ = some c) ∧ (z = true → ∀ o, w.frozen? ⟨b, o, none⟩ = false) := by
 obtain ⟨fp, ⟨v', hv, ao', n', cap', rfl, h1, h2, h3, h4, h⟩, hz⟩ := h
 simp at hv; obtain ⟨rfl, rfl, rfl⟩ := hv
 rcases h with ⟨rfl, _⟩ | ⟨b, off, css, fps, rfl, hb, rfl, hzip, hc, hf⟩
 ·omega
 ·have hx : xs[i]? = some xs[i] := List.getElem?_eq_getElem (by omega)
  obtain ⟨cs, f, e1, e2, r⟩ := hzip.get hx
  refine ⟨b, off, xs[i], cs, rfl, hx, ⟨f, r, fun k hk => hz k ?_⟩, Rep.len r, (hz b (by simp)).1, (hz b (by simp)).2, hb, fun j c hj => hc _ c ?_, hf⟩
  ·simp only [List.mem_cons, List.mem_flatten]; exact .inr ⟨f, List.mem_of_getElem? e2, hk⟩
  ·rw [cellsAt_flat hzip.sizes e1 j (by rw [← Rep.len r]; exact (List.getElem?_eq_some_iff.1 hj).1)]; exact hj
end
theorem app_inj {a b c d : List Value} (h : a ++ b = c ++ d) (hl : a.length = c.length) : a = c ∧ b = d := List.append_inj h hl
section
variable {α β : Type} [Rep α] [Rep β] {z nd : Bool} {lo hi lo' hi' : Nat} {w : World} {c1 c2 : List Value} {x : α} {y : β}
theorem Rd.pair (h1 : Rd z lo hi w c1 x) (h2 : Rd z lo hi w c2 y) : Rd z lo hi w (c1 ++ c2) (x, y) := by
 obtain ⟨f1, a1, b1⟩ := h1
 obtain ⟨f2, a2, b2⟩ := h2
 refine ⟨f1 ++ f2, ⟨c1, c2, f1, f2, rfl, rfl, a1, a2⟩, fun b hb => ?_⟩
 rcases List.mem_append.1 hb with hb | hb
 ·exact b1 b hb
 ·exact b2 b hb
theorem Rd.fst {x : α × β} (h : Rd z lo hi w (c1 ++ c2) x) (hl : c1.length = Rep.sz α) : Rd z lo hi w c1 x.1 := by
 obtain ⟨fp, ⟨d1, d2, f1, f2, e, rfl, a1, a2⟩, b⟩ := h
 obtain ⟨rfl, rfl⟩ := app_inj e (by rw [hl, Rep.len a1])
 exact ⟨f1, a1, fun i hi => b i (List.mem_append.2 (.inl hi))⟩
theorem Rd.snd {x : α × β} (h : Rd z lo hi w (c1 ++ c2) x) (hl : c1.length = Rep.sz α) : Rd z lo hi w c2 x.2 := by
 obtain ⟨fp, ⟨d1, d2, f1, f2, e, rfl, a1, a2⟩, b⟩ := h
 obtain ⟨rfl, rfl⟩ := app_inj e (by rw [hl, Rep.len a1])
 exact ⟨f2, a2, fun i hi => b i (List.mem_append.2 (.inr hi))⟩
theorem It.pair {nd : Bool} (h1 : It nd lo hi w c1 x) (h2 : It nd lo' hi' w c2 y) (hh : hi ≤ lo' ∨ hi' ≤ lo) {l h : Nat} (l1 : l ≤ lo) (l2 : l ≤ lo') (u1 : hi ≤ h) (u2 : hi' ≤ h) : It nd l h w (c1 ++ c2) (x, y) := by
 obtain ⟨f1, a1, b1, n1⟩ := h1
 obtain ⟨f2, a2, b2, n2⟩ := h2
 refine ⟨f1 ++ f2, ⟨c1, c2, f1, f2, rfl, rfl, a1, a2⟩, fun b hb => ?_, fun hnd => ?_⟩
 ·rcases List.mem_append.1 hb with hb | hb
  ·have := b1 b hb; omega
  ·have := b2 b hb; omega
 ·rw [List.nodup_append]
  refine ⟨n1 hnd, n2 hnd, fun i hi j hj e => ?_⟩
  have := b1 i hi
  have := b2 j hj
  omega
theorem Ow.pair (h1 : Ow lo hi w c1 x) (h2 : Ow lo' hi' w c2 y) (hh : hi ≤ lo' ∨ hi' ≤ lo) {l h : Nat} (l1 : l ≤ lo) (l2 : l ≤ lo') (u1 : hi ≤ h) (u2 : hi' ≤ h) : Ow l h w (c1 ++ c2) (x, y) :=
 (It.pair h1.it h2.it hh l1 l2 u1 u2).ow
end
theorem drop_cons {α : Type} {xs : List α} {i : Nat} {x : α} (h : xs[i]? = some x) : xs.drop i = x :: xs.drop (i + 1) := by
 obtain ⟨hi, rfl⟩ := List.getElem?_eq_some_iff.1 h
 exact List.drop_eq_getElem_cons hi
theorem take_snoc {α : Type} {xs : List α} {i : Nat} {x : α} (h : xs[i]? = some x) : xs.take (i + 1) = xs.take i ++ [x] := by
 rw [List.take_succ_eq_append_getElem (List.getElem?_eq_some_iff.1 h).1, (List.getElem?_eq_some_iff.1 h).2]
theorem Rd.bool_at {z : Bool} {lo hi : Nat} {w : World} {xs : List Bool} {ao : Option Addr} {n cap : Nat} (h : Rd z lo hi w [.slice ao n cap] xs) {i : Nat} (hi' : i < n) :
  ∃ b off x, ao = some ⟨b, off, none⟩ ∧ Hid (xs[i]? = some x) ∧ w.cell? ⟨b, off + i, none⟩ = some (.bool x) ∧ lo ≤ b ∧ b < hi ∧ b < w.heap.size ∧ (z = true → ∀ o, w.frozen? ⟨b, o, none⟩ = false) := by
 obtain ⟨b, off, x, cs, e, hx, ⟨fp, ⟨rfl, _⟩, _⟩, _, h1, h2, h3, hc, hf⟩ := h.at hi'
 exact ⟨b, off, x, e, hx, by have := hc 0 (.bool x) rfl; simpa [Rep.sz] using this, h1, h2, h3, hf⟩
theorem Rd.str_at {z : Bool} {lo hi : Nat} {w : World} {xs : List ByteArray} {ao : Option Addr} {n cap : Nat} (h : Rd z lo hi w [.slice ao n cap] xs) {i : Nat} (hi' : i < n) :
  ∃ b off x, ao = some ⟨b, off, none⟩ ∧ Hid (xs[i]? = some x) ∧ w.cell? ⟨b, off + i, none⟩ = some (.string x) ∧ x.size ≤ maxLen ∧ lo ≤ b ∧ b < hi ∧ b < w.heap.size ∧ (z = true → ∀ o, w.frozen? ⟨b, o, none⟩ = false) := by
 obtain ⟨b, off, x, cs, e, hx, ⟨fp, ⟨rfl, hs, _⟩, _⟩, _, h1, h2, h3, hc, hf⟩ := h.at hi'
 exact ⟨b, off, x, e, hx, by have := hc 0 (.string x) rfl; simpa [Rep.sz] using this, hs, h1, h2, h3, hf⟩
theorem oldc {k b o : Nat} {w w' : World} (hb : Below k w w') (h : b < k) {v : Value} (hv : w.cell? ⟨b, o, none⟩ = some v) : w'.cell? ⟨b, o, none⟩ = some v := (hb.cell (p := ⟨b, o, none⟩) h).trans hv
theorem ret_bool {a b : Bool} (h : a = b) : Ending.returned (.bool a) = .returned (.bool b) := by rw [h]
theorem ret_int {k : IntKind} {a b : Int} (h : a = b) : Ending.returned (.int k a) = .returned (.int k b) := by rw [h]
end
section
abbrev Stp := Int × Int
abbrev Kin := Int × List Stp
instance decEqStps : DecidableEq (List Stp) := fun a b => instDecidableEqList a b
instance decEqKin : DecidableEq (Int × List Stp) := instDecidableEqProd
def stSex (k : Int) : Int := if k.tmod 2 = 1 then 1 else 2
def stFits (s : Stp) (sex : Int) : Bool := decide (1 ≤ s.1 ∧ s.1 ≤ 8) && (decide (0 ≤ s.2 ∧ s.2 ≤ 2) && (decide (s.2 = 0 ∨ s.1 = 3 ∨ s.1 = 4) && !decide (s.1 = 7 ∧ sex = 1 ∨ s.1 = 8 ∧ sex = 2)))
def kinGo : Int → List Stp → Bool
 | _, [] => true
 | sex, s :: l => stFits s sex && kinGo (stSex s.1) l
def isKin (t : Kin) : Bool := decide (0 ≤ t.1 ∧ t.1 ≤ 2) && (decide (t.2.length ≤ 8) && kinGo t.1 t.2)
def egoOf (t : Kin) : Int := if t.1 = 0 then (match t.2 with | s :: _ => if s.1 = 7 then 2 else if s.1 = 8 then 1 else 0 | [] => 0) else t.1
def sexAt (t : Kin) : Nat → Int
 | 0 => egoOf t
 | i + 1 => match t.2[i]? with | some s => stSex s.1 | none => 0
def sexOf (t : Kin) : Int := match t.2.getLast? with | some s => stSex s.1 | none => t.1
theorem stFits_facts {s : Stp} {sex : Int} (h : stFits s sex = true) : (1 ≤ s.1 ∧ s.1 ≤ 8) ∧ (0 ≤ s.2 ∧ s.2 ≤ 2) ∧ (s.2 = 0 ∨ s.1 = 3 ∨ s.1 = 4) ∧ ¬ (s.1 = 7 ∧ sex = 1 ∨ s.1 = 8 ∧ sex = 2) := by
 simp only [stFits, Bool.and_eq_true, decide_eq_true_eq, Bool.not_eq_true', decide_eq_false_iff_not] at h
 exact h
theorem kinGo_mem : ∀ {l : List Stp} {sex : Int}, kinGo sex l = true → ∀ s ∈ l, (1 ≤ s.1 ∧ s.1 ≤ 8) ∧ (0 ≤ s.2 ∧ s.2 ≤ 2)
 | s :: l, sex, h, x, hx => by
   rw [kinGo, Bool.and_eq_true] at h
   rcases List.mem_cons.1 hx with rfl | hx
   ·have := stFits_facts h.1; exact ⟨this.1, this.2.1⟩
   ·exact kinGo_mem h.2 x hx
theorem isKin_facts {t : Kin} (h : isKin t = true) : (0 ≤ t.1 ∧ t.1 ≤ 2) ∧ t.2.length ≤ 8 ∧ kinGo t.1 t.2 = true ∧ ∀ s ∈ t.2, (1 ≤ s.1 ∧ s.1 ≤ 8) ∧ (0 ≤ s.2 ∧ s.2 ≤ 2) := by
 simp only [isKin, Bool.and_eq_true, decide_eq_true_eq] at h
 exact ⟨h.1, h.2.1, h.2.2, kinGo_mem h.2.2⟩
theorem stSex_in (k : Int) : stSex k = 1 ∨ stSex k = 2 := by unfold stSex; split <;> simp
end
section
structure SlTy (P : Program) (t e : TypeId) (z0 : Value) (size bytes : Nat) : Prop where
 ht : P.underlying t = some (.slice e)
 info : ∃ i, P.info? e = some i ∧ i.zero = some z0 ∧ i.size = size ∧ i.bytes = bytes
 zs : z0.cells.size = size
theorem SlTy.of {P : Program} {t e : TypeId} {z0 : Value} {size bytes : Nat} (ht : P.underlying t = some (.slice e)) (h : (P.info? e).map (fun i => (i.zero, i.size, i.bytes)) = some (some z0, size, bytes)) (zs : z0.cells.size = size) : SlTy P t e z0 size bytes := by
 obtain ⟨i, h1, h2, h3, h4⟩ := info_parts h
 exact SlTy.mk ht ⟨i, h1, h2, h3, h4⟩ zs
section
variable {P : Program} (w : World)
theorem run_app {t ty e : TypeId} {z0 : Value} {size bytes : Nat} (hT : SlTy P t e z0 size bytes) (hsz : 0 < size) {lo : Nat}
  {v : Value} {n : Nat} {xs : List Value} (hown : w.ownsRow lo e size v n xs)
  {ao : Option Addr} {m c : Nat} {news : List Value} (hl : news.length = m * size) (hnone : ao = none → m = 0 ∧ c = 0) (hnews : ∀ a, ao = some a → ∀ j u, news[j]? = some u → w.cell? (a.add j) = some u) (h1 : ∀ u ∈ news, u.oneCell' = true)
  (h63 : n + m ≤ maxLen) (hbytes : (n + m) * bytes ≤ 140737488355328) (hlo : lo ≤ w.heap.size) :
  ∃ v' w', (Builtin.append_ #[t, t] ty #[v, .slice ao m c]).run P w = .ok v' w' ∧ w'.ownsRow lo e size v' (n + m) (xs ++ news) ∧ w.grownBy w' v.ownBlock ∧
    (v'.ownBlock = v.ownBlock ∨ v'.ownBlock = some w.heap.size) := by
 obtain ⟨ht, ⟨i, hi, hz, hsize, hby⟩, hzs⟩ := hT
 cases ao with
 | none =>
   obtain ⟨rfl, rfl⟩ := hnone rfl
   have hn : news = [] := List.eq_nil_of_length_eq_zero (by simpa using hl)
   subst hn
   exact ⟨v, w, run_append_owned_none (P := P) (w := w) lo t ty e i size ht hi v n xs hown |>.trans (by simp), by simpa using hown, ⟨rfl, rfl, rfl, Nat.le_refl _, fun _ _ _ => rfl⟩, .inl rfl⟩
 | some a =>
   obtain ⟨v', w', hr, ho, hg, hnil⟩ := run_append_own (P := P) w lo t ty e i z0 size bytes ht hi hz hsize hby hzs hsz v n xs hown a m c news hl (hnews a rfl) h1 h63 hbytes hlo
   refine ⟨v', w', hr, ho, hg, ?_⟩
   have hsmall : n + m ≤ 9223372036854775807 := by simp only [maxLen] at h63; omega
   subst hsize
   subst hby
   rcases hown.2 with ⟨rfl, rfl⟩ | ⟨g, cap, cur, rfl, hbg, hgg, hnc, hcm, hcs, htake⟩
   ·by_cases hm : m = 0
    ·rw [hnil.2 ⟨rfl, hm⟩]; exact .inl rfl
    ·have h2 := run_append_nil (P := P) w t ty e i z0 ht hi hz a m c news hl (hnews a rfl) (by omega) (by omega) (by have hb := hbytes; simp only [Nat.zero_add] at hb; omega)
     rw [hr] at h2
     simp only [Result.ok.injEq] at h2
     rw [h2.1]; exact .inr rfl
   ·by_cases hroom : n + m ≤ cap
    ·have hfit : n * i.size + news.length ≤ cur.size := by rw [hl, hcs, ← Nat.add_mul]; exact Nat.mul_le_mul_right _ hroom
     have h2 := run_append_room (P := P) w t ty e i ht hi g n cap cur hgg a m c news hl (hnews a rfl) h1 hroom hfit
     rw [hr] at h2
     simp only [Result.ok.injEq] at h2
     rw [h2.1]; exact .inl rfl
    ·have holds : ∀ j u, xs[j]? = some u → w.cell? ((⟨g, 0, none⟩ : Addr).add j) = some u := hown.cells (g := g) rfl
     have h2 := run_append_grow (P := P) w t ty e i z0 ht hi hz ⟨g, 0, none⟩ n cap xs hown.1 holds a m c news hl (hnews a rfl) (by omega) (by omega) (growslice_fits (by omega) hbytes)
     rw [hr] at h2
     simp only [Result.ok.injEq] at h2
     rw [h2.1]; exact .inr rfl
end
def GL {α : Type} [Rep α] (nd : Bool) (lo lo' hi : Nat) (w : World) (E : TypeId) (v : Value) (xs : List α) : Prop :=
 ∃ css fps, w.ownsRow lo E (Rep.sz α) v xs.length css.flatten ∧ Zip (Rep.rep nd w) css xs fps ∧ (∀ b ∈ fps.flatten, lo' ≤ b ∧ b < hi ∧ some b ≠ v.ownBlock) ∧ (∀ g, v.ownBlock = some g → g < hi) ∧ (nd = true → fps.flatten.Nodup)
section
variable {α : Type} [Rep α] {nd : Bool} {lo lo' hi : Nat} {w w' : World} {E : TypeId} {v : Value} {xs : List α}
theorem GL.start (nd : Bool) (lo lo' hi : Nat) (w : World) (E : TypeId) : GL (α := α) nd lo lo' hi w E (.slice none 0 0) [] :=
 ⟨[], [], by simpa using World.ownsRow_nil w lo E (Rep.sz α), trivial, by simp, by simp [Value.ownBlock], fun _ => List.nodup_nil⟩
theorem GL.keep (h : GL nd lo lo' hi w E v xs) (k : Zone lo hi w w') (k' : Zone lo' hi w w') : GL nd lo lo' hi w' E v xs := by
 obtain ⟨css, fps, ho, hz, hf, hg, hn⟩ := h
 refine ⟨css, fps, ⟨ho.1, ?_⟩, hz.keep (fun b hb => k' b (hf b hb).1 (hf b hb).2.1), hf, hg, hn⟩
 rcases ho.2 with h | ⟨g, cap, cur, rfl, hb, hh, r⟩
 ·exact .inl h
 ·exact .inr ⟨g, cap, cur, rfl, hb, by rw [k g hb (hg g rfl)]; exact hh, r⟩
theorem GL.mono {hi' : Nat} (h : GL nd lo lo' hi w E v xs) (k : hi ≤ hi') : GL nd lo lo' hi' w E v xs := by
 obtain ⟨css, fps, ho, hz, hf, hg, hn⟩ := h
 exact ⟨css, fps, ho, hz, fun b hb => ⟨(hf b hb).1, Nat.lt_of_lt_of_le (hf b hb).2.1 k, (hf b hb).2.2⟩, fun g h => Nat.lt_of_lt_of_le (hg g h) k, hn⟩
theorem GL.top (h : GL nd lo lo' hi w E v xs) : GL nd lo lo' w.heap.size w E v xs := by
 obtain ⟨css, fps, ho, hz, hf, hg, hn⟩ := h
 exact ⟨css, fps, ho, hz, fun b hb => ⟨(hf b hb).1, hz.lt b hb, (hf b hb).2.2⟩, fun g h => (ho.lt g h).2, hn⟩
theorem GL.below (h : GL nd lo lo' hi w E v xs) (hb : Below w.heap.size w w') : GL nd lo lo' hi w' E v xs := by
 obtain ⟨css, fps, ho, hz, hf, hg, hn⟩ := h
 refine ⟨css, fps, ⟨ho.1, ?_⟩, hz.keep (fun b hb' => hb.block b (hz.lt b hb')), hf, hg, hn⟩
 rcases ho.2 with h | ⟨g, cap, cur, rfl, hbb, hh, r⟩
 ·exact .inl h
 ·exact .inr ⟨g, cap, cur, rfl, hbb, by rw [hb.block g (ho.lt g rfl).2]; exact hh, r⟩
theorem GL.alloc (h : GL nd lo lo' hi w E v xs) (o : Obj) : GL nd lo lo' hi (w.alloc o) E v xs := h.below ((Below.refl _ _).alloc (Nat.le_refl _) o)
theorem GL.len (h : GL nd lo lo' hi w E v xs) : ∃ ao cap, v = .slice ao xs.length cap ∧ xs.length ≤ cap ∧ cap ≤ maxLen := by
 obtain ⟨css, fps, ho, hz, hf, hg, hn⟩ := h
 rcases ho.2 with ⟨rfl, h⟩ | ⟨g, cap, cur, rfl, hbb, hh, h1, h2, r⟩
 ·rw [h]; exact ⟨none, 0, rfl, Nat.le_refl _, by simp [maxLen]⟩
 ·exact ⟨_, cap, rfl, h1, h2⟩
theorem GL.it (h : GL nd lo lo' hi w E v xs) {l0 : Nat} (h1 : l0 ≤ lo) (h2 : l0 ≤ lo') : It nd l0 hi w [v] xs := by
 obtain ⟨css, fps, ho, hz, hf, hg, hn⟩ := h
 rcases ho.2 with ⟨rfl, h⟩ | ⟨g, cap, cur, rfl, hbb, hh, h3, h4, h5, h6⟩
 ·exact ⟨[], ⟨_, rfl, none, 0, 0, rfl, h, Nat.le_refl _, by simp [maxLen], fun _ => rfl, .inl ⟨rfl, rfl⟩⟩, (fun _ h => by cases h), fun _ => List.nodup_nil⟩
 ·refine ⟨g :: fps.flatten, ⟨_, rfl, some ⟨g, 0, none⟩, xs.length, cap, rfl, rfl, h3, h4, (fun h => by cases h), .inr ⟨g, 0, css, fps, rfl, (ho.lt g rfl).2, rfl, hz, ?_, ?_⟩⟩, ?_, fun hnd => List.nodup_cons.2 ⟨fun hm => (hf g hm).2.2 rfl, hn hnd⟩⟩
  ·intro j c hj
   have := ho.cells (g := g) rfl j c hj
   by_cases hj0 : j = 0
   ·subst hj0; simpa [Addr.add] using this
   ·simpa [Addr.add, hj0] using this
  ·intro _ o
   simp [World.frozen?, hh]
  ·intro b hb
   rcases List.mem_cons.1 hb with rfl | hb
   ·exact ⟨Nat.le_trans h1 hbb, hg b rfl⟩
   ·exact ⟨Nat.le_trans h2 (hf b hb).1, (hf b hb).2.1⟩
theorem GL.rd (h : GL nd lo lo' hi w E v xs) {l0 : Nat} (h1 : l0 ≤ lo) (h2 : l0 ≤ lo') : Rd nd l0 hi w [v] xs := (h.it h1 h2).rd
theorem GL.ow (h : GL true lo lo' hi w E v xs) {l0 : Nat} (h1 : l0 ≤ lo) (h2 : l0 ≤ lo') : Ow l0 hi w [v] xs := (h.it h1 h2).ow
end
theorem nodup_app {a b : List Nat} (ha : a.Nodup) (hb : b.Nodup) (h : ∀ x ∈ a, x ∉ b) : (a ++ b).Nodup := by
 rw [List.nodup_append]
 exact ⟨ha, hb, fun x hx y hy e => h x hx (e ▸ hy)⟩
section
variable {P : Program} {α : Type} [Rep α] {nd : Bool} {lo lo' hi : Nat} {w : World} {E : TypeId} {v : Value} {xs : List α}
theorem run_push {t ty : TypeId} {z0 : Value} {bytes : Nat} (hT : SlTy P t E z0 (Rep.sz α) bytes) (hsz : 0 < Rep.sz α) (hG : GL nd lo lo' hi w E v xs)
  {ao : Option Addr} {c : Nat} {css' : List (List Value)} {ys : List α} {fps' : List (List Nat)} (hz' : Zip (Rep.rep nd w) css' ys fps')
  (hnone : ao = none → ys.length = 0 ∧ c = 0) (hnews : ∀ a, ao = some a → ∀ j u, css'.flatten[j]? = some u → w.cell? (a.add j) = some u)
  (hd : ∀ b ∈ fps'.flatten, lo' ≤ b ∧ some b ≠ v.ownBlock) (hn' : nd = true → fps'.flatten.Nodup ∧ ∀ b ∈ fps'.flatten, hi ≤ b ∨ b < lo')
  (h63 : xs.length + ys.length ≤ maxLen) (hbytes : (xs.length + ys.length) * bytes ≤ 140737488355328) (hlo : lo ≤ w.heap.size) :
  ∃ v' w', (Builtin.append_ #[t, t] ty #[v, .slice ao ys.length c]).run P w = .ok v' w' ∧ GL nd lo lo' w'.heap.size w' E v' (xs ++ ys) ∧ w.grownBy w' v.ownBlock ∧
    (v'.ownBlock = v.ownBlock ∨ v'.ownBlock = some w.heap.size) ∧ Below lo w w' := by
 obtain ⟨css, fps, ho, hz, hf, hg, hn⟩ := hG
 have hl' : css'.flatten.length = ys.length * Rep.sz α := by rw [length_flat hz'.sizes, hz'.lens.1]
 obtain ⟨v', w', hr, ho', hgr, hv⟩ := run_app (P := P) w (t := t) (ty := ty) hT hsz ho hl' hnone hnews hz'.one h63 hbytes hlo
 have hlt : ∀ b ∈ (fps ++ fps').flatten, b < w.heap.size := by
  intro b hb
  simp only [List.flatten_append, List.mem_append] at hb
  rcases hb with hb | hb
  ·exact hz.lt b hb
  ·exact hz'.lt b hb
 have hne : ∀ b ∈ (fps ++ fps').flatten, lo' ≤ b ∧ some b ≠ v.ownBlock := by
  intro b hb
  simp only [List.flatten_append, List.mem_append] at hb
  rcases hb with hb | hb
  ·exact ⟨(hf b hb).1, (hf b hb).2.2⟩
  ·exact hd b hb
 refine ⟨v', w', hr, ⟨css ++ css', fps ++ fps', by rw [List.length_append, List.flatten_append]; exact ho', ?_, fun b hb => ⟨(hne b hb).1, Nat.lt_of_lt_of_le (hlt b hb) hgr.size, ?_⟩, fun g h => (ho'.lt g h).2, fun hnd => ?_⟩, hgr, hv, ?_⟩
 ·exact (hz.append hz').keep fun b hb => hgr.block b (hlt b hb) (hne b hb).2
 ·intro e
  rcases hv with hv | hv
  ·exact (hne b hb).2 (by rw [← hv]; exact e)
  ·rw [hv] at e; have := hlt b hb; simp at e; omega
 ·rw [List.flatten_append]
  obtain ⟨a1, a2⟩ := hn' hnd
  refine nodup_app (hn hnd) a1 fun x hx hx' => ?_
  have := hf x hx
  have := a2 x hx'
  omega
 ·refine (Below.refl lo w).grown hgr hlo fun k hk => (ho.lt k hk).1
theorem wpList_push {ops : Array Oper} {rest : List Oper} {o : Oper} {a : Act} {Q : Exit → Act → World → Prop} (hgd : o.guard = none) {s x : Operand} {t : TypeId}
  (ho : o.op = .call { callee := .builtin .append, args := #[s, x], argTypes := #[t, t] })
  {z0 : Value} {bytes : Nat} (hT : SlTy P t E z0 (Rep.sz α) bytes) (hsz : 0 < Rep.sz α) (hG : GL nd lo lo' hi w E v xs) (hs : a.eval s = v)
  {ad : Addr} {c : Nat} (hx : a.eval x = .slice (some ad) 1 c) {cs : List Value} {y : α} {lx hx' : Nat} (hcells : ∀ j u, cs[j]? = some u → w.cell? (ad.add j) = some u)
  (hy : It nd lx hx' w cs y) (hl : lo' ≤ lx) (hd : hi ≤ lx ∨ (hx' ≤ lo ∧ (nd = true → hx' ≤ lo'))) (h63 : xs.length + 1 ≤ maxLen) (hbytes : (xs.length + 1) * bytes ≤ 140737488355328) (hlo : lo ≤ w.heap.size)
  (h : ∀ v' w', GL nd lo lo' w'.heap.size w' E v' (xs ++ [y]) → w.grownBy w' v.ownBlock → Below lo w w' → wpList P ops Q rest (a.put o.dst v') w') : wpList P ops Q (o :: rest) a w := by
 obtain ⟨fp, hr, hz, hn⟩ := hy
 have hG' := hG
 obtain ⟨css, fps, hown, _, hf, hg, _⟩ := hG'
 obtain ⟨v', w', hrun, h2, h3, _, h5⟩ := run_push (P := P) (t := t) (ty := o.type) hT hsz hG (ao := some ad) (c := c) (css' := [cs]) (ys := [y]) (fps' := [fp]) ⟨hr, trivial⟩ (fun h => by cases h)
  (fun a e => by simp only [Option.some.injEq] at e; subst e; simpa using hcells)
  (fun b hb => by
   have hb' : b ∈ fp := by simpa using hb
   refine ⟨Nat.le_trans hl (hz b hb').1, fun e => ?_⟩
   have h1 := hg b e.symm
   have h2 := (hown.lt b e.symm).1
   have h3 := hz b hb'
   omega)
  (fun hnd => ⟨by simpa using hn hnd, fun b hb => by
   have hb' : b ∈ fp := by simpa using hb
   have h3 := hz b hb'
   rcases hd with hd | ⟨_, hd⟩
   ·left; omega
   ·right; have := hd hnd; omega⟩) (by simpa using h63) (by simpa using hbytes) hlo
 refine wpList_plain hgd fun K hK => ?_
 unfold Oper.wp execOp
 simp only [ho, resolve, invoke, builtin, Sem.run_bind, Sem.run_pure, Result.andThen_ok, List.map_toArray, List.map_cons, List.map_nil, hs, hx]
 simp only [List.length_cons, List.length_nil, Nat.zero_add] at hrun
 rw [hrun]
 exact hK _ _ (h v' w' h2 h3 h5)
theorem wpList_spread {ops : Array Oper} {rest : List Oper} {o : Oper} {a : Act} {Q : Exit → Act → World → Prop} (hgd : o.guard = none) {s x : Operand} {t : TypeId}
  (ho : o.op = .call { callee := .builtin .append, args := #[s, x], argTypes := #[t, t] })
  {z0 : Value} {bytes : Nat} (hT : SlTy P t E z0 (Rep.sz α) bytes) (hsz : 0 < Rep.sz α) (hG : GL nd lo lo' hi w E v xs) (hs : a.eval s = v)
  {vs : Value} (hx : a.eval x = vs) {ys : List α} {lx hx' : Nat}
  (hy : It nd lx hx' w [vs] ys) (hl : lo' ≤ lx) (hd : hi ≤ lx ∨ (hx' ≤ lo ∧ (nd = true → hx' ≤ lo'))) (h63 : xs.length + ys.length ≤ maxLen) (hbytes : (xs.length + ys.length) * bytes ≤ 140737488355328) (hlo : lo ≤ w.heap.size)
  (h : ∀ v' w', GL nd lo lo' w'.heap.size w' E v' (xs ++ ys) → w.grownBy w' v.ownBlock → Below lo w w' → wpList P ops Q rest (a.put o.dst v') w') : wpList P ops Q (o :: rest) a w := by
 obtain ⟨fp, ⟨v1, hv1, ao, n, cap, rfl, e1, e2, e3, e4, hr⟩, hz, hn⟩ := hy
 simp at hv1; subst hv1
 have hG' := hG
 obtain ⟨css, fps, hown, _, hf, hg, _⟩ := hG'
 subst e1
 have key : ∃ v' w', (Builtin.append_ #[t, t] o.type #[v, .slice ao ys.length cap]).run P w = .ok v' w' ∧ GL nd lo lo' w'.heap.size w' E v' (xs ++ ys) ∧ w.grownBy w' v.ownBlock ∧ Below lo w w' := by
  rcases hr with ⟨h0, rfl⟩ | ⟨b, off, css', fps', rfl, hb, rfl, hzip, hcells, _⟩
  ·have hys : ys = [] := List.eq_nil_of_length_eq_zero h0
   subst hys
   obtain ⟨v', w', hrun, h2, h3, _, h5⟩ := run_push (P := P) (t := t) (ty := o.type) hT hsz hG (ao := ao) (c := cap) (css' := []) (ys := []) (fps' := []) trivial (fun h => ⟨rfl, e4 h⟩) (fun a _ j u hj => by simp at hj) (by simp) (by simp) (by simpa using h63) (by simpa using hbytes) hlo
   exact ⟨v', w', hrun, h2, h3, h5⟩
  ·obtain ⟨v', w', hrun, h2, h3, _, h5⟩ := run_push (P := P) (t := t) (ty := o.type) hT hsz hG (ao := some ⟨b, off, none⟩) (c := cap) (css' := css') (ys := ys) (fps' := fps') hzip (fun h => by cases h)
    (fun a e j u hj => by
     simp only [Option.some.injEq] at e; subst e
     have := hcells j u hj
     by_cases hj0 : j = 0
     ·subst hj0; simpa [Addr.add] using this
     ·simpa [Addr.add, hj0] using this)
    (fun b' hb => by
     have h3 := hz b' (by simp only [List.mem_cons]; exact .inr hb)
     refine ⟨Nat.le_trans hl h3.1, fun e => ?_⟩
     have h1 := hg b' e.symm
     have h2 := (hown.lt b' e.symm).1
     omega)
    (fun hnd => ⟨(List.nodup_cons.1 (hn hnd)).2, fun b' hb => by
     have h3 := hz b' (by simp only [List.mem_cons]; exact .inr hb)
     rcases hd with hd | ⟨_, hd⟩
     ·left; omega
     ·right; have := hd hnd; omega⟩) h63 hbytes hlo
   exact ⟨v', w', hrun, h2, h3, h5⟩
 obtain ⟨v', w', hrun, h2, h3, h5⟩ := key
 refine wpList_plain hgd fun K hK => ?_
 unfold Oper.wp execOp
 simp only [ho, resolve, invoke, builtin, Sem.run_bind, Sem.run_pure, Result.andThen_ok, List.map_toArray, List.map_cons, List.map_nil, hs, hx]
 rw [hrun]
 exact hK _ _ (h v' w' h2 h3 h5)
end
theorem made_flat (z : List Value) (n : Nat) : (madeCells z.toArray (n * z.length)).toList = (List.replicate n z).flatten := by
 apply List.ext_getElem?
 intro i
 have hlen : ∀ d ∈ List.replicate n z, d.length = z.length := fun d hd => by rw [(List.mem_replicate.1 hd).2]
 by_cases h : i < n * z.length
 ·have hz : 0 < z.length := by
   rcases Nat.eq_zero_or_pos z.length with h0 | h0
   ·rw [h0] at h; simp at h
   ·exact h0
  have hq : i / z.length < n := (Nat.div_lt_iff_lt_mul hz).2 h
  have hr : i % z.length < z.length := Nat.mod_lt _ hz
  have e : i = (i / z.length) * z.length + i % z.length := by rw [Nat.mul_comm]; exact (Nat.div_add_mod i z.length).symm
  have hat := cellsAt_flat (css := List.replicate n z) (i := i / z.length) (c := z) hlen (by simp [hq]) (i % z.length) hr
  rw [← e] at hat
  rw [hat]
  simp [madeCells, h, hr]
 ·have h1 : (List.replicate n z).flatten.length = n * z.length := by rw [length_flat hlen, List.length_replicate]
  rw [List.getElem?_eq_none (l := (madeCells z.toArray (n * z.length)).toList) (by simp [madeCells]; omega), List.getElem?_eq_none (by rw [h1]; omega)]
theorem zip_replicate {α : Type} [Rep α] {z : Bool} {w : World} {c : List Value} {y : α} (h : Rep.rep z w c y []) : ∀ n, Zip (Rep.rep z w) (List.replicate n c) (List.replicate n y) (List.replicate n [])
 | 0 => trivial
 | n + 1 => ⟨h, zip_replicate h n⟩
theorem flatten_nils (n : Nat) : (List.replicate n ([] : List Nat)).flatten = [] := by simp
theorem flat_set {s : Nat} : ∀ {css : List (List Value)} {i j : Nat} {c : List Value} {u : Value}, (∀ d ∈ css, d.length = s) → css[i]? = some c → j < s → css.flatten.set (i * s + j) u = (css.set i (c.set j u)).flatten
 | [], i, _, c, _, _, h, _ => by simp at h
 | d :: css, 0, j, c, u, hl, h, hj => by
   simp at h; subst h
   have := hl d (by simp)
   simp only [List.flatten_cons, Nat.zero_mul, Nat.zero_add, List.set_cons_zero]
   rw [List.set_append_left _ _ (by omega)]
 | d :: css, i + 1, j, c, u, hl, h, hj => by
   have h2 := hl d (by simp)
   have ih := flat_set (css := css) (i := i) (j := j) (c := c) (u := u) (fun d hd => hl d (by simp [hd])) (by simpa using h) hj
   simp only [List.flatten_cons, List.set_cons_succ]
   rw [List.set_append_right _ _ (by rw [Nat.add_mul]; omega), ← ih]
   congr 2
   rw [Nat.add_mul]; omega
theorem flats {α : Type} [FlatRep α] {z : Bool} {w : World} : ∀ {cs : List (List Value)} {xs : List α} {fs : List (List Nat)}, Zip (Rep.rep z w) cs xs fs → fs.flatten = [] ∧ ∀ z' w', Zip (Rep.rep z' w') cs xs fs
 | [], [], [], _ => ⟨rfl, fun _ _ => trivial⟩
 | c :: cs, x :: xs, f :: fs, h => by
   obtain ⟨h1, h2⟩ := flats h.2
   obtain ⟨rfl, h4⟩ := FlatRep.flat h.1
   exact ⟨by simpa using h1, fun z' w' => ⟨h4 z' w', h2 z' w'⟩⟩
 | [], [], _ :: _, h => h.elim
 | [], _ :: _, _, h => h.elim
 | _ :: _, [], _, h => h.elim
 | _ :: _, _ :: _, [], h => h.elim
theorem cell_setCell (w : World) (b o o' : Nat) (u : Value) (c : Value) (h : w.cell? ⟨b, o', none⟩ = some c) : (w.setCell ⟨b, o, none⟩ u).cell? ⟨b, o', none⟩ = some (if o = o' then u else c) := by
 unfold World.cell? World.setCell at *
 simp only [Array.getElem?_modify, if_true] at *
 cases hh : w.heap[b]? with
 | none => rw [hh] at h; simp at h
 | some ob =>
   rw [hh] at h
   cases ob with
   | cells cc e fr =>
     simp at h ⊢
     rw [Array.getElem?_setIfInBounds]
     obtain ⟨hlt, he⟩ := Array.getElem?_eq_some_iff.1 h
     by_cases ho : o = o'
     ·subst ho; simp [hlt]
     ·simp [ho, h]
   | _ => simp at h
theorem frozen_setCell (w : World) (b o o' : Nat) (u : Value) (h : w.frozen? ⟨b, o', none⟩ = false) : (w.setCell ⟨b, o, none⟩ u).frozen? ⟨b, o', none⟩ = false := by
 unfold World.frozen? World.setCell at *
 simp only [Array.getElem?_modify, if_true] at *
 cases hh : w.heap[b]? with
 | none => simp
 | some ob =>
   rw [hh] at h
   cases ob <;> simp_all
structure OffF (fp : List Nat) (w w' : World) : Prop where
 os : w'.os = w.os
 tape : w'.tape = w.tape
 output : w'.output = w.output
 size : w.heap.size ≤ w'.heap.size
 block : ∀ b, b < w.heap.size → b ∉ fp → w'.heap[b]? = w.heap[b]?
theorem OffF.refl (fp : List Nat) (w : World) : OffF fp w w := ⟨rfl, rfl, rfl, Nat.le_refl _, fun _ _ _ => rfl⟩
theorem OffF.trans {fp : List Nat} {a b c : World} (h : OffF fp a b) (k : OffF fp b c) : OffF fp a c :=
 ⟨k.os.trans h.os, k.tape.trans h.tape, k.output.trans h.output, Nat.le_trans h.size k.size, fun i hi hn => (k.block i (Nat.lt_of_lt_of_le hi h.size) hn).trans (h.block i hi hn)⟩
theorem OffF.mono {fp fp' : List Nat} {a b : World} (h : OffF fp a b) (k : ∀ i ∈ fp, i ∈ fp') : OffF fp' a b :=
 ⟨h.os, h.tape, h.output, h.size, fun i hi hn => h.block i hi (fun hm => hn (k i hm))⟩
theorem OffF.setCell {fp : List Nat} {a w : World} (h : OffF fp a w) {p : Addr} (hp : p.block ∈ fp) (u : Value) : OffF fp a (w.setCell p u) :=
 h.trans ⟨rfl, rfl, rfl, by simp [World.setCell], fun i _ hn => Below.heap_setCell _ _ _ _ (fun e => hn (e ▸ hp))⟩
theorem OffF.alloc {fp : List Nat} {a w : World} (h : OffF fp a w) (o : Obj) : OffF fp a (w.alloc o) := h.trans ⟨rfl, rfl, rfl, by simp, fun b hb _ => Below.heap_alloc _ _ _ hb⟩
theorem OffF.drew {fp : List Nat} {a w : World} (h : OffF fp a w) : OffF fp a w.drew := ⟨h.os, h.tape, h.output, h.size, h.block⟩
theorem OffF.below {fp : List Nat} {a w w' : World} (h : OffF fp a w) (k : Below w.heap.size w w') : OffF fp a w' :=
 h.trans ⟨k.os, k.tape, k.output, k.size, fun i hi _ => k.block i hi⟩
theorem OffF.toBelow {fp : List Nat} {a w : World} (h : OffF fp a w) {B : Nat} (hB : B ≤ a.heap.size) (k : ∀ b ∈ fp, B ≤ b) : Below B a w :=
 ⟨h.os, h.tape, h.output, h.size, fun i hi => h.block i (by omega) (fun hm => by have := k i hm; omega)⟩
theorem OffF.zone {fp : List Nat} {a w : World} (h : OffF fp a w) {l u : Nat} (hu : u ≤ a.heap.size) {lo hi : Nat} (hz : InZ lo hi fp) (k : hi ≤ l ∨ u ≤ lo) : Zone l u a w :=
 fun i h1 h2 => h.block i (by omega) (fun hm => by have := hz i hm; omega)
end
section
theorem slBool : SlTy Tryz.prog 75 4 (.bool false) 1 1 := SlTy.of Tryz.underlying75 (by kernel_rfl) rfl
def PostOw {α : Type} [Rep α] (w : World) (x : α) (e : Ending) (w' : World) : Prop := ∃ u, e = .returned u ∧ Ow w.heap.size w'.heap.size w' [u] x ∧ Below w.heap.size w w'
def PostB (w : World) (b : Bool) (e : Ending) (w' : World) : Prop := e = .returned (.bool b) ∧ Below w.heap.size w w'
def PostI (w : World) (n : Int) (e : Ending) (w' : World) : Prop := e = .returned (.int .i64 n) ∧ Below w.heap.size w w'
end
section
instance lawText : LawfulBEq ByteArray where
 eq_of_beq {a b} h := by
  cases a; cases b
  exact congrArg ByteArray.mk (eq_of_beq h)
 rfl {a} := by cases a; exact beq_self_eq_true (α := Array UInt8) _
instance decEqText : DecidableEq ByteArray := fun a b => decidable_of_iff (a.data = b.data) ⟨ByteArray.ext, congrArg _⟩
def PostV (w : World) (v : Value) (e : Ending) (w' : World) : Prop := e = .returned v ∧ Below w.heap.size w w'
theorem text_eq (a b : ByteArray) : (a.toList == b.toList) = decide (a = b) := by
 rw [ByteArray.toList_eq, ByteArray.toList_eq]
 by_cases e : a = b
 ·subst e; simp
 ·have h2 : ¬ a.data = b.data := fun h => e (ByteArray.ext h)
  simp [e, h2]
end
section
def marks (k : Int) (n : Nat) : List Int := (List.range n).map fun i => k + (i : Nat)
def PostMark {α : Type} [Rep α] (fp : List Nat) (w : World) (cs : List Value) (y : α) (n : Int) (e : Ending) (w' : World) : Prop :=
 e = .returned (.int .i64 n) ∧ Rep.rep true w' cs y fp ∧ OffF fp w w'
end
section
theorem slStep : SlTy Tryz.prog 34 106 (.agg #[.int .i64 0, .int .i64 0]) 2 16 := SlTy.of Tryz.underlying34 (by kernel_rfl) rfl
theorem repStp_inv {z : Bool} {w : World} {cs : List Value} {ki : Int} {ag : Int} {fp : List Nat} (h : Rep.rep z w cs ((ki, ag) : Stp) fp) : cs = [.int .i64 ki, .int .i64 ag] ∧ I64 ki ∧ I64 ag ∧ fp = [] := by
 obtain ⟨_, _, _, _, rfl, rfl, ⟨rfl, h0, rfl⟩, ⟨rfl, h1, rfl⟩⟩ := h
 exact ⟨rfl, h0, h1, rfl⟩
theorem repStp_mk {z : Bool} {w : World} {ki : Int} {ag : Int} (h0 : I64 ki) (h1 : I64 ag) : Rep.rep z w [.int .i64 ki, .int .i64 ag] ((ki, ag) : Stp) [] :=
 ⟨[_], _, [], [], rfl, rfl, ⟨rfl, h0, rfl⟩, ⟨rfl, h1, rfl⟩⟩
theorem Rd.stp_at {z : Bool} {lo hi : Nat} {w : World} {xs : List Stp} {ao : Option Addr} {n cap : Nat} (h : Rd z lo hi w [.slice ao n cap] xs) {i : Nat} (hi' : i < n) :
  ∃ (b off : Nat) (ki : Int) (ag : Int), ao = some ⟨b, off, none⟩ ∧ Hid (xs[i]? = some (ki, ag)) ∧ w.cell? ⟨b, off + i * 2, none⟩ = some (.int .i64 ki) ∧ w.cell? ⟨b, off + i * 2 + 1, none⟩ = some (.int .i64 ag) ∧ I64 ki ∧ I64 ag ∧ lo ≤ b ∧ b < hi ∧ b < w.heap.size ∧ (z = true → ∀ o, w.frozen? ⟨b, o, none⟩ = false) := by
 obtain ⟨b, off, ⟨ki, ag⟩, cs, e, hx, ⟨fp, hr, _⟩, _, g1, g2, g3, hc, hf⟩ := h.at hi'
 obtain ⟨rfl, h0, h1, -⟩ := repStp_inv hr
 refine ⟨b, off, ki, ag, e, hx, ?_, ?_, h0, h1, g1, g2, g3, hf⟩
 ·have := hc 0 (.int .i64 ki) rfl; simpa [Rep.sz, Nat.add_assoc] using this
 ·have := hc 1 (.int .i64 ag) rfl; simpa [Rep.sz, Nat.add_assoc] using this
end
section
abbrev Cls := List Int × List Int
theorem Rd.two {α β : Type} [Rep (List α)] [Rep β] {z : Bool} {lo hi : Nat} {w : World} {a b : Value} {x : List α × β} (h : Rd z lo hi w [a, b] x) (h1 : Rep.sz (List α) = 1) : Rd z lo hi w [a] x.1 ∧ Rd z lo hi w [b] x.2 :=
 ⟨Rd.fst (c1 := [a]) (c2 := [b]) h (by rw [h1]; rfl), Rd.snd (c1 := [a]) (c2 := [b]) h (by rw [h1]; rfl)⟩
def PostOw2 {α : Type} [Rep α] (w : World) (x : α) (e : Ending) (w' : World) : Prop := ∃ a b, e = .returned (.agg #[a, b]) ∧ Ow w.heap.size w'.heap.size w' [a, b] x ∧ Below w.heap.size w w'
end
section
theorem Rd.kin {z : Bool} {lo hi : Nat} {w : World} {a b : Value} {t : Kin} (h : Rd z lo hi w [a, b] t) : a = .int .i64 t.1 ∧ I64 t.1 ∧ Rd z lo hi w [b] t.2 := by
 obtain ⟨fp, ⟨c1, c2, f1, f2, e, rfl, ⟨rfl, hI, rfl⟩, h2⟩, hz⟩ := h
 simp only [List.cons_append, List.nil_append, List.cons.injEq] at e
 obtain ⟨rfl, rfl⟩ := e
 exact ⟨rfl, hI, f2, h2, by simpa using hz⟩
theorem shapeKin {z : Bool} {lo hi : Nat} {w : World} {a b : Value} {t : Kin} (h : Rd z lo hi w [a, b] t) : ∃ e ao n cap, a = .int .i64 e ∧ b = .slice ao n cap := by
 obtain ⟨rfl, -, h2⟩ := h.kin
 obtain ⟨ao, n, cap, rfl, -⟩ := h2.shape
 exact ⟨_, ao, n, cap, rfl, rfl⟩
theorem Ow.kin_mk {lo hi : Nat} {w : World} {e : Int} {b : Value} {l : List Stp} (hI : I64 e) (h : Ow lo hi w [b] l) : Ow lo hi w [.int .i64 e, b] ((e, l) : Kin) := by
 obtain ⟨fp, h1, hz, hn⟩ := h
 exact ⟨fp, ⟨[_], [b], [], fp, rfl, rfl, ⟨rfl, hI, rfl⟩, h1⟩, hz, hn⟩
theorem Rd.kin_mk {z : Bool} {lo hi : Nat} {w : World} {e : Int} {b : Value} {l : List Stp} (hI : I64 e) (h : Rd z lo hi w [b] l) : Rd z lo hi w [.int .i64 e, b] ((e, l) : Kin) := by
 obtain ⟨fp, h1, hz⟩ := h
 exact ⟨fp, ⟨[_], [b], [], fp, rfl, rfl, ⟨rfl, hI, rfl⟩, h1⟩, hz⟩
end
section
def kinMore (t : Kin) (k : Int) : List Kin := if stFits (k, 0) (sexOf t) = true then [(t.1, t.2 ++ [(k, 0)])] else []
def moreTo (t : Kin) (k : Nat) : List Kin := (List.range k).flatMap fun (i : Nat) => kinMore t ((i : Int) + 1)
def more (t : Kin) : List Kin := moreTo t 8
def lastT (ego : Int) : Nat → List Kin
 | 0 => [(ego, [])]
 | n + 1 => (lastT ego n).flatMap more
def outT (ego : Int) : Nat → List Kin
 | 0 => []
 | n + 1 => outT ego n ++ lastT ego (n + 1)
def typesV (ego n : Int) : Bool := decide (ego = 1 ∨ ego = 2) && decide (1 ≤ n ∧ n ≤ 3)
def typesX (ego n : Int) : List Kin := if typesV ego n = true then outT ego n.toNat else []
theorem moreTo_succ (t : Kin) (k : Nat) : moreTo t (k + 1) = moreTo t k ++ kinMore t ((k : Int) + 1) := by simp [moreTo, List.range_succ]
theorem kinMore_len (t : Kin) (k : Int) : (kinMore t k).length ≤ 1 := by unfold kinMore; split <;> simp
theorem moreTo_len (t : Kin) : ∀ k, (moreTo t k).length ≤ k
 | 0 => by simp [moreTo]
 | k + 1 => by rw [moreTo_succ, List.length_append]; have := moreTo_len t k; have := kinMore_len t ((k : Int) + 1); omega
theorem flat_more_len : ∀ l : List Kin, (l.flatMap more).length ≤ 8 * l.length
 | [] => by simp
 | t :: l => by rw [List.flatMap_cons, List.length_append, List.length_cons]; have := flat_more_len l; have := moreTo_len t 8; simp only [more] at *; omega
theorem lastT_len (ego : Int) : ∀ n, (lastT ego n).length ≤ 8 ^ n
 | 0 => by simp [lastT]
 | n + 1 => by rw [lastT, Nat.pow_succ]; have := flat_more_len (lastT ego n); have := lastT_len ego n; omega
theorem kinGo_snoc : ∀ (l : List Stp) (sex : Int) (s : Stp), kinGo sex (l ++ [s]) = (kinGo sex l && stFits s (match l.getLast? with | some x => stSex x.1 | none => sex))
 | [], sex, s => by simp [kinGo]
 | x :: l, sex, s => by
   rw [List.cons_append, kinGo, kinGo_snoc l, kinGo, Bool.and_assoc]
   cases l with
   | nil => rfl
   | cons y l =>
     rw [List.getLast?_cons_cons]
     cases h : (y :: l).getLast? with
     | none => simp at h
     | some z => rfl
theorem isKin_snoc {t : Kin} (ht : isKin t = true) (hl : t.2.length < 8) (s : Stp) : isKin (t.1, t.2 ++ [s]) = stFits s (sexOf t) := by
 obtain ⟨h1, h2, h3, -⟩ := isKin_facts ht
 unfold isKin
 dsimp only
 rw [decide_eq_true h1, decide_eq_true (by rw [List.length_append]; simp; omega), Bool.true_and, Bool.true_and, kinGo_snoc, h3, Bool.true_and]
 rfl
structure TOk (ego : Int) (n : Nat) (t : Kin) : Prop where
 kin : isKin t = true
 len : t.2.length ≤ n
 ego : t.1 = ego
theorem more_ok {ego : Int} {n : Nat} {t u : Kin} (h : TOk ego n t) (hn : n < 8) (hu : u ∈ more t) : TOk ego (n + 1) u := by
 unfold more moreTo at hu
 rw [List.mem_flatMap] at hu
 obtain ⟨i, -, hu⟩ := hu
 unfold kinMore at hu
 split at hu
 ·rename_i hf
  simp only [List.mem_singleton] at hu
  subst hu
  exact ⟨by rw [isKin_snoc h.kin (by have := h.len; omega)]; exact hf, by dsimp only; rw [List.length_append]; have := h.len; simp; omega, h.ego⟩
 ·cases hu
theorem lastT_ok {ego : Int} (he : ego = 1 ∨ ego = 2) : ∀ n, n ≤ 8 → ∀ t ∈ lastT ego n, TOk ego n t
 | 0, _ => fun t ht => by
   simp only [lastT, List.mem_singleton] at ht
   subst ht
   exact ⟨by rcases he with rfl | rfl <;> rfl, Nat.le_refl _, rfl⟩
 | n + 1, hn => fun t ht => by
   rw [lastT, List.mem_flatMap] at ht
   obtain ⟨u, hu, ht⟩ := ht
   exact more_ok (lastT_ok he n (by omega) u hu) (by omega) ht
theorem outT_ok {ego : Int} (he : ego = 1 ∨ ego = 2) : ∀ n, n ≤ 8 → ∀ t ∈ outT ego n, isKin t = true ∧ t.2.length ≤ n ∧ t.1 = ego
 | 0, _ => fun t ht => by cases ht
 | n + 1, hn => fun t ht => by
   rw [outT, List.mem_append] at ht
   rcases ht with ht | ht
   ·have := outT_ok he n (by omega) t ht
    exact ⟨this.1, by omega, this.2.2⟩
   ·have := lastT_ok he (n + 1) hn t ht
    exact ⟨this.kin, this.len, this.ego⟩
end
section
def permGo (n : Nat) : List Bool → List Int → Bool
 | _, [] => true
 | seen, x :: xs => if 0 ≤ x ∧ x < n ∧ seen.getD x.toNat true = false then permGo n (seen.set x.toNat true) xs else false
def isPerm (xs : List Int) : Bool := permGo xs.length (List.replicate xs.length false) xs
def invGo (n : Nat) : List Int → Nat → List Int → Option (List Int)
 | out, _, [] => some out
 | out, k, x :: xs => if 0 ≤ x ∧ x < n ∧ out.getD x.toNat 0 < 0 then invGo n (out.set x.toNat k) (k + 1) xs else none
def l1Inv (order : List Int) (n : Nat) : Option (List Int) := if order.length = n then invGo n (List.replicate n (-1)) 0 order else none
def invSet : List Int → Nat → List Int → List Int
 | out, _, [] => out
 | out, k, x :: xs => invSet (out.set x.toNat k) (k + 1) xs
def inv (p : List Int) : List Int := invSet (List.replicate p.length 0) 0 p
def comp (p q : List Int) : List Int := p.map fun x => q.getD x.toNat 0
def InRange (n : Nat) (p : List Int) : Prop := ∀ x ∈ p, 0 ≤ x ∧ x < n
theorem invSet_len : ∀ (xs : List Int) (out : List Int) (k : Nat), (invSet out k xs).length = out.length
 | [], _, _ => rfl
 | x :: xs, out, k => by rw [invSet, invSet_len xs]; simp
theorem inv_len (xs : List Int) : (inv xs).length = xs.length := by rw [inv, invSet_len]; simp
theorem comp_len (p q : List Int) : (comp p q).length = p.length := by simp [comp]
theorem invSet_range : ∀ (xs out : List Int) (k n : Nat), InRange n out → k + xs.length ≤ n → InRange n (invSet out k xs)
 | [], _, _, _, h, _ => h
 | x :: xs, out, k, n, h, hk => by
   rw [invSet]
   refine invSet_range xs _ _ _ (fun y hy => ?_) (by simp at hk; omega)
   simp only [List.length_cons] at hk
   rcases List.mem_or_eq_of_mem_set hy with hy | rfl
   ·exact h y hy
   ·omega
theorem inv_range {xs : List Int} : InRange xs.length (inv xs) := by
 cases xs with
 | nil => intro x hx; simp [inv, invSet] at hx
 | cons x xs => exact invSet_range _ _ _ _ (fun y hy => by rw [(List.mem_replicate.1 hy).2]; simp) (by simp)
end
section
theorem l1In_any (x a b : Int) (w : World) :
  Calls Tryz.prog 85 #[.int .i64 x, .int .i64 a, .int .i64 b] w (PostB w (decide (a ≤ x ∧ x ≤ b))) := by
 by_cases h1 : a ≤ x
 ·by_cases h2 : x ≤ b
  ·have HF := Lib.hid (show decide (a ≤ x ∧ x ≤ b) = true by simp [h1, h2])
   rw [HF.out]
   go_enter Tryz.func85, Tryz.ntmps85
   go_wp2
   go_ret
   exact ⟨rfl, Below.refl _ _⟩
  ·have HF := Lib.hid (show decide (a ≤ x ∧ x ≤ b) = false by simp [h2])
   rw [HF.out]
   go_enter Tryz.func85, Tryz.ntmps85
   go_wp2
   go_ret
   exact ⟨rfl, Below.refl _ _⟩
 ·have HF := Lib.hid (show decide (a ≤ x ∧ x ≤ b) = false by simp [h1])
  rw [HF.out]
  go_enter Tryz.func85, Tryz.ntmps85
  go_wp2
  go_ret
  exact ⟨rfl, Below.refl _ _⟩
theorem l1In_b (x a b : Int) (w : World) (r : Bool) (h : r = decide (a ≤ x ∧ x ≤ b)) :
  Calls Tryz.prog 85 #[.int .i64 x, .int .i64 a, .int .i64 b] w (PostB w r) := h ▸ l1In_any x a b w
def PostOk {α : Type} [Rep α] (w : World) (r : Option α) (e : Ending) (w' : World) : Prop :=
 (match r with
  | some x => ∃ u, e = .returned (.tuple #[u, .bool true]) ∧ Ow w.heap.size w'.heap.size w' [u] x
  | none => e = .returned (.tuple #[.slice none 0 0, .bool false])) ∧ Below w.heap.size w w'
end
section
section
variable {z z' : Bool} {lo hi lo' hi' : Nat} (w : World) (v : Value) (xs : List Int)
theorem Ow.nil {α : Type} [Rep α] (lo hi : Nat) (w : World) : Ow lo hi w [.slice none 0 0] ([] : List α) := (GL.start (α := α) true lo lo hi w 0).ow (Nat.le_refl _) (Nat.le_refl _)
def invP (xs : List Int) : List Int := if isPerm xs = true then inv xs else []
end
theorem GL.lit0 {α : Type} [Rep α] (nd : Bool) (lo lo' : Nat) (w : World) (E : TypeId) (h : lo ≤ w.heap.size) : GL (α := α) nd lo lo' (w.heap.size + 1) (w.alloc (.cells #[] E)) E (.slice (some ⟨w.heap.size, 0, none⟩) 0 0) [] :=
 ⟨[], [], by simpa using World.ownsRow_made (e := E) (size := Rep.sz α) w #[] 0 h (Nat.zero_le _) (by simp), trivial, by simp, by simp [Value.ownBlock], fun _ => List.nodup_nil⟩
section
variable {z z' : Bool} {lo hi lo' hi' : Nat} (w : World) (u v : Value) (p q : List Int)
def compP (p q : List Int) : List Int := if isPerm p = true ∧ isPerm q = true ∧ p.length = q.length then comp p q else []
end
end
section
section
variable {z z' : Bool} {lo hi lo' hi' : Nat} (w : World) (u v : Value) (p q : List Int)
end
def isCls (c : Cls) : Bool := decide (1 ≤ c.1.length ∧ c.1.length ≤ 8 ∧ c.2.length = c.1.length) && isPerm c.1 && isPerm c.2
section
variable {z z' : Bool} {lo hi lo' hi' : Nat} (w : World) (u v : Value) (c : Cls)
end
def PostOwB {α : Type} [Rep α] (w : World) (x : α) (b : Bool) (e : Ending) (w' : World) : Prop := ∃ u, e = .returned (.tuple #[u, .bool b]) ∧ Ow w.heap.size w'.heap.size w' [u] x ∧ Below w.heap.size w w'
end
section
def relGo (p : List Int) : List Int → List Int → List Int → List Int
 | out, x :: ps, y :: fs => relGo p (out.set x.toNat (p.getD y.toNat 0)) ps fs
 | out, _, _ => out
def relab (p f : List Int) : List Int := relGo p (List.replicate p.length 0) p f
theorem Ow.made {w : World} {E : TypeId} {n g : Nat} (hb : w.heap[g]? = some (.cells (madeCells #[.int .i64 0] n) E (0, 0))) (hl : n ≤ maxLen) :
  Ow g (g + 1) w [.slice (some ⟨g, 0, none⟩) n n] (List.replicate n (0 : Int)) := by
 have h0 : Rep.rep true w [Value.int .i64 0] (0 : Int) [] := ⟨rfl, by unfold I64; omega, rfl⟩
 have hz := zip_replicate h0 n
 refine ⟨[g], ⟨_, rfl, _, n, n, rfl, by simp, Nat.le_refl _, hl, (fun h => by cases h), .inr ⟨g, 0, _, _, rfl, (Array.getElem?_eq_some_iff.1 hb).1, by rw [flatten_nils], hz, ?_, ?_⟩⟩, fun b hb => by simp at hb; omega, by simp⟩
 ·intro j c hj
  have := made_flat [Value.int .i64 0] n
  simp only [List.length_singleton, Nat.mul_one] at this
  rw [← this] at hj
  simp only [Nat.zero_add, World.cell?, hb]
  simpa using hj
 ·intro _ o
  simp [World.frozen?, hb]
theorem heap_alloc (w : World) (o : Obj) : (w.alloc o).heap = w.heap.push o := rfl
section
variable {z z' : Bool} {lo hi lo' hi' : Nat} (w : World) (u v vp : Value) (c : Cls) (p : List Int)
end
end
section
def relabV (c : Cls) (p : List Int) : Bool := isCls c && isPerm p && decide (p.length = c.1.length)
def relabC (c : Cls) (p : List Int) : Cls := if relabV c p = true then (relab p c.1, relab p c.2) else ([], [])
def PostOw2B {α : Type} [Rep α] (w : World) (x : α) (r : Bool) (e : Ending) (w' : World) : Prop := ∃ a b, e = .returned (.tuple #[.agg #[a, b], .bool r]) ∧ Ow w.heap.size w'.heap.size w' [a, b] x ∧ Below w.heap.size w w'
section
variable {z z' : Bool} {lo hi lo' hi' : Nat} (w : World) (u v vp : Value) (c : Cls) (p : List Int)
end
end
section
section
variable {P : Program} {α : Type} [Rep α] {nd : Bool} {lo lo' hi : Nat} {w : World} {E : TypeId} {v : Value} {xs : List α}
theorem GL.form (h : GL nd lo lo' hi w E v xs) (hn : 0 < xs.length) : ∃ g cap, v = .slice (some ⟨g, 0, none⟩) xs.length cap ∧ lo ≤ g ∧ g < w.heap.size := by
 obtain ⟨css, fps, ho, _⟩ := h
 exact ho.form hn
theorem step_push {ops : Array Oper} {o : Oper} {a : Act} {K : Act → World → Prop} {Q : Exit → Act → World → Prop} {EE : Prop} (hgd : o.guard = none) {s x : Operand} {t : TypeId}
  (ho : o.op = .call { callee := .builtin .append, args := #[s, x], argTypes := #[t, t] })
  {z0 : Value} {bytes : Nat} (hT : SlTy P t E z0 (Rep.sz α) bytes) (hsz : 0 < Rep.sz α) (hG : GL nd lo lo' hi w E v xs) (hs : a.eval s = v)
  {ad : Addr} {c : Nat} (hx : a.eval x = .slice (some ad) 1 c) {cs : List Value} {y : α} {lx hx' : Nat} (hcells : ∀ j u, cs[j]? = some u → w.cell? (ad.add j) = some u)
  (hy : It nd lx hx' w cs y) (hl : lo' ≤ lx) (hd : hi ≤ lx ∨ (hx' ≤ lo ∧ (nd = true → hx' ≤ lo'))) (h63 : xs.length + 1 ≤ maxLen) (hbytes : (xs.length + 1) * bytes ≤ 140737488355328) (hlo : lo ≤ w.heap.size) {H : Nat} (hH : w.heap.size = H) {n : Nat} (hn : xs.length + 1 = n)
  (h : ∀ g cap w', GL nd lo lo' w'.heap.size w' E (.slice (some ⟨g, 0, none⟩) n cap) (xs ++ [y]) → w.grownBy w' v.ownBlock → (v.ownBlock = some g ∨ g = H) → lo ≤ g → g < w'.heap.size → Below lo w w' → K (a.put o.dst (.slice (some ⟨g, 0, none⟩) n cap)) w') :
  if Region.wanted o (yielded ops a.tmps) = true then Oper.wp P o a w K Q else EE := by
 have hw : Region.wanted o (yielded ops a.tmps) = true := by simp [Region.wanted, hgd]
 rw [if_pos hw]
 subst hH hn
 obtain ⟨fp, hr, hz, hnd⟩ := hy
 have hG' := hG
 obtain ⟨css, fps, hown, _, hf, hg, _⟩ := hG'
 obtain ⟨v', w', hrun, h2, h3, hv, h5⟩ := run_push (P := P) (t := t) (ty := o.type) hT hsz hG (ao := some ad) (c := c) (css' := [cs]) (ys := [y]) (fps' := [fp]) ⟨hr, trivial⟩ (fun h => by cases h)
  (fun a e => by simp only [Option.some.injEq] at e; subst e; simpa using hcells)
  (fun b hb => by
   have hb' : b ∈ fp := by simpa using hb
   refine ⟨Nat.le_trans hl (hz b hb').1, fun e => ?_⟩
   have h1 := hg b e.symm
   have h2 := (hown.lt b e.symm).1
   have h3 := hz b hb'
   omega)
  (fun hnd' => ⟨by simpa using hnd hnd', fun b hb => by
   have hb' : b ∈ fp := by simpa using hb
   have h3 := hz b hb'
   rcases hd with hd | ⟨_, hd⟩
   ·left; omega
   ·right; have := hd hnd'; omega⟩) (by simpa using h63) (by simpa using hbytes) hlo
 unfold Oper.wp execOp
 simp only [ho, resolve, invoke, builtin, Sem.run_bind, Sem.run_pure, Result.andThen_ok, List.map_toArray, List.map_cons, List.map_nil, hs, hx]
 simp only [List.length_cons, List.length_nil, Nat.zero_add] at hrun
 rw [hrun]
 obtain ⟨g, cap, e, hlg, hgw⟩ := h2.form (by simp)
 simp only [List.length_append, List.length_cons, List.length_nil, Nat.zero_add] at e
 subst e
 refine h g cap w' h2 h3 ?_ hlg hgw h5
 rcases hv with hv | hv
 ·exact .inl (by rw [← hv]; rfl)
 ·right; simpa [Value.ownBlock] using hv
end
theorem GL.far {α : Type} [FlatRep α] {nd : Bool} {lo lo' hi : Nat} {w w' : World} {E : TypeId} {v : Value} {xs : List α} (h : GL nd lo lo' hi w E v xs) {row : Option Nat} (hg : w.grownBy w' row) (hr : ∀ g, v.ownBlock = some g → some g ≠ row) : GL nd lo lo' w'.heap.size w' E v xs := by
 obtain ⟨css, fps, ho, hz, hf, hgg, hn⟩ := h
 obtain ⟨hfl, hall⟩ := flats hz
 refine ⟨css, fps, ⟨ho.1, ?_⟩, hall _ _, (fun b (hb : b ∈ fps.flatten) => by rw [hfl] at hb; cases hb), fun g h => Nat.lt_of_lt_of_le (ho.lt g h).2 hg.size, hn⟩
 rcases ho.2 with h | ⟨g, cap, cur, rfl, hb, hh, r⟩
 ·exact .inl h
 ·exact .inr ⟨g, cap, cur, rfl, hb, by rw [hg.block g (ho.lt g rfl).2 (hr g rfl)]; exact hh, r⟩
theorem offF_drewN {fp : List Nat} {a w : World} (h : OffF fp a w) (n : Nat) : OffF fp a (w.drewN n) := ⟨h.os, h.tape, h.output, h.size, h.block⟩
theorem zone_drewN {lo hi : Nat} {a w : World} (h : Zone lo hi a w) (n : Nat) : Zone lo hi a (w.drewN n) := h
end
section
section
variable {P : Program} {α : Type} [FlatRep α] {nd : Bool} {lo lo' hi : Nat} {w : World} {E : TypeId} {v : Value} {xs : List α}
theorem wpList_spread_flat {ops : Array Oper} {rest : List Oper} {o : Oper} {a : Act} {Q : Exit → Act → World → Prop} (hgd : o.guard = none) {s x : Operand} {t : TypeId}
  (ho : o.op = .call { callee := .builtin .append, args := #[s, x], argTypes := #[t, t] })
  {z0 : Value} {bytes : Nat} (hT : SlTy P t E z0 (Rep.sz α) bytes) (hsz : 0 < Rep.sz α) (hG : GL nd lo lo' hi w E v xs) (hs : a.eval s = v)
  {vs : Value} (hx : a.eval x = vs) {ys : List α} {z : Bool} {lx hx' : Nat}
  (hy : Rd z lx hx' w [vs] ys) (h63 : xs.length + ys.length ≤ maxLen) (hbytes : (xs.length + ys.length) * bytes ≤ 140737488355328) (hlo : lo ≤ w.heap.size)
  (h : ∀ v' w', GL nd lo lo' w'.heap.size w' E v' (xs ++ ys) → w.grownBy w' v.ownBlock → Below lo w w' → wpList P ops Q rest (a.put o.dst v') w') : wpList P ops Q (o :: rest) a w := by
 obtain ⟨fp, ⟨v1, hv1, ao, n, cap, rfl, e1, e2, e3, e4, hr⟩, hz⟩ := hy
 simp at hv1; subst hv1
 subst e1
 have key : ∃ v' w', (Builtin.append_ #[t, t] o.type #[v, .slice ao ys.length cap]).run P w = .ok v' w' ∧ GL nd lo lo' w'.heap.size w' E v' (xs ++ ys) ∧ w.grownBy w' v.ownBlock ∧ Below lo w w' := by
  rcases hr with ⟨h0, rfl⟩ | ⟨b, off, css', fps', rfl, hb, rfl, hzip, hcells, _⟩
  ·have hys : ys = [] := List.eq_nil_of_length_eq_zero h0
   subst hys
   obtain ⟨v', w', hrun, h2, h3, _, h5⟩ := run_push (P := P) (t := t) (ty := o.type) hT hsz hG (ao := ao) (c := cap) (css' := []) (ys := []) (fps' := []) trivial (fun h => ⟨rfl, e4 h⟩) (fun a _ j u hj => by simp at hj) (by simp) (by simp) (by simpa using h63) (by simpa using hbytes) hlo
   exact ⟨v', w', hrun, h2, h3, h5⟩
  ·obtain ⟨hfl, hall⟩ := flats hzip
   obtain ⟨v', w', hrun, h2, h3, _, h5⟩ := run_push (P := P) (t := t) (ty := o.type) hT hsz hG (ao := some ⟨b, off, none⟩) (c := cap) (css' := css') (ys := ys) (fps' := fps') (hall _ _) (fun h => by cases h)
    (fun a e j u hj => by
     simp only [Option.some.injEq] at e; subst e
     have := hcells j u hj
     by_cases hj0 : j = 0
     ·subst hj0; simpa [Addr.add] using this
     ·simpa [Addr.add, hj0] using this)
    (fun b' hb => by rw [hfl] at hb; cases hb)
    (fun hnd => ⟨by rw [hfl]; exact List.nodup_nil, fun b' hb => by rw [hfl] at hb; cases hb⟩) h63 hbytes hlo
   exact ⟨v', w', hrun, h2, h3, h5⟩
 obtain ⟨v', w', hrun, h2, h3, h5⟩ := key
 refine wpList_plain hgd fun K hK => ?_
 unfold Oper.wp execOp
 simp only [ho, resolve, invoke, builtin, Sem.run_bind, Sem.run_pure, Result.andThen_ok, List.map_toArray, List.map_cons, List.map_nil, hs, hx]
 rw [hrun]
 exact hK _ _ (h v' w' h2 h3 h5)
end
theorem zip_ints {z : Bool} {w : World} : ∀ {css : List (List Value)} {xs : List Int} {fps : List (List Nat)}, Zip (Rep.rep z w) css xs fps → css = xs.map fun x => [.int .i64 x]
 | [], [], [], _ => rfl
 | c :: css, x :: xs, f :: fps, h => by
   obtain ⟨⟨h1, _, _⟩, h2⟩ := h
   rw [List.map_cons, zip_ints h2, h1]
 | [], [], _ :: _, h | [], _ :: _, _, h | _ :: _, [], _, h | _ :: _, _ :: _, [], h => h.elim
theorem zip_ints_of {z : Bool} {w : World} : ∀ {xs : List Int}, (∀ x ∈ xs, I64 x) → Zip (Rep.rep z w) (xs.map fun x => [.int .i64 x]) xs (xs.map fun _ => [])
 | [], _ => trivial
 | x :: xs, h => ⟨⟨rfl, h x (by simp), rfl⟩, zip_ints_of fun y hy => h y (by simp [hy])⟩
theorem zip_ints_in {z : Bool} {w : World} : ∀ {css : List (List Value)} {xs : List Int} {fps : List (List Nat)}, Zip (Rep.rep z w) css xs fps → ∀ x ∈ xs, I64 x
 | [], [], [], _ => fun _ h => by cases h
 | c :: css, x :: xs, f :: fps, h => by
   obtain ⟨⟨_, h1, _⟩, h2⟩ := h
   intro y hy
   rcases List.mem_cons.1 hy with rfl | hy
   ·exact h1
   ·exact zip_ints_in h2 y hy
 | [], [], _ :: _, h | [], _ :: _, _, h | _ :: _, [], _, h | _ :: _, _ :: _, [], h => h.elim
theorem GL.put {nd : Bool} {lo lo' hi : Nat} {w : World} {E : TypeId} {g n cap : Nat} {xs : List Int} (h : GL nd lo lo' hi w E (.slice (some ⟨g, 0, none⟩) n cap) xs) {i : Nat} (hi' : i < n) {y : Int} (hy : I64 y) :
  GL nd lo lo' hi (w.setCell ⟨g, i, none⟩ (.int .i64 y)) E (.slice (some ⟨g, 0, none⟩) n cap) (xs.set i y) := by
 obtain ⟨css, fps, ho, hz, hf, hg, hn⟩ := h
 have hc := zip_ints hz
 subst hc
 have hin := zip_ints_in hz
 have hfl : ∀ (l : List Int), (l.map fun x => [Value.int .i64 x]).flatten = l.map fun x => Value.int .i64 x := by
  intro l; induction l with
  | nil => rfl
  | cons a l ih => simp [ih]
 have hnil : ∀ (l : List Int), (l.map fun _ => ([] : List Nat)).flatten = [] := by
  intro l; induction l with
  | nil => rfl
  | cons a l ih => simp [ih]
 refine ⟨(xs.set i y).map fun x => [.int .i64 x], (xs.set i y).map fun _ => [], ?_, zip_ints_of (fun x hx => ?_), (by rw [hnil]; simp), hg, fun _ => by rw [hnil]; exact List.nodup_nil⟩
 ·rw [hfl] at ho
  rw [hfl]
  obtain ⟨h1, h2⟩ := ho
  refine ⟨by simpa using h1, ?_⟩
  rcases h2 with ⟨e, _⟩ | ⟨g', cap', cur, e, hb, hh, r1, r2, r3, r4⟩
  ·cases e
  ·simp only [Value.slice.injEq, Option.some.injEq, Addr.mk.injEq, and_true] at e
   obtain ⟨rfl, rfl, rfl⟩ := e
   refine .inr ⟨g, cap, cur.setIfInBounds i (.int .i64 y), by simp, hb, ?_, by simpa using r1, r2, by simpa using r3, ?_⟩
   ·unfold World.setCell
    simp only [Array.getElem?_modify, if_true, hh, Option.map_some]
    rfl
   ·simp only [Array.toList_setIfInBounds, List.length_set, List.map_set]
    rw [← r4, List.take_set]
 ·rcases List.mem_or_eq_of_mem_set hx with h | h
  ·exact hin x h
  ·rw [h]; exact hy
end
section
section
variable {P : Program} {α : Type} [FlatRep α] {nd : Bool} {lo lo' hi : Nat} {w : World} {E : TypeId} {v : Value} {xs : List α}
theorem run_spread_flat {t ty : TypeId} {z0 : Value} {bytes : Nat} (hT : SlTy P t E z0 (Rep.sz α) bytes) (hsz : 0 < Rep.sz α) (hG : GL nd lo lo' hi w E v xs)
  {vs : Value} {ys : List α} {z : Bool} {lx hx' : Nat} (hy : Rd z lx hx' w [vs] ys) (h63 : xs.length + ys.length ≤ maxLen) (hbytes : (xs.length + ys.length) * bytes ≤ 140737488355328) (hlo : lo ≤ w.heap.size) :
  ∃ v' w', (Builtin.append_ #[t, t] ty #[v, vs]).run P w = .ok v' w' ∧ GL nd lo lo' w'.heap.size w' E v' (xs ++ ys) ∧ w.grownBy w' v.ownBlock ∧ Below lo w w' := by
 obtain ⟨fp, ⟨v1, hv1, ao, n, cap, rfl, e1, e2, e3, e4, hr⟩, hz⟩ := hy
 simp at hv1; subst hv1
 subst e1
 rcases hr with ⟨h0, rfl⟩ | ⟨b, off, css', fps', rfl, hb, rfl, hzip, hcells, _⟩
 ·have hys : ys = [] := List.eq_nil_of_length_eq_zero h0
  subst hys
  obtain ⟨v', w', hrun, h2, h3, _, h5⟩ := run_push (P := P) (t := t) (ty := ty) hT hsz hG (ao := ao) (c := cap) (css' := []) (ys := []) (fps' := []) trivial (fun h => ⟨rfl, e4 h⟩) (fun a _ j u hj => by simp at hj) (by simp) (by simp) (by simpa using h63) (by simpa using hbytes) hlo
  exact ⟨v', w', hrun, h2, h3, h5⟩
 ·obtain ⟨hfl, hall⟩ := flats hzip
  obtain ⟨v', w', hrun, h2, h3, _, h5⟩ := run_push (P := P) (t := t) (ty := ty) hT hsz hG (ao := some ⟨b, off, none⟩) (c := cap) (css' := css') (ys := ys) (fps' := fps') (hall _ _) (fun h => by cases h)
   (fun a e j u hj => by
    simp only [Option.some.injEq] at e; subst e
    have := hcells j u hj
    by_cases hj0 : j = 0
    ·subst hj0; simpa [Addr.add] using this
    ·simpa [Addr.add, hj0] using this)
   (fun b' hb => by rw [hfl] at hb; cases hb)
   (fun hnd => ⟨by rw [hfl]; exact List.nodup_nil, fun b' hb => by rw [hfl] at hb; cases hb⟩) h63 hbytes hlo
  exact ⟨v', w', hrun, h2, h3, h5⟩
theorem step_spread_flat {ops : Array Oper} {o : Oper} {a : Act} {K : Act → World → Prop} {Q : Exit → Act → World → Prop} {EE : Prop} (hgd : o.guard = none) {s x : Operand} {t : TypeId}
  (ho : o.op = .call { callee := .builtin .append, args := #[s, x], argTypes := #[t, t] })
  {z0 : Value} {bytes : Nat} (hT : SlTy P t E z0 (Rep.sz α) bytes) (hsz : 0 < Rep.sz α) (hG : GL nd lo lo' hi w E v xs) (hs : a.eval s = v)
  {vs : Value} (hx : a.eval x = vs) {ys : List α} {z : Bool} {lx hx' : Nat} (hy : Rd z lx hx' w [vs] ys) (h63 : xs.length + ys.length ≤ maxLen) (hbytes : (xs.length + ys.length) * bytes ≤ 140737488355328) (hlo : lo ≤ w.heap.size)
  (h : ∀ v' w', GL nd lo lo' w'.heap.size w' E v' (xs ++ ys) → w.grownBy w' v.ownBlock → Below lo w w' → K (a.put o.dst v') w') :
  if Region.wanted o (yielded ops a.tmps) = true then Oper.wp P o a w K Q else EE := by
 have hw : Region.wanted o (yielded ops a.tmps) = true := by simp [Region.wanted, hgd]
 rw [if_pos hw]
 obtain ⟨v', w', hrun, h2, h3, h5⟩ := run_spread_flat (P := P) (t := t) (ty := o.type) hT hsz hG hy h63 hbytes hlo
 unfold Oper.wp execOp
 simp only [ho, resolve, invoke, builtin, Sem.run_bind, Sem.run_pure, Result.andThen_ok, List.map_toArray, List.map_cons, List.map_nil, hs, hx]
 rw [hrun]
 exact h v' w' h2 h3 h5
end
theorem GL.lower {α : Type} [Rep α] {nd : Bool} {lo lo' hi l l' : Nat} {w : World} {E : TypeId} {v : Value} {xs : List α} (h : GL nd lo lo' hi w E v xs) (h1 : l ≤ lo) (h2 : l' ≤ lo') : GL nd l l' hi w E v xs := by
 obtain ⟨css, fps, ⟨ho1, ho2⟩, hz, hf, hg, hn⟩ := h
 refine ⟨css, fps, ⟨ho1, ?_⟩, hz, fun b hb => ⟨Nat.le_trans h2 (hf b hb).1, (hf b hb).2⟩, hg, hn⟩
 rcases ho2 with h | ⟨g, cap, cur, rfl, hb, r⟩
 ·exact .inl h
 ·exact .inr ⟨g, cap, cur, rfl, Nat.le_trans h1 hb, r⟩
section
variable {P : Program} {α : Type} [Rep α] {nd : Bool} {lo lo' hi : Nat} {w : World} {E : TypeId} {v : Value} {xs : List α}
theorem wpList_push_at {ops : Array Oper} {rest : List Oper} {o : Oper} {a : Act} {Q : Exit → Act → World → Prop} (hgd : o.guard = none) {s x : Operand} {t : TypeId}
  (ho : o.op = .call { callee := .builtin .append, args := #[s, x], argTypes := #[t, t] })
  {z0 : Value} {bytes : Nat} (hT : SlTy P t E z0 (Rep.sz α) bytes) (hsz : 0 < Rep.sz α) (hG : GL nd lo lo' hi w E v xs) (hs : a.eval s = v)
  {ad : Addr} {c : Nat} (hx : a.eval x = .slice (some ad) 1 c) {cs : List Value} {y : α} {lx hx' : Nat} (hcells : ∀ j u, cs[j]? = some u → w.cell? (ad.add j) = some u)
  (hy : It nd lx hx' w cs y) (hl : lo' ≤ lx) (hd : hi ≤ lx ∨ (hx' ≤ lo ∧ (nd = true → hx' ≤ lo'))) (h63 : xs.length + 1 ≤ maxLen) (hbytes : (xs.length + 1) * bytes ≤ 140737488355328) (hlo : lo ≤ w.heap.size)
  (h : ∀ g cap w', GL nd lo lo' w'.heap.size w' E (.slice (some ⟨g, 0, none⟩) (xs.length + 1) cap) (xs ++ [y]) → w.grownBy w' v.ownBlock → Below lo w w' → (v.ownBlock = some g ∨ g = w.heap.size) → wpList P ops Q rest (a.put o.dst (.slice (some ⟨g, 0, none⟩) (xs.length + 1) cap)) w') : wpList P ops Q (o :: rest) a w := by
 obtain ⟨fp, hr, hz, hn⟩ := hy
 have hG' := hG
 obtain ⟨css, fps, hown, _, hf, hg, _⟩ := hG'
 obtain ⟨v', w', hrun, h2, h3, hv, h5⟩ := run_push (P := P) (t := t) (ty := o.type) hT hsz hG (ao := some ad) (c := c) (css' := [cs]) (ys := [y]) (fps' := [fp]) ⟨hr, trivial⟩ (fun h => by cases h)
  (fun a e => by simp only [Option.some.injEq] at e; subst e; simpa using hcells)
  (fun b hb => by
   have hb' : b ∈ fp := by simpa using hb
   refine ⟨Nat.le_trans hl (hz b hb').1, fun e => ?_⟩
   have h1 := hg b e.symm
   have h2 := (hown.lt b e.symm).1
   have h3 := hz b hb'
   omega)
  (fun hnd => ⟨by simpa using hn hnd, fun b hb => by
   have hb' : b ∈ fp := by simpa using hb
   have h3 := hz b hb'
   rcases hd with hd | ⟨_, hd⟩
   ·left; omega
   ·right; have := hd hnd; omega⟩) (by simpa using h63) (by simpa using hbytes) hlo
 refine wpList_plain hgd fun K hK => ?_
 unfold Oper.wp execOp
 simp only [ho, resolve, invoke, builtin, Sem.run_bind, Sem.run_pure, Result.andThen_ok, List.map_toArray, List.map_cons, List.map_nil, hs, hx]
 simp only [List.length_cons, List.length_nil, Nat.zero_add] at hrun
 rw [hrun]
 obtain ⟨g, cap, e, hlg, hgw⟩ := h2.form (by simp)
 simp only [List.length_append, List.length_cons, List.length_nil, Nat.zero_add] at e
 subst e
 refine hK _ _ (h g cap w' h2 h3 h5 ?_)
 rcases hv with hv | hv
 ·exact .inl (by rw [← hv]; rfl)
 ·right; simpa [Value.ownBlock] using hv
end
theorem slKin : SlTy Tryz.prog 73 36 (.agg #[.int .i64 0, .slice none 0 0]) 2 32 := SlTy.of Tryz.underlying73 (by kernel_rfl) rfl
theorem repKin_inv {z : Bool} {w : World} {cs : List Value} {t : Kin} {fp : List Nat} (h : Rep.rep z w cs t fp) : ∃ v, cs = [.int .i64 t.1, v] ∧ I64 t.1 ∧ Rep.rep z w [v] t.2 fp := by
 obtain ⟨c1, c2, f1, f2, rfl, rfl, ⟨rfl, h1, rfl⟩, h2⟩ := h
 have h2' := h2
 obtain ⟨v, rfl, _⟩ := h2'
 exact ⟨v, rfl, h1, h2⟩
theorem repKin_mk {z : Bool} {w : World} {e : Int} {v : Value} {l : List Stp} {fp : List Nat} (he : I64 e) (h : Rep.rep z w [v] l fp) : Rep.rep z w [.int .i64 e, v] ((e, l) : Kin) fp := ⟨[_], [v], [], fp, rfl, rfl, ⟨rfl, he, rfl⟩, h⟩
theorem Rd.kin_at {z : Bool} {lo hi : Nat} {w : World} {xs : List Kin} {ao : Option Addr} {n cap : Nat} (h : Rd z lo hi w [.slice ao n cap] xs) {i : Nat} (hi' : i < n) :
  ∃ (b off : Nat) (t : Kin) (v : Value), ao = some ⟨b, off, none⟩ ∧ Hid (xs[i]? = some t) ∧ w.cell? ⟨b, off + i * 2, none⟩ = some (.int .i64 t.1) ∧ w.cell? ⟨b, off + i * 2 + 1, none⟩ = some v ∧ I64 t.1 ∧ Rd z lo hi w [v] t.2 ∧ Rd z lo hi w [.int .i64 t.1, v] t ∧ lo ≤ b ∧ b < hi ∧ b < w.heap.size := by
 obtain ⟨b, off, t, cs, e, hx, ⟨fp, hr, hz⟩, _, g1, g2, g3, hc, hf⟩ := h.at hi'
 obtain ⟨v, rfl, h1, h3⟩ := repKin_inv hr
 refine ⟨b, off, t, v, e, hx, ?_, ?_, h1, ⟨fp, h3, hz⟩, ⟨fp, hr, hz⟩, g1, g2, g3⟩
 ·have := hc 0 (.int .i64 t.1) rfl; simpa [Rep.sz, Nat.add_assoc] using this
 ·have := hc 1 v rfl; simpa [Rep.sz, Nat.add_assoc] using this
def PostKG (w : World) (t : Kin) (e : Ending) (w' : World) : Prop := ∃ v, e = .returned (.agg #[.int .i64 t.1, v]) ∧ GL true w.heap.size w.heap.size w'.heap.size w' 106 v t.2 ∧ Below w.heap.size w w'
set_option maxRecDepth 20000 in
set_option maxHeartbeats 2000000 in
theorem copyTypeI_any {z : Bool} {lo hi : Nat} (w : World) (a b : Value) (t : Kin) (h : Rd z lo hi w [a, b] t) (hl : t.2.length ≤ 1048576) : Calls Tryz.prog 92 #[.agg #[a, b]] w (PostKG w t) := by
 obtain ⟨rfl, hI, hb⟩ := h.kin
 obtain ⟨ao, n, cap, rfl, hn, hnc, hcm, hnone⟩ := hb.shape
 subst hn
 unfold maxLen at *
 have HI := Lib.hid hI
 clear h hI hnone
 go_enter Tryz.func92, Tryz.ntmps92
 go_upto_region 1 with fail
 refine wp_region_held_drew (S := (fun w' => w'.cell? ⟨w.heap.size, 0, none⟩ = some (.int .i64 t.1) ∧ w'.cell? ⟨w.heap.size, 1, none⟩ = some (.slice ao t.2.length cap))) (by kernel_rfl) ?_ (fun hHeld => ?_)
 ·first | exact trivial | ((try dsimp only); go_keep)
 refine tkA 0 ?_
 try simp only [Act.put, cA, cB, cC]
 refine tkA 2 ?_
 try simp only [Act.put, cA, cB, cC]
 refine tkA 1 ?_
 try simp only [Act.put, cA, cB, cC]
 refine tkA 3 ?_
 try simp only [Act.put, cA, cB, cC]
 refine wpAnyH_ready (rs := [4]) (by kernel_rfl) (by simp) ?_
 refine rdR (fun K hK => ?_) ?_
 ·refine step_spread_flat rfl rfl slStep (by show (0 : Nat) < 2; omega) (GL.start true (w.heap.size + 2) (w.heap.size + 2) (w.heap.size + 2) _ _) (by simp [Act.eval, Act.put]) (by simp [Act.eval, Act.put]) (hb.below bwT) (by unfold maxLen; simp; omega) (by simp; omega) (by simp) ?_
  rintro v1 w1 hG1 _ hb1
  obtain ⟨g1, cap1, rfl, -, -⟩ := hG1.len
  have hS1 := And.intro (oldc hb1 (by omega) hHeld.1) (oldc hb1 (by omega) hHeld.2)
  have HG := Lib.hid hG1
  simp only [List.nil_append] at HG
  have r0 : w1.cell? ⟨w.heap.size + 1, 0, none⟩ = some (.int .i64 0) := oldc hb1 (by omega) (by simp [go_sem])
  have r1 : w1.cell? ⟨w.heap.size + 1, 1, none⟩ = some (.slice none 0 0) := oldc hb1 (by omega) (by simp [go_sem])
  have rf : ∀ o, w1.frozen? ⟨w.heap.size + 1, o, none⟩ = false := fun o => (hb1.frozen (p := ⟨w.heap.size + 1, o, none⟩) (by simp)).trans (by simp [go_sem])
  have s1 := hb1.size
  have hbw1 : Below w.heap.size w w1 := Below.trans (show Below w.heap.size w _ from bwT) (hb1.mono (by omega))
  refine hK.out _ _ ?_ (fun hHeld => ?_)
  ·exact kpT
  clear hK K
  try simp only [Act.put, cA, cB, cC]
  refine tkA 5 ?_
  try simp only [Act.put, cA, cB, cC]
  refine wpAnyH_ready (rs := [6]) (by kernel_rfl) (by simp) ?_
  refine rdR (fun K hK => ?_) ?_
  ·go_simp
   refine hK.out _ _ ?_ (fun hHeld => ?_)
   ·exact kpT
   clear hK K
   try simp only [Act.put, cA, cB, cC]
   refine wpAnyH_done (by kernel_rfl) ?_ _
   clear hHeld hS1 hb hG1 hb1
   go_wp2
   exact bodyPost_ret (v := .agg #[.int .i64 t.1, .slice g1 t.2.length cap1]) (by simp [results, Tryz.results92, go_sem, r0, r1]) rfl ⟨_, rfl, GL.lower ((HG.out.keep znT znT).top) (by omega) (by omega), bwT⟩
  exact AllReadyH.nil
 exact AllReadyH.nil
end
section
theorem stepSexI_any (w : World) (k : Int) (h : 1 ≤ k ∧ k ≤ 8) : Calls Tryz.prog 89 #[.int .i64 k] w (PostI w (stSex k)) := by
 obtain rfl | rfl | rfl | rfl | rfl | rfl | rfl | rfl : k = 1 ∨ k = 2 ∨ k = 3 ∨ k = 4 ∨ k = 5 ∨ k = 6 ∨ k = 7 ∨ k = 8 := by omega
 all_goals
  go_enter Tryz.func89, Tryz.ntmps89
  go_wp2
  go_ret
  exact ⟨rfl, Below.refl _ _⟩
set_option maxHeartbeats 4000000 in
theorem stepFitsI_b (w : World) (ki ag sex : Int) (r : Bool) (hr : r = stFits (ki, ag) sex) : Calls Tryz.prog 88 #[.agg #[.int .i64 ki, .int .i64 ag], .int .i64 sex] w (PostB w r) := by
 have HR := Lib.hid hr
 clear hr
 by_cases a1 : ki < 1
 ·go_enter Tryz.func88, Tryz.ntmps88
  go_wp2
  go_ret
  exact ⟨ret_bool (by rw [HR.out]; symm; simp only [stFits, Bool.and_eq_false_iff, decide_eq_false_iff_not]; omega), bwT⟩
 by_cases a2 : 8 < ki
 ·go_enter Tryz.func88, Tryz.ntmps88
  go_wp2
  go_ret
  exact ⟨ret_bool (by rw [HR.out]; symm; simp only [stFits, Bool.and_eq_false_iff, decide_eq_false_iff_not]; omega), bwT⟩
 by_cases a3 : ag < 0
 ·go_enter Tryz.func88, Tryz.ntmps88
  go_wp2
  go_ret
  exact ⟨ret_bool (by rw [HR.out]; symm; simp only [stFits, Bool.and_eq_false_iff, decide_eq_false_iff_not]; omega), bwT⟩
 by_cases a4 : 2 < ag
 ·go_enter Tryz.func88, Tryz.ntmps88
  go_wp2
  go_ret
  exact ⟨ret_bool (by rw [HR.out]; symm; simp only [stFits, Bool.and_eq_false_iff, decide_eq_false_iff_not]; omega), bwT⟩
 have b1 : 1 ≤ ki := by omega
 have b2 : ki ≤ 8 := by omega
 have b3 : 0 ≤ ag := by omega
 have b4 : ag ≤ 2 := by omega
 by_cases g0 : ag = 0
 ·subst g0
  by_cases k7 : ki = 7
  ·subst k7
   by_cases s1 : sex = 1
   ·subst s1
    have HF := Lib.hid (show r = false by rw [HR.out]; simp only [stFits]; rfl)
    clear HR
    go_enter Tryz.func88, Tryz.ntmps88
    go_wp2
    go_ret
    exact ⟨ret_bool HF.out.symm, bwT⟩
   ·skip
    have s1e : (sex == 1) = false := by simpa using s1
    have s1n : (sex != 1) = true := by simpa using s1
    have HF := Lib.hid (show r = true by rw [HR.out]; simp only [stFits]; simp [*])
    clear HR
    go_enter Tryz.func88, Tryz.ntmps88
    go_wp2
    go_ret
    exact ⟨ret_bool HF.out.symm, bwT⟩
  by_cases k8 : ki = 8
  ·subst k8
   by_cases s2 : sex = 2
   ·subst s2
    have HF := Lib.hid (show r = false by rw [HR.out]; simp only [stFits]; rfl)
    clear HR
    go_enter Tryz.func88, Tryz.ntmps88
    go_wp2
    go_ret
    exact ⟨ret_bool HF.out.symm, bwT⟩
   ·skip
    have s2e : (sex == 2) = false := by simpa using s2
    have s2n : (sex != 2) = true := by simpa using s2
    have HF := Lib.hid (show r = true by rw [HR.out]; simp only [stFits]; simp [*])
    clear HR
    go_enter Tryz.func88, Tryz.ntmps88
    go_wp2
    go_ret
    exact ⟨ret_bool HF.out.symm, bwT⟩
  have k7e : (ki == 7) = false := by simpa using k7
  have k7n : (ki != 7) = true := by simpa using k7
  have k8e : (ki == 8) = false := by simpa using k8
  have k8n : (ki != 8) = true := by simpa using k8
  have HF := Lib.hid (show r = true by rw [HR.out]; simp only [stFits]; simp [*])
  clear HR
  go_enter Tryz.func88, Tryz.ntmps88
  go_wp2
  go_ret
  exact ⟨ret_bool HF.out.symm, bwT⟩
 have g0e : (ag == 0) = false := by simpa using g0
 have g0n : (ag != 0) = true := by simpa using g0
 by_cases k3 : ki = 3
 ·subst k3
  have HF := Lib.hid (show r = true by rw [HR.out]; simp only [stFits]; simp [*])
  clear HR
  go_enter Tryz.func88, Tryz.ntmps88
  go_wp2
  go_ret
  exact ⟨ret_bool HF.out.symm, bwT⟩
 by_cases k4 : ki = 4
 ·subst k4
  have HF := Lib.hid (show r = true by rw [HR.out]; simp only [stFits]; simp [*])
  clear HR
  go_enter Tryz.func88, Tryz.ntmps88
  go_wp2
  go_ret
  exact ⟨ret_bool HF.out.symm, bwT⟩
 have k3e : (ki == 3) = false := by simpa using k3
 have k3n : (ki != 3) = true := by simpa using k3
 have k4e : (ki == 4) = false := by simpa using k4
 have k4n : (ki != 4) = true := by simpa using k4
 have HF := Lib.hid (show r = false by rw [HR.out]; simp only [stFits]; simp [*])
 clear HR
 go_enter Tryz.func88, Tryz.ntmps88
 go_wp2
 go_ret
 exact ⟨ret_bool HF.out.symm, bwT⟩
set_option maxHeartbeats 4000000 in
theorem isTypeI_b {z : Bool} {lo hi : Nat} (w : World) (a b : Value) (t : Kin) (h : Rd z lo hi w [a, b] t) (r : Bool) (hr : r = isKin t) : Calls Tryz.prog 43 #[.agg #[a, b]] w (PostB w r) := by
 obtain ⟨rfl, hI, hb⟩ := h.kin
 clear h
 obtain ⟨ao, n, cap, rfl, hn, hnc, hcm, hnone⟩ := hb.shape
 subst hn
 unfold maxLen at *
 clear hnone
 by_cases a1 : t.1 < 0
 ·have HF := Lib.hid (show r = false by rw [hr]; simp only [isKin, Bool.and_eq_false_iff, decide_eq_false_iff_not]; omega)
  clear hr hb
  go_enter Tryz.func43, Tryz.ntmps43
  go_wp2
  go_ret
  exact ⟨ret_bool HF.out.symm, bwT⟩
 by_cases a2 : 2 < t.1
 ·have HF := Lib.hid (show r = false by rw [hr]; simp only [isKin, Bool.and_eq_false_iff, decide_eq_false_iff_not]; omega)
  clear hr hb
  go_enter Tryz.func43, Tryz.ntmps43
  go_wp2
  go_ret
  exact ⟨ret_bool HF.out.symm, bwT⟩
 have HR := Lib.hid hr
 clear hr
 by_cases a3 : 8 < t.2.length
 ·have HF := Lib.hid (show r = false by rw [HR.out]; simp only [isKin, Bool.and_eq_false_iff, decide_eq_false_iff_not]; omega)
  have a3I : (8 : Int) < (t.2.length : Int) := by omega
  clear HR hb
  go_enter Tryz.func43, Tryz.ntmps43
  go_wp2
  go_ret
  exact ⟨ret_bool HF.out.symm, bwT⟩
 have a3I : ¬ (8 : Int) < (t.2.length : Int) := by omega
 have HK := Lib.hid (show r = kinGo t.1 t.2 by rw [HR.out]; simp only [isKin]; rw [decide_eq_true (by omega), decide_eq_true (by omega), Bool.true_and, Bool.true_and])
 clear HR
 go_enter Tryz.func43, Tryz.ntmps43
 obtain ⟨W0, hW0⟩ : ∃ W0 : World, W0 = w.alloc (.cells #[.int .i64 t.1, .slice ao t.2.length cap] 36) := ⟨_, rfl⟩
 have hB0 : Below w.heap.size w W0 := by subst hW0; exact bwT
 go_wp2
 rw [← hW0]
 clear hW0
 go_loopw [3, 5, 25] (fun s3 _ s5 wr => ∃ (k : Nat) (sex : Int), k ≤ t.2.length ∧ s5 = .int .i64 k ∧ s3 = .int .i64 sex ∧ Hid (r = kinGo sex (t.2.drop k)) ∧ Below W0.heap.size W0 wr) (fun _ _ s5 _ => t.2.length - (intOf s5).toNat)
 case atStart => exact ⟨0, t.1, Nat.zero_le _, rfl, rfl, HK, Below.refl _ _⟩
 case round =>
  clear HK
  obtain ⟨wb, hwb⟩ : ∃ wm : World, wm = wr := ⟨_, rfl⟩
  subst hwb
  obtain ⟨k, sex, hk, rfl, rfl, hK, hbb⟩ := hrel
  have hBb : Below w.heap.size w wb := hB0.trans (hbb.mono hB0.size)
  have sR := hbb.size
  by_cases hlt : k < t.2.length
  ·have hI : (k : Int) < (t.2.length : Int) := by omega
   obtain ⟨sb, soff, ki, ag, rfl, hx, c0, c1, -, -, -, -, sbl, -⟩ := (hb.below hBb).stp_at hlt
   obtain ⟨r2, hlet_r2⟩ : ∃ r, r = stFits (ki, ag) sex := ⟨_, rfl⟩
   have H2 := Lib.hid hlet_r2
   clear hlet_r2
   have hK2 := Lib.hid (show r = (r2 && kinGo (stSex ki) (t.2.drop (k + 1))) by rw [hK.out, drop_cons hx.out, kinGo, H2.out])
   clear hK hx
   go_wp2_with fail
   refine (stepFitsI_b _ ki ag sex r2 H2.out).mono ?_
   rintro e w1 ⟨rfl, hb1⟩
   have hbb1 : Below W0.heap.size W0 w1 := Below.after bwT hb1 szT
   have qk : w1.cell? ⟨wb.heap.size, 0, none⟩ = some (.int .i64 ki) := oldc hb1 ltT (by simp [go_sem])
   clear hb1 c0 c1
   cases r2
   ·have HF := Lib.hid (show r = false by rw [hK2.out]; rfl)
    have hBw : Below w.heap.size w w1 := hB0.trans (hbb1.mono hB0.size)
    clear hK2 H2 hb
    go_wp2
    go_ret
    exact ⟨ret_bool HF.out.symm, hBw⟩
   ·have hki := (stFits_facts H2.out.symm).1
    have HN := Lib.hid (show r = kinGo (stSex ki) (t.2.drop (k + 1)) by rw [hK2.out, Bool.true_and])
    clear hK2 H2
    dsimp only at hki
    go_wp2_with fail
    refine (stepSexI_any _ ki hki).mono ?_
    rintro e w2 ⟨rfl, hb2⟩
    have hbb2 : Below W0.heap.size W0 w2 := hbb1.trans (hb2.mono hbb1.size)
    clear hb2 hbb1
    go_wp2
    go_roundw
    case rel => exact ⟨k + 1, _, by omega, by go_num, rfl, HN, hbb2⟩
    case measure => simp [intOf]; omega
  ·have HF := Lib.hid (show r = true by rw [hK.out, List.drop_eq_nil_of_le (by omega)]; rfl)
   have nI : ¬ (k : Int) < (t.2.length : Int) := by omega
   clear hK hb
   go_wp2
   go_ret
   exact ⟨ret_bool HF.out.symm, hBb⟩
set_option maxHeartbeats 4000000 in
theorem egoI_any {z : Bool} {lo hi : Nat} (w : World) (a b : Value) (t : Kin) (h : Rd z lo hi w [a, b] t) (R : Int) (hR : R = egoOf t) : Calls Tryz.prog 91 #[.agg #[a, b]] w (PostI w R) := by
 obtain ⟨rfl, hI, hb⟩ := h.kin
 clear h
 obtain ⟨e, l⟩ := t
 dsimp only at hb hI ⊢
 obtain ⟨ao, n, cap, rfl, hn, hnc, hcm, hnone⟩ := hb.shape
 subst hn
 unfold maxLen at *
 have HR := Lib.hid hR
 clear hR hnone
 by_cases h0 : e = 0
 ·subst h0
  cases l with
  | nil =>
    have HF := Lib.hid (show R = 0 by rw [HR.out]; rfl)
    simp only [List.length_nil] at *
    clear HR hb
    go_enter Tryz.func91, Tryz.ntmps91
    go_wp2
    go_ret
    exact ⟨ret_int HF.out.symm, bwT⟩
  | cons s l =>
    have hpos : 0 < (s :: l).length := by simp
    obtain ⟨sb, soff, ki, ag, rfl, hx, c0, c1, -, -, -, -, sbl, -⟩ := hb.stp_at (i := 0) hpos
    have hx' := hx.out
    simp only [List.getElem?_cons_zero, Option.some.injEq] at hx'
    subst hx'
    have HF := Lib.hid (show R = if ki = 7 then 2 else if ki = 8 then 1 else 0 by rw [HR.out]; rfl)
    obtain ⟨m, hm⟩ : ∃ m, m = ((ki, ag) :: l : List Stp).length := ⟨_, rfl⟩
    have hmp : 0 < m := by rw [hm]; simp
    rw [← hm]
    rw [← hm] at hnc
    have hmn : ((m : Int) == 0) = false := by simp; omega
    have hmI : (0 : Int) < (m : Int) := by omega
    clear HR hb hx hm hpos
    simp only [Nat.zero_mul, Nat.add_zero] at c0 c1
    by_cases k7 : ki = 7
    ·subst k7
     go_enter Tryz.func91, Tryz.ntmps91
     go_wp2
     go_ret
     exact ⟨ret_int (by rw [HF.out]; rfl), bwT⟩
    ·have n7 : (ki == 7) = false := by simpa using k7
     by_cases k8 : ki = 8
     ·subst k8
      go_enter Tryz.func91, Tryz.ntmps91
      go_wp2
      go_ret
      exact ⟨ret_int (by rw [HF.out]; rfl), bwT⟩
     ·have n8 : (ki == 8) = false := by simpa using k8
      have HF := Lib.hid (show R = 0 by rw [HF.out, if_neg k7, if_neg k8])
      go_enter Tryz.func91, Tryz.ntmps91
      go_wp2
      go_ret
      exact ⟨ret_int HF.out.symm, bwT⟩
 ·have HF := Lib.hid (show R = e by rw [HR.out]; simp only [egoOf]; rw [if_neg h0])
  have n0 : (e == 0) = false := by simpa using h0
  have m0 : (e != 0) = true := by simpa using h0
  clear HR hb
  go_enter Tryz.func91, Tryz.ntmps91
  go_wp2
  go_ret
  exact ⟨ret_int HF.out.symm, bwT⟩
end
section
def idL (n : Nat) : List Int := (List.range n).map fun (i : Nat) => (i : Int)
end
section
def getP (p : List Int) (x : Int) : Int := p.getD x.toNat 0
def stepPm (c : Cls) (k sex : Int) : List Int :=
 if k = 1 then inv c.2 else if k = 2 then comp (inv c.2) c.1 else if k = 5 ∨ k = 6 then (if sex = 1 then c.2 else comp (inv c.1) c.2) else if k = 7 then inv c.1 else if k = 8 then c.1 else idL c.1.length
def tpGo (c : Cls) : Int → List Int → List Stp → List Int
 | _, o, [] => o
 | sex, o, s :: l => tpGo c (stSex s.1) (comp o (stepPm c s.1 sex)) l
def atGo (c : Cls) : Int → Int → List Stp → Int
 | _, x, [] => x
 | sex, x, s :: l => atGo c (stSex s.1) (getP (stepPm c s.1 sex) x) l
def typePm (c : Cls) (t : Kin) : List Int := tpGo c (egoOf t) (idL c.1.length) t.2
def tpV (c : Cls) (t : Kin) : Bool := isCls c && (isKin t && !decide (0 < t.2.length ∧ egoOf t = 0))
def tpX (c : Cls) (t : Kin) : List Int := if tpV c t = true then typePm c t else []
theorem getP_some {p : List Int} {x : Int} (h0 : 0 ≤ x) (h1 : x < p.length) : p[x.toNat]? = some (getP p x) := by
 have hl : x.toNat < p.length := by omega
 simp [getP, List.getD_eq_getElem?_getD, List.getElem?_eq_getElem hl]
theorem getP_in {n : Nat} {p : List Int} (h : InRange n p) {x : Int} (h0 : 0 ≤ x) (h1 : x < p.length) : 0 ≤ getP p x ∧ getP p x < n := h _ (List.mem_of_getElem? (getP_some h0 h1))
theorem comp_range {n : Nat} {p q : List Int} (hp : InRange q.length p) (hq : InRange n q) : InRange n (comp p q) := fun x hx => by
 simp only [comp, List.mem_map] at hx
 obtain ⟨y, hy, rfl⟩ := hx
 have := hp y hy
 exact getP_in hq this.1 this.2
structure POk (n : Nat) (p : List Int) : Prop where
 len : p.length = n
 rng : InRange n p
theorem POk.comp {n : Nat} {p q : List Int} (hp : POk n p) (hq : POk n q) : POk n (comp p q) := ⟨by rw [comp_len]; exact hp.len, comp_range (by rw [hq.len]; exact hp.rng) hq.rng⟩
theorem POk.inv {n : Nat} {p : List Int} (h : p.length = n) : POk n (inv p) := ⟨by rw [inv_len]; exact h, by rw [← h]; exact inv_range⟩
theorem sexAt_succ {t : Kin} {i : Nat} {s : Stp} (h : t.2[i]? = some s) : sexAt t (i + 1) = stSex s.1 := by simp [sexAt, h]
end
section
def PostRd {α : Type} [Rep α] (w : World) (x : α) (e : Ending) (w' : World) : Prop := ∃ u, e = .returned u ∧ Rd false 0 w'.heap.size w' [u] x ∧ Below w.heap.size w w'
set_option maxHeartbeats 1000000 in
theorem sexBeforeI_any {z : Bool} {lo hi : Nat} (w : World) (a b : Value) (t : Kin) (h : Rd z lo hi w [a, b] t) (ht : isKin t = true) (i : Nat) (hi' : i < t.2.length) (R : Int) (hR : R = sexAt t i) : Calls Tryz.prog 95 #[.agg #[a, b], .int .i64 i] w (PostI w R) := by
 obtain ⟨rfl, hI, hb⟩ := h.kin
 have HR := Lib.hid hR
 have HK := Lib.hid (isKin_facts ht)
 clear hR ht
 cases i with
 | zero =>
   have HE := Lib.hid (show R = egoOf t from HR.out)
   clear HR HK
   go_enter Tryz.func95, Tryz.ntmps95
   go_wp2_with fail
   refine (egoI_any _ _ _ t (h.below bwT) R HE.out).mono ?_
   rintro e4 w4 ⟨rfl, hbw4⟩
   have hpw4 : Below w.heap.size w w4 := Below.after bwT hbw4 szT
   have sw4 := hpw4.size
   have hBw4 : Below w.heap.size w w4 := hpw4
   have l_t : w.heap.size < w4.heap.size := by have := hbw4.size; simp at this; omega
   have q_t0 : w4.cell? ⟨w.heap.size, 0, none⟩ = some (.int .i64 t.1) := oldc hbw4 ltT (by simp [go_sem])
   have q_t1 : w4.cell? ⟨w.heap.size, 1, none⟩ = some (b) := oldc hbw4 ltT (by simp [go_sem])
   clear hbw4 hpw4
   clear h hb
   go_wp2
   go_ret
   exact ⟨rfl, hBw4⟩
 | succ i =>
   obtain ⟨ao, n, cap, rfl, hn, hnc, hcm, hnone⟩ := hb.shape
   subst hn
   obtain ⟨sb, soff, ki, ag, rfl, hx, c0, c1, -, -, -, -, sbl, -⟩ := hb.stp_at (i := i) (show i < t.2.length by omega)
   have hki := (HK.out.2.2.2 _ (List.mem_of_getElem? hx.out)).1
   have HX := Lib.hid (show R = stSex ki by rw [HR.out, sexAt_succ hx.out])
   obtain ⟨iv, hiv⟩ : ∃ iv : Int, iv = ((i + 1 : Nat) : Int) := ⟨_, rfl⟩
   rw [← hiv]
   have n0 : (iv == 0) = false := by simp; omega
   have q : wrap64 (i : Int) = (i : Int) := IntWalk.wrap64_in _ (by unfold maxLen at hcm; omega)
   have q2 : iv - 1 = (i : Int) := by omega
   have hil : (i : Int) < (t.2.length : Int) := by omega
   dsimp only at hki
   clear HR HK h hb hx hiv
   go_enter Tryz.func95, Tryz.ntmps95
   go_wp2_with fail
   refine (stepSexI_any _ ki hki).mono ?_
   rintro e5 w5 ⟨rfl, hbw5⟩
   have hpw5 : Below w.heap.size w w5 := Below.after bwT hbw5 szT
   have sw5 := hpw5.size
   have hBw5 : Below w.heap.size w w5 := hpw5
   have l_t : w.heap.size < w5.heap.size := by have := hbw5.size; simp at this; omega
   have q_t0 : w5.cell? ⟨w.heap.size, 0, none⟩ = some (.int .i64 t.1) := oldc hbw5 ltT (by simp [go_sem])
   have q_t1 : w5.cell? ⟨w.heap.size, 1, none⟩ = some (.slice (some ⟨sb, soff, none⟩) t.2.length cap) := oldc hbw5 ltT (by simp [go_sem])
   clear hbw5 hpw5
   rw [← HX.out]
   go_wp2
   go_ret
   exact ⟨rfl, hBw5⟩
end
section
def lexB : List Int → List Int → Bool
 | [], ys => decide (0 < ys.length)
 | _ :: _, [] => false
 | x :: xs, y :: ys => if x = y then lexB xs ys else decide (x < y)
section
variable {z z' : Bool} {lo hi lo' hi' : Nat} (w : World) (u v : Value) (xs ys : List Int)
end
end
section
def allowB (c : Cls) (t : Kin) : Bool := tpV c t && (decide (typePm c t = c.1) && (decide (egoOf t = 1) && decide (sexOf t = 2)))
set_option maxHeartbeats 1000000 in
theorem sexOfI_any {z : Bool} {lo hi : Nat} (w : World) (a b : Value) (t : Kin) (h : Rd z lo hi w [a, b] t) (ht : isKin t = true) (R : Int) (hR : R = sexOf t) : Calls Tryz.prog 51 #[.agg #[a, b]] w (PostI w R) := by
 obtain ⟨rfl, hI, hb⟩ := h.kin
 have HK := Lib.hid (isKin_facts ht)
 have HR := Lib.hid hR
 clear h hR ht
 obtain ⟨ao, n, cap, rfl, hn, hnc, hcm, hnone⟩ := hb.shape
 subst hn
 unfold maxLen at *
 clear hnone
 obtain ⟨L, hL⟩ : ∃ L, L = t.2.length := ⟨_, rfl⟩
 rw [← hL]
 rw [← hL] at hnc hb
 by_cases h0 : L = 0
 ·have HF := Lib.hid (show R = t.1 by rw [HR.out, sexOf, List.getLast?_eq_getElem?, List.getElem?_eq_none (by omega)])
  subst h0
  clear HK HR hb hL
  go_enter Tryz.func51, Tryz.ntmps51
  go_wp2
  go_ret
  exact ⟨ret_int HF.out.symm, bwT⟩
 ·obtain ⟨m, hm⟩ : ∃ m, L = m + 1 := ⟨L - 1, by omega⟩
  obtain ⟨sb, soff, ki, ag, rfl, hx, c0, c1, -, -, -, -, sbl, -⟩ := hb.stp_at (i := m) (show m < L by omega)
  have hki := (HK.out.2.2.2 _ (List.mem_of_getElem? hx.out)).1
  have HX := Lib.hid (show R = stSex ki by rw [HR.out, sexOf, List.getLast?_eq_getElem?, ← hL, hm, Nat.add_sub_cancel, hx.out])
  have n0 : ((L : Int) == 0) = false := by simp; omega
  have q2 : (L : Int) - 1 = (m : Int) := by omega
  have q : wrap64 (m : Int) = (m : Int) := IntWalk.wrap64_in _ (by omega)
  have hml : (m : Int) < (L : Int) := by omega
  dsimp only at hki
  clear HK HR hb hx hm h0 hL
  go_enter Tryz.func51, Tryz.ntmps51
  go_wp2_with fail
  refine (stepSexI_any _ ki hki).mono ?_
  rintro e14 w14 ⟨rfl, hbw14⟩
  have hpw14 : Below w.heap.size w w14 := Below.after bwT hbw14 szT
  have sw14 := hpw14.size
  have hBw14 : Below w.heap.size w w14 := hpw14
  have l_t : w.heap.size < w14.heap.size := by have := hbw14.size; simp at this; omega
  have q_t0 : w14.cell? ⟨w.heap.size, 0, none⟩ = some (.int .i64 t.1) := oldc hbw14 ltT (by simp [go_sem])
  have q_t1 : w14.cell? ⟨w.heap.size, 1, none⟩ = some (.slice (some ⟨sb, soff, none⟩) L cap) := oldc hbw14 ltT (by simp [go_sem])
  clear hbw14 hpw14
  rw [← HX.out]
  go_wp2
  go_ret
  exact ⟨rfl, hBw14⟩
end
section
def marksSS (k : Int) : List (List Int) → List (List Int)
 | [] => []
 | p :: ps => marks k p.length :: marksSS (k + p.length) ps
def lenSS : List (List Int) → Nat
 | [] => 0
 | p :: ps => p.length + lenSS ps
section
variable {α : Type} [Rep α]
end
end
section
structure Wr (b o n : Nat) (w w' : World) : Prop where
 size : w'.heap.size = w.heap.size
 other : ∀ k, k ≠ b → w'.heap[k]? = w.heap[k]?
 cell : ∀ p, (p < o ∨ o + n ≤ p) → ∀ c, w.cell? ⟨b, p, none⟩ = some c → w'.cell? ⟨b, p, none⟩ = some c
 has : ∀ p c, w.cell? ⟨b, p, none⟩ = some c → ∃ d, w'.cell? ⟨b, p, none⟩ = some d
 frozen : ∀ p, w.frozen? ⟨b, p, none⟩ = false → w'.frozen? ⟨b, p, none⟩ = false
theorem Wr.refl (b o n : Nat) (w : World) : Wr b o n w w := ⟨rfl, fun _ _ => rfl, fun _ _ _ h => h, fun _ c h => ⟨c, h⟩, fun _ h => h⟩
theorem Wr.setCell {b o n : Nat} {w0 w : World} (h : Wr b o n w0 w) {p : Nat} (h1 : o ≤ p) (h2 : p < o + n) (u : Value) : Wr b o n w0 (w.setCell ⟨b, p, none⟩ u) := by
 refine ⟨by rw [← h.size]; simp, fun k hk => (Below.heap_setCell w ⟨b, p, none⟩ u k hk).trans (h.other k hk), fun q hq c hc => ?_, fun q c hc => ?_, fun q hq => frozen_setCell _ _ _ _ _ (h.frozen q hq)⟩
 ·rw [cell_setCell w b p q u c (h.cell q hq c hc), if_neg (by omega)]
 ·obtain ⟨d, hd⟩ := h.has q c hc
  exact ⟨_, cell_setCell w b p q u d hd⟩
theorem cell_here {w : World} {b p : Nat} {u c : Value} (h : w.cell? ⟨b, p, none⟩ = some c) : (w.setCell ⟨b, p, none⟩ u).cell? ⟨b, p, none⟩ = some u := by
 rw [cell_setCell w b p p u c h, if_pos rfl]
theorem cell_there {w : World} {b p q : Nat} {u c : Value} (h : w.cell? ⟨b, q, none⟩ = some c) (hne : p ≠ q) : (w.setCell ⟨b, p, none⟩ u).cell? ⟨b, q, none⟩ = some c := by
 rw [cell_setCell w b p q u c h, if_neg hne]
section
variable {α : Type} [Rep α]
theorem Zip.put {z : Bool} {w w' : World} : ∀ {cs : List (List Value)} {xs : List α} {fs : List (List Nat)} {i : Nat} {c : List Value} {f : List Nat} {y : α}, Zip (Rep.rep z w) cs xs fs → (∀ k ∈ fs.flatten, w'.heap[k]? = w.heap[k]?) → Rep.rep z w' c y f → Zip (Rep.rep z w') (cs.set i c) (xs.set i y) (fs.set i f)
 | [], [], [], i, c, f, y, _, _, _ => trivial
 | c0 :: cs, x0 :: xs, f0 :: fs, 0, c, f, y, h, hk, hy => ⟨hy, h.2.keep fun b hb => hk b (by simp only [List.flatten_cons, List.mem_append]; exact .inr hb)⟩
 | c0 :: cs, x0 :: xs, f0 :: fs, i + 1, c, f, y, h, hk, hy => ⟨Rep.keep h.1 fun b hb => hk b (by simp only [List.flatten_cons, List.mem_append]; exact .inl hb), Zip.put h.2 (fun b hb => hk b (by simp only [List.flatten_cons, List.mem_append]; exact .inr hb)) hy⟩
 | [], [], _ :: _, _, _, _, _, h, _, _ | [], _ :: _, _, _, _, _, _, h, _, _ | _ :: _, [], _, _, _, _, _, h, _, _ | _ :: _, _ :: _, [], _, _, _, _, h, _, _ => h.elim
theorem set_self {β : Type} : ∀ {l : List β} {i : Nat} {x : β}, l[i]? = some x → l.set i x = l
 | [], _, _, h => by simp at h
 | y :: l, 0, x, h => by simp at h; subst h; rfl
 | y :: l, i + 1, x, h => by rw [List.set_cons_succ, set_self (by simpa using h)]
theorem rep_setd {w : World} {b off n cap : Nat} {xs : List α} {fp : List Nat} (h : Rep.rep true w [.slice (some ⟨b, off, none⟩) n cap] xs fp) (hn : fp.Nodup) {i j : Nat} {x y : α} {u : Value}
  (hx : xs[i]? = some x) (hj : j < Rep.sz α) (hy : ∀ cs f, Rep.rep true w cs x f → Rep.rep true w (cs.set j u) y f) :
  Rep.rep true (w.setCell ⟨b, off + (i * Rep.sz α + j), none⟩ u) [.slice (some ⟨b, off, none⟩) n cap] (xs.set i y) fp := by
 obtain ⟨v1, hv1, ao, n', cap', rfl, e1, e2, e3, e4, hr⟩ := h
 simp at hv1; obtain ⟨rfl, rfl, rfl⟩ := hv1
 have hil : i < xs.length := (List.getElem?_eq_some_iff.1 hx).1
 rcases hr with ⟨h0, _⟩ | ⟨b', off', css, fps, hb', hb, rfl, hzip, hcells, hf⟩
 ·omega
 ·simp only [Option.some.injEq, Addr.mk.injEq, and_true] at hb'
  obtain ⟨rfl, rfl⟩ := hb'
  rw [List.nodup_cons] at hn
  obtain ⟨c, f, q1, q2, q3⟩ := hzip.get hx
  have hbf : ∀ k ∈ fps.flatten, k ≠ b := fun k hk e => hn.1 (e ▸ hk)
  have hff : ∀ k ∈ f, k ≠ b := fun k hk => hbf k (List.mem_flatten.2 ⟨f, List.mem_of_getElem? q2, hk⟩)
  have hW : Wr b (off + i * Rep.sz α) (Rep.sz α) w (w.setCell ⟨b, off + (i * Rep.sz α + j), none⟩ u) := (Wr.refl _ _ _ _).setCell (by omega) (by omega) u
  have hset : css.flatten.set (i * Rep.sz α + j) u = (css.set i (c.set j u)).flatten := flat_set hzip.sizes q1 hj
  have hzs := hzip.put (i := i) (w' := w.setCell ⟨b, off + (i * Rep.sz α + j), none⟩ u) (fun k hk => hW.other k (hbf k hk)) (Rep.keep (hy c f q3) fun k hk => hW.other k (hff k hk))
  rw [set_self q2] at hzs
  refine ⟨_, rfl, _, _, _, rfl, by simpa using e1, e2, e3, e4, .inr ⟨b, off, _, _, rfl, by rw [hW.size]; exact hb, rfl, hzs, ?_, fun ht o => hW.frozen o (hf ht o)⟩⟩
  intro k d hk
  rw [← hset] at hk
  have hk' : k < css.flatten.length := by have := (List.getElem?_eq_some_iff.1 hk).1; simpa using this
  have hold := hcells k css.flatten[k] (List.getElem?_eq_getElem hk')
  rw [cell_setCell _ _ _ _ _ _ hold]
  rw [List.getElem?_set] at hk
  by_cases hkk : i * Rep.sz α + j = k
  ·subst hkk
   rw [if_pos rfl, if_pos (by simpa using hk')] at hk
   simp at hk; subst hk; simp
  ·rw [if_neg hkk, List.getElem?_eq_getElem hk'] at hk
   rw [if_neg (by omega)]; exact hk
end
section
variable {α : Type} [Rep α]
end
section
variable {α : Type}
def lenBy (cnt : α → Nat) : List α → Nat
 | [] => 0
 | x :: xs => cnt x + lenBy cnt xs
def marksBy (cnt : α → Nat) (mk : Int → α → α) : Int → List α → List α
 | _, [] => []
 | k, x :: xs => mk k x :: marksBy cnt mk (k + cnt x) xs
end
end
section
def dg1 (t : Nat) : ByteArray := ⟨#[48 + UInt8.ofNat (t % 10)]⟩
def dg : Nat → Nat → ByteArray → ByteArray
 | 0, _, x => x
 | f + 1, t, x => if t = 0 then x else dg f (t / 10) (dg1 t ++ x)
def markTxt (k : Nat) : ByteArray := if k = 0 then ⟨#[109, 48]⟩ else (⟨#[109]⟩ : ByteArray) ++ dg k k ⟨#[]⟩
end
section
def mkStp (q : Int) : Stp := (q, q + 1)
def marksStp (k : Int) (n : Nat) : List Stp := (List.range n).map fun i => mkStp (k + 2 * (i : Nat))
end
section
def cntKin : Kin → Nat := fun (eg, sl) => 1 + 2 * sl.length
def szdKin : Kin → Nat := fun (eg, sl) => sl.length
def sszKin (xs : List Kin) : Nat := xs.length + lenBy szdKin xs
def mkdKin (k : Int) : Kin → Kin := fun (eg, sl) => (k, marksStp (k + 1) sl.length)
instance decEqLKin : DecidableEq (List Kin) := fun a b => instDecidableEqList a b
end
section
abbrev Per := ByteArray × Int × Int × Int × Int × Int
abbrev Uni := Int × Int × Int × Int
abbrev Fam := List Per × List Uni
def letters (s : List UInt8) : Bool := s.all fun c => decide (97 ≤ c.toNat ∧ c.toNat ≤ 122)
def nameOk (s : ByteArray) : Bool := decide (1 ≤ s.size ∧ s.size ≤ 12) && letters s.data.toList
def upC (ps : List Per) (born q sex late : Int) : Bool :=
 match ps[q.toNat]? with
 | some (_, sx, _, _, bo, di) => decide (sx = sex) && (decide (bo < born) && decide (di = -1 ∨ born ≤ di + late))
 | none => false
def upOk (ps : List Per) (i : Nat) (born q sex late : Int) : Bool := decide (q = -1) || (decide (0 ≤ q ∧ q < i) && upC ps born q sex late)
def perC (ps : List Per) (i : Nat) : Per → Bool
 | (nm, sx, fa, mo, bo, di) => nameOk nm && (decide (sx = 1 ∨ sx = 2) && (decide (0 ≤ bo ∧ bo ≤ 9999) && (decide (di = -1 ∨ (bo ≤ di ∧ di ≤ 9999)) && (!decide (nm ∈ (ps.take i).map (·.1)) && (upOk ps i bo fa 1 1 && upOk ps i bo mo 2 0)))))
def perOk (ps : List Per) (i : Nat) : Bool := match ps[i]? with | some p => perC ps i p | none => false
def dep1 (out : List Int) (q : Int) : Int := if 0 ≤ q then out.getD q.toNat 0 + 1 else 0
def depOf (out : List Int) (fa mo : Int) : Int := max (dep1 out fa) (dep1 out mo)
def deps (ps : List Per) : List Int := ps.foldl (fun out p => out ++ [depOf out p.2.2.1 p.2.2.2.1]) []
def depOk (ps : List Per) : Bool := (deps ps).all fun d => decide (d ≤ 10)
def liveOk (di fr tl : Int) : Bool := decide (di = -1 ∨ (fr ≤ di ∧ (tl = -1 ∨ tl ≤ di)))
def uniP (a b : Per) (fr tl : Int) : Bool :=
 match a, b with
 | (_, sa, _, _, ba, da), (_, sb, _, _, bb, db) => decide (sa = 1 ∧ sb = 2) && (decide (fr ≤ 9999 ∧ ba ≤ fr ∧ bb ≤ fr) && (decide (tl = -1 ∨ (fr ≤ tl ∧ tl ≤ 9999)) && (liveOk da fr tl && liveOk db fr tl)))
def uniC (f : Fam) (k : Nat) : Uni → Bool
 | (m, wo, fr, tl) => decide ((0 ≤ m ∧ m < f.1.length) ∧ (0 ≤ wo ∧ wo < f.1.length)) &&
   ((match f.1[m.toNat]?, f.1[wo.toNat]? with | some a, some b => uniP a b fr tl | _, _ => false) && !decide ((m, wo) ∈ (f.2.take k).map fun v => (v.1, v.2.1)))
def uniOk (f : Fam) (k : Nat) : Bool := match f.2[k]? with | some u => uniC f k u | none => false
def famB (f : Fam) : Bool := decide (f.1.length ≤ 40 ∧ f.2.length ≤ 60) && ((List.range f.1.length).all (perOk f.1) && (depOk f.1 && (List.range f.2.length).all (uniOk f)))
def PplTo (ps : List Per) (i : Nat) : Prop := ∀ k, k < i → perOk ps k = true
theorem perOk_at {ps : List Per} {i : Nat} {p : Per} (h : ps[i]? = some p) : perOk ps i = perC ps i p := by unfold perOk; rw [h]
theorem perC_facts {ps : List Per} {i : Nat} {nm : ByteArray} {sx fa mo bo di : Int} (h : perC ps i (nm, sx, fa, mo, bo, di) = true) :
  (sx = 1 ∨ sx = 2) ∧ (0 ≤ bo ∧ bo ≤ 9999) ∧ (di = -1 ∨ (bo ≤ di ∧ di ≤ 9999)) ∧ (fa = -1 ∨ (0 ≤ fa ∧ fa < i)) ∧ (mo = -1 ∨ (0 ≤ mo ∧ mo < i)) ∧ nameOk nm = true ∧ nm ∉ (ps.take i).map (·.1) := by
 simp only [perC, upOk, Bool.and_eq_true, Bool.or_eq_true, decide_eq_true_eq, Bool.not_eq_true', decide_eq_false_iff_not] at h
 obtain ⟨h1, h2, h3, h4, h5, h6, h7⟩ := h
 refine ⟨h2, h3, h4, ?_, ?_, h1, h5⟩
 ·rcases h6 with h | h
  ·exact .inl h
  ·exact .inr h.1
 ·rcases h7 with h | h
  ·exact .inl h
  ·exact .inr h.1
theorem PplTo.at {ps : List Per} {n i : Nat} (h : PplTo ps n) (hi : i < n) {nm : ByteArray} {sx fa mo bo di : Int} (hp : ps[i]? = some (nm, sx, fa, mo, bo, di)) :
  (sx = 1 ∨ sx = 2) ∧ (0 ≤ bo ∧ bo ≤ 9999) ∧ (di = -1 ∨ (bo ≤ di ∧ di ≤ 9999)) ∧ (fa = -1 ∨ (0 ≤ fa ∧ fa < i)) ∧ (mo = -1 ∨ (0 ≤ mo ∧ mo < i)) ∧ nameOk nm = true ∧ nm ∉ (ps.take i).map (·.1) :=
 perC_facts (by rw [← perOk_at hp]; exact h i hi)
end
end Go.Proofs.YtdpkldapobbnpaaGreatDoor
