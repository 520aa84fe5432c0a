/- Ours: the library's sort.Slice at a slice of items of one cell that the call owns: a permutation of the items, sorted; its own row alone turns. No function of the program is named here. -/
import Derived.Test.YtoipdgoejichbaaRds
import Derived.Shelf.GgSortFunc.Whole
import Derived.Shelf.GgSortFunc.Tiny
namespace Go.Proofs.Ytoipdgoejichbaa
set_option linter.unusedVariables false
set_option linter.unusedSimpArgs false
open Go.RowKit Go.Shelf

/-- A bool comes back; nothing has turned but the draws. -/
def PostDr (w : World) (r : Bool) (e : Ending) (w' : World) : Prop := e = .returned (.bool r) ∧ ∃ q, w' = w.drewN q
theorem drew_on {w wr : World} (h : ∃ q, wr = w.drewN q) (n : Nat) : ∃ q, wr.drewN n = w.drewN q := by
  obtain ⟨q, rfl⟩ := h
  exact ⟨q + n, by simp⟩
theorem ones_of : ∀ {css : List (List Value)}, (∀ d ∈ css, d.length = 1) → ∃ vs : List Value, css = vs.map fun v => [v]
  | [], _ => ⟨[], rfl⟩
  | c :: css, h => by
    obtain ⟨vs, rfl⟩ := ones_of (css := css) fun d hd => h d (by simp [hd])
    have := h c (by simp)
    match c, this with
    | [v], _ => exact ⟨v :: vs, rfl⟩
theorem flat_ones : ∀ vs : List Value, (vs.map fun v => [v]).flatten = vs
  | [] => rfl
  | v :: vs => by rw [List.map_cons, List.flatten_cons, flat_ones vs]; rfl
/-- Items picked by number. -/
theorem Zip.pick {α : Type} {R : List Value → α → List Nat → Prop} {cs : List (List Value)} {xs : List α} {fs : List (List Nat)} (h : Zip R cs xs fs) (n : Nat) (h1 : cs.length = n) (h2 : xs.length = n) (h3 : fs.length = n) :
    ∀ l : List (Fin n), Zip R (l.map fun k => cs[k.val]'(by omega)) (l.map fun k => xs[k.val]'(by omega)) (l.map fun k => fs[k.val]'(by omega))
  | [] => trivial
  | k :: l => by
    refine ⟨?_, Zip.pick h n h1 h2 h3 l⟩
    obtain ⟨c, f, e1, e2, r⟩ := h.get (i := k.val) (x := xs[k.val]'(by omega)) (List.getElem?_eq_getElem (by omega))
    rw [List.getElem?_eq_getElem (by omega)] at e1 e2
    simp only [Option.some.injEq] at e1 e2
    subst e1
    subst e2
    exact r
theorem pick_all {α : Type} (xs : List α) (n : Nat) (h : xs.length = n) : ((List.finRange n).map fun k => xs[k.val]'(by omega)) = xs := by
  subst h
  apply List.ext_getElem
  · simp
  · intro i h1 h2
    simp

section
variable {P : Program} {ρ : Ren} {α : Type} [Rep α]
/-- What the comparison must do, wherever the sort stands: compare two of what the row holds, and turn nothing. -/
def LessOk (P : Program) (g : Nat) (lb : Array Value) (lt : α → α → Bool) (w : World) (blk : Nat) (v : Value) (xs : List α) : Prop :=
  ∀ (W : World) (ys : List α), ys.length = xs.length → (∀ y ∈ ys, y ∈ xs) → w.heap.size ≤ W.heap.size → (∀ b, b < w.heap.size → b ≠ blk → W.heap[b]? = w.heap[b]?) → Rd false 0 W.heap.size W [v] ys →
    ∀ (i j : Nat) (hi : i < ys.length) (hj : j < ys.length), Calls P g (#[.int .i64 i, .int .i64 j] ++ lb) W (PostDr W (lt ys[i] ys[j]))
/-- A strict weak order. -/
structure Wo (lt : α → α → Bool) : Prop where
  irrefl : ∀ x, lt x x = false
  trans : ∀ x y z, lt x y = true → lt y z = true → lt x z = true
  ntrans : ∀ x y z, lt x y = false → lt y z = false → lt x z = false
/-- The items are as they were but for their order, which is ascending; the row's block alone has turned. -/
def PostSrt (lt : α → α → Bool) (lo hi : Nat) (w : World) (fp : List Nat) (v : Value) (xs : List α) (e : Ending) (w' : World) : Prop :=
  e = .returned (.tuple #[]) ∧ ∃ ys : List α, ys.Perm xs ∧ ys.Pairwise (fun a b => lt b a = false) ∧ Ow lo hi w' [v] ys ∧ OffF fp w w'

theorem heap_putRow {β : Type} [Inhabited β] (enc : β → Value) (w : World) (m blk off : Nat) (d : Array β) (os : Array Obj) {b : Nat} (hb : b < w.heap.size) (hne : b ≠ blk) : (Sort.grow (Sort.putRow enc (Sort.ahead w m) blk off d) os).heap[b]? = w.heap[b]? := by
  rw [Sort.heap_grow_old _ _ (by unfold Sort.putRow Sort.mapBlock Sort.ahead; simpa using hb)]
  unfold Sort.putRow Sort.mapBlock Sort.ahead
  simp only [Array.getElem?_modify]
  rw [if_neg (Ne.symm hne)]
theorem size_putRow {β : Type} [Inhabited β] (enc : β → Value) (w : World) (m blk off : Nat) (d : Array β) (os : Array Obj) : w.heap.size ≤ (Sort.grow (Sort.putRow enc (Sort.ahead w m) blk off d) os).heap.size := by
  unfold Sort.grow Sort.putRow Sort.mapBlock Sort.ahead
  simp

set_option maxHeartbeats 1000000 in
theorem sort_many (L : LaysGg.n6 P ρ) (t e : TypeId) (i ie : TypeInfo) (hi : P.info? t = some i) (hd : i.desc = .slice e) (hpk : P.packed t = false) (hie : P.info? e = some ie) (ke : Nat) (hke : ∀ w, (Extern.Rtype.kind e).run P w = .ok ke w)
    (hs1 : ie.size = 1) (hagg : ∀ w, (isAgg e).run P w = .ok false w) (lt : α → α → Bool) (hO : Wo lt) (g : Nat) (lb : Array Value)
    (eg : ∀ args w, (callFunc g args).run P w = .ok (.enter g args) w) (f : Nat) (n : Nat) (h2 : 2 ≤ n) (hf : P.funcs.findIdx? (·.name == "internal/reflectlite" ++ ".Swapper$" ++ toString (Lib.swapperK n ie ke)) = some f)
    (gS : Bool) (hx : ∀ args W, (callFunc f args).run P W = ((Extern.ReflectliteSwapper.swap gS args).run P W).andThen fun v w' => .ok (.value v) w')
    (hsz : Rep.sz α = 1) {lo up : Nat} (w : World) (blk off cap : Nat) (xs : List α) (hbig : n < 4611686018427387904)
    (hown : Ow lo up w [.slice (some ⟨blk, off, none⟩) n cap] xs) (hless : LessOk P g lb lt w blk (.slice (some ⟨blk, off, none⟩) n cap) xs) :
    Calls P (ρ.f 6) #[.iface t (.slice (some ⟨blk, off, none⟩) n cap), .func (.func g) #[] lb] w (PostSrt lt lo up w [blk] (.slice (some ⟨blk, off, none⟩) n cap) xs) := by
  obtain ⟨fp, ⟨v1, hv1, ao, n', cap', rfl, e1, e2, e3, e4, hr⟩, hz, hnd⟩ := hown
  simp only [List.cons.injEq, and_true, Value.slice.injEq] at hv1
  obtain ⟨rfl, rfl, rfl⟩ := hv1
  rcases hr with ⟨h0, _⟩ | ⟨b, off', css, fps, hb', hb, rfl, hzip, hc, hfr⟩
  · omega
  simp only [Option.some.injEq, Addr.mk.injEq, and_true] at hb'
  obtain ⟨rfl, rfl⟩ := hb'
  obtain ⟨hl1, hl2⟩ := hzip.lens
  obtain ⟨vs, rfl⟩ := ones_of fun d hd => (hzip.sizes d hd).trans hsz
  rw [flat_ones] at hc
  rw [List.length_map] at hl1
  have hvl : vs.length = n := hl1.trans e1
  have hfl : fps.length = n := hl2.trans e1
  haveI : Inhabited (Fin n) := ⟨⟨0, by omega⟩⟩
  let enc : Fin n → Value := fun k => vs[k.val]'(by omega)
  let ltF : Fin n → Fin n → Bool := fun a b => lt (xs[a.val]'(by omega)) (xs[b.val]'(by omega))
  have hOF : Sort.SWO ltF := ⟨fun x => hO.irrefl _, fun x y z => hO.trans _ _ _, fun x y z => hO.ntrans _ _ _⟩
  have hds : (List.finRange n).toArray.size = n := by simp
  have hdj : ∀ j (hj : j < n), (List.finRange n).toArray[j]! = ⟨j, hj⟩ := fun j hj => by rw [getElem!_pos _ j (by simpa using hj)]; simp
  have hH : Sort.Holds enc w blk off (List.finRange n).toArray := fun j hj => by
    rw [hds] at hj
    rw [hdj j hj]
    exact ⟨hc j _ (List.getElem?_eq_getElem (by omega)), hfr rfl _⟩
  have hone : ∀ k, (enc k).oneCell' = true := fun k => hzip.one _ (by rw [flat_ones]; exact List.getElem_mem _)
  have hne : ∀ k ∈ fps.flatten, k ≠ blk := fun k hk e => (List.nodup_cons.1 hnd).1 (e ▸ hk)
  -- what a world holds whose row has been laid anew
  have hrow : ∀ (z : Bool) (m : Nat) (dk : Array (Fin n)) (os : Array Obj), dk.size = n → Rep.rep true (Sort.grow (Sort.putRow enc (Sort.ahead w m) blk off dk) os) [.slice (some ⟨blk, off, none⟩) n cap] (dk.toList.map fun k => xs[k.val]'(by omega)) (blk :: (dk.toList.map fun k => fps[k.val]'(by omega)).flatten) := by
    intro z m dk os hdk
    have hHd : Sort.Holds enc (Sort.ahead w m) blk off (List.finRange n).toArray := Sort.holds_ahead _ _ _ _ _ _ hH
    have hZ := Zip.pick hzip n (by simpa using hvl) e1 hfl dk.toList
    have hsub : ∀ k ∈ (dk.toList.map fun k => fps[k.val]'(by omega)).flatten, k ∈ fps.flatten := by
      intro k hk
      obtain ⟨l, hl, hkl⟩ := List.mem_flatten.1 hk
      obtain ⟨q, _, rfl⟩ := List.mem_map.1 hl
      exact List.mem_flatten.2 ⟨_, List.getElem_mem _, hkl⟩
    refine ⟨_, rfl, some ⟨blk, off, none⟩, n, cap, rfl, by simpa using hdk, e2, e3, (fun h => by cases h), .inr ⟨blk, off, _, _, rfl, Nat.lt_of_lt_of_le hb (size_putRow enc w m blk off dk os), rfl, hZ.keep ?_, ?_, ?_⟩⟩
    · intro k hk
      have hk' := hsub k hk
      exact heap_putRow enc w m blk off dk os (hzip.lt k hk') (hne k hk')
    · intro j c hj
      have e : (dk.toList.map fun k => (vs.map fun v => [v])[k.val]'(by simp; omega)) = (dk.toList.map enc).map fun v => [v] := by
        rw [List.map_map]
        apply List.map_congr_left
        intro k _
        simp [enc]
      rw [e, flat_ones] at hj
      have hjl : j < n := by have := (List.getElem?_eq_some_iff.1 hj).1; simp at this; omega
      rw [List.getElem?_map, List.getElem?_eq_getElem (by simpa using (by omega : j < dk.size))] at hj
      simp only [Option.map_some, Option.some.injEq] at hj
      rw [Sort.cell?_grow _ _ _ (by show blk < _; unfold Sort.putRow Sort.mapBlock Sort.ahead; simpa using hb)]
      have := Sort.cell?_putRow enc (Sort.ahead w m) blk off (List.finRange n).toArray dk hHd (by rw [hds]; exact hdk) j (by omega)
      rw [this, ← hj, getElem!_pos dk j (by omega)]
      simp
    · intro _ o
      rw [Sort.frozen?_grow _ _ _ (by show blk < _; unfold Sort.putRow Sort.mapBlock Sort.ahead; simpa using hb)]
      have hb2 := hfr rfl o
      unfold World.frozen? Sort.putRow Sort.mapBlock Sort.ahead at *
      simp only [Array.getElem?_modify, if_true] at *
      cases hh : w.heap[blk]? with
      | none => simp
      | some ob =>
        rw [hh] at hb2
        cases ob <;> simp_all [Sort.onCells]
  have hLR : LessReads P g lb enc ltF blk off (List.finRange n).toArray.size w := by
    intro m os dk hs i j hi hj
    rw [hds] at hs hi hj
    have hR := hrow true m dk os hs
    have hl : (dk.toList.map fun k => xs[k.val]'(by omega)).length = n := by simpa using hs
    have := hless (Sort.grow (Sort.putRow enc (Sort.ahead w m) blk off dk) os) _ (hl.trans e1.symm) (fun y hy => by
      obtain ⟨k, _, rfl⟩ := List.mem_map.1 hy
      exact List.getElem_mem _) (size_putRow enc w m blk off dk os) (fun b h1 h2 => heap_putRow enc w m blk off dk os h1 h2) ⟨_, Rep.weak hR, fun b hb => ⟨Nat.zero_le _, Rep.lt hR b hb⟩⟩ i j (by omega) (by omega)
    refine this.mono fun e w' h => ?_
    obtain ⟨he, q, hw⟩ := h
    refine ⟨?_, q, hw⟩
    rw [he]
    simp only [List.getElem_map, ltF]
    rw [getElem!_pos dk i (by omega), getElem!_pos dk j (by omega)]
    simp
  have hS := Any.sort_Slice_sorted L t e i ie hi hd hpk hie ke hke hs1 hagg enc hone ltF hOF g lb eg blk off cap (List.finRange n).toArray (by rw [hds]; exact h2) (by rw [hds]; exact hbig) f (by rw [hds]; exact hf) gS hx w hLR hH hb
  rw [hds] at hS
  refine hS.mono ?_
  rintro e w' ⟨rfl, d', m, os, hp, hso, rfl⟩
  obtain ⟨hp1, _, hp3⟩ := hp
  rw [hds] at hp1
  have hpl : d'.toList.Perm (List.finRange n) := by
    have x1 : d'.extract 0 n = d' := Array.extract_eq_self_of_le (by omega)
    have x2 : (List.finRange n).toArray.extract 0 n = (List.finRange n).toArray := Array.extract_eq_self_of_le (by omega)
    rw [x1, x2] at hp3
    simpa using hp3
  have hperm : (d'.toList.map fun k => xs[k.val]'(by omega)).Perm xs := by
    have := hpl.map fun k : Fin n => xs[k.val]'(by omega)
    rwa [pick_all xs n e1] at this
  have hpf : (d'.toList.map fun k => fps[k.val]'(by omega)).Perm fps := by
    have := hpl.map fun k : Fin n => fps[k.val]'(by omega)
    rwa [pick_all fps n hfl] at this
  refine ⟨rfl, _, hperm, ?_, ⟨_, hrow true m d' os hp1, fun b hb => ?_, ?_⟩, ?_⟩
  · rw [List.pairwise_iff_getElem]
    intro i j hi hj hij
    have hi' : i < d'.size := by simpa using hi
    have hj' : j < d'.size := by simpa using hj
    have := hso i j (Nat.zero_le _) hij (by omega)
    rw [getElem!_pos d' j hj', getElem!_pos d' i hi'] at this
    simpa [ltF] using this
  · rcases List.mem_cons.1 hb with rfl | hb
    · exact hz _ (by simp)
    · exact hz b (List.mem_cons_of_mem _ (hpf.flatten.mem_iff.1 hb))
  · rw [List.nodup_cons] at hnd ⊢
    exact ⟨fun h => hnd.1 (hpf.flatten.mem_iff.1 h), hpf.flatten.nodup_iff.2 hnd.2⟩
  · exact ⟨rfl, rfl, rfl, size_putRow enc w m blk off d' os, fun b h1 h2 => heap_putRow enc w m blk off d' os h1 (by simpa using h2)⟩

theorem sort_few (L : LaysGg.n6 P ρ) (t e : TypeId) (i ie : TypeInfo) (hi : P.info? t = some i) (hd : i.desc = .slice e) (hpk : P.packed t = false) (hie : P.info? e = some ie) (ke : Nat) (hke : ∀ w, (Extern.Rtype.kind e).run P w = .ok ke w)
    (lt : α → α → Bool) (lf : Fn) (la lb : Array Value) (f : Nat) (ao : Option Addr) (n cap : Nat) (h1 : n ≤ 1) (hf : P.funcs.findIdx? (·.name == "internal/reflectlite" ++ ".Swapper$" ++ toString (Lib.swapperK n ie ke)) = some f)
    {lo up : Nat} (w : World) (xs : List α) (fp : List Nat) (hown : Ow lo up w [.slice ao n cap] xs) :
    Calls P (ρ.f 6) #[.iface t (.slice ao n cap), .func lf la lb] w (PostSrt lt lo up w fp (.slice ao n cap) xs) := by
  refine (Any.sort_Slice_tiny L t e i ie hi hd hpk hie ke hke ao n cap h1 f hf lf la lb w).mono ?_
  rintro e w' ⟨rfl, os, rfl⟩
  have hb : Below w.heap.size w (Sort.grow w os) := ⟨rfl, rfl, rfl, by simp, fun b hb => Sort.heap_grow_old w os hb⟩
  obtain ⟨ao', n', cap', e, hn, -⟩ := hown.rd.shape
  simp only [Value.slice.injEq] at e
  obtain ⟨rfl, rfl, rfl⟩ := e
  refine ⟨rfl, xs, List.Perm.refl _, ?_, hown.below hb, ⟨rfl, rfl, rfl, hb.size, fun b h _ => hb.block b h⟩⟩
  match xs, hn with
  | [], _ => exact List.Pairwise.nil
  | [x], _ => exact List.pairwise_singleton _ _
  | _ :: _ :: _, hn => simp at hn; omega
end
end Go.Proofs.Ytoipdgoejichbaa
