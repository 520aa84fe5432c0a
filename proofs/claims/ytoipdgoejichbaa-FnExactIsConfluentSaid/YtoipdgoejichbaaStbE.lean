/- Ours: sort.SliceStable at owned items, where the comparison may lay blocks of its own: the row ends as the library's own stable sort leaves it: a permutation. -/
import Derived.Test.YtoipdgoejichbaaStbL
import Derived.Test.YtoipdgoejichbaaShfT
import Derived.Shelf.GgSortMore.Stable
namespace Go.Proofs.Ytoipdgoejichbaa
set_option linter.unusedVariables false
set_option linter.unusedSimpArgs false
open Go.RowKit Go.Shelf

section
variable {α : Type} [Rep α]
/-- What the comparison must do, wherever the sort stands: compare two of what the row holds; of what lies it turns nothing. -/
def LessS (P : Program) (g : Nat) (lb : Array Value) (lt : α → α → Bool) (w : World) (blk : Nat) (v : Value) (xs : List α) : Prop :=
  ∀ (W : World) (ys : List α), ys.length = xs.length → (∀ y ∈ ys, y ∈ xs) → OffF [blk] w W → Rd false 0 W.heap.size W [v] ys →
    ∀ (i j : Nat) (hi : i < ys.length) (hj : j < ys.length), Calls P g (#[.int .i64 i, .int .i64 j] ++ lb) W (PostB W (lt ys[i] ys[j]))
/-- The items are as they were but for their order, which is the stable sort's; the row's block alone has turned. -/
def PostStb (lt : α → α → Bool) (lo hi : Nat) (w : World) (fp : List Nat) (v : Value) (xs : List α) (e : Ending) (w' : World) : Prop :=
  e = .returned (.tuple #[]) ∧ ∃ ys : List α, ys.Perm xs ∧ (∃ (n : Nat) (inh : Inhabited (Fin n)) (h : xs.length = n), ys = (@stableA (Fin n) inh (fun a b : Fin n => lt (xs[a.val]'(by omega)) (xs[b.val]'(by omega))) n (List.finRange n).toArray).toList.map fun k => xs[k.val]'(by omega)) ∧ Ow lo hi w' [v] ys ∧ OffF fp w w'
set_option maxHeartbeats 2000000 in
theorem stable_lays (t e : TypeId) (i ie : TypeInfo) (hi : Try.prog.info? t = some i) (hd : i.desc = .slice e) (hpk : Try.prog.packed t = false) (hie : Try.prog.info? e = some ie) (ke : Nat) (hke : ∀ w, (Extern.Rtype.kind e).run Try.prog w = .ok ke w)
    (hs1 : ie.size = Rep.sz α) (h0 : 0 < Rep.sz α) (hagg : ∀ w, (isAgg e).run Try.prog w = .ok true w) (lt : α → α → Bool) (g : Nat) (lb : Array Value)
    (eg : ∀ args w, (callFunc g args).run Try.prog w = .ok (.enter g args) w) (f : Nat) (n : Nat) (h2 : 2 ≤ n) (hbig : n ≤ 1000000) (hf : Try.prog.funcs.findIdx? (·.name == "internal/reflectlite" ++ ".Swapper$" ++ toString (Lib.swapperK n ie ke)) = some f)
    (gS : Bool) (hx : ∀ args W, (callFunc f args).run Try.prog W = ((Extern.ReflectliteSwapper.swap gS args).run Try.prog W).andThen fun v w' => .ok (.value v) w')
    {lo up : Nat} (w : World) (blk off cap : Nat) (xs : List α)
    (hown : Ow lo up w [.slice (some ⟨blk, off, none⟩) n cap] xs) (hless : LessS Try.prog g lb lt w blk (.slice (some ⟨blk, off, none⟩) n cap) xs) :
    Calls Try.prog 76 #[.iface t (.slice (some ⟨blk, off, none⟩) n cap), .func (.func g) #[] lb] w (PostStb lt lo up w [blk] (.slice (some ⟨blk, off, none⟩) n cap) xs) := by
  obtain ⟨fp, ⟨v1, hv1, ao, n', cap', rfl, e1, e2, e3, e4, hr⟩, hz, hnd⟩ := hown
  simp only [List.cons.injEq, and_true, Value.slice.injEq] at hv1
  obtain ⟨rfl, rfl, rfl⟩ := hv1
  rcases hr with ⟨hr0, _⟩ | ⟨b, off', css, fps, hb', hb, rfl, hzip, hc, hfr⟩
  · omega
  simp only [Option.some.injEq, Addr.mk.injEq, and_true] at hb'
  obtain ⟨rfl, rfl⟩ := hb'
  obtain ⟨hl1, hl2⟩ := hzip.lens
  have hvl : css.length = n := hl1.trans e1
  have hfl : fps.length = n := hl2.trans e1
  letI inh : Inhabited (Fin n) := ⟨⟨0, by omega⟩⟩
  let enc : Fin n → List Value := fun k => css[k.val]'(by omega)
  let K := Rep.sz α
  have hk : ∀ x, (enc x).length = K := fun x => hzip.sizes _ (List.getElem_mem _)
  let ltF : Fin n → Fin n → Bool := fun a b => lt (xs[a.val]'(by omega)) (xs[b.val]'(by omega))
  have hds : (List.finRange n).toArray.size = n := by simp
  have hall : (List.finRange n).toArray.toList.map enc = css := by
    show (List.finRange n).map enc = css
    exact pick_all css n hvl
  have hR0 : RowAt enc K w blk off (List.finRange n).toArray w := ⟨fun j hj => by
    rw [Sort.size_flatK] at hj
    have := flatK_at enc K hk h0 (List.finRange n).toArray j hj
    rw [hall] at this
    exact ⟨hc j _ this, hfr rfl _⟩, hfr rfl, OffF.refl _ _⟩
  have hone : ∀ k, ∀ v ∈ enc k, v.oneCell' = true := fun k v hv => hzip.one _ (List.mem_flatten.2 ⟨_, List.getElem_mem _, hv⟩)
  have hne : ∀ k ∈ fps.flatten, k ≠ blk := fun k hk e => (List.nodup_cons.1 hnd).1 (e ▸ hk)
  -- what a world holds whose row has been laid anew
  have hrow : ∀ (W : World) (dk : Array (Fin n)), RowAt enc K w blk off dk W → dk.size = n → Rep.rep true W [.slice (some ⟨blk, off, none⟩) n cap] (dk.toList.map fun k => xs[k.val]'(by omega)) (blk :: (dk.toList.map fun k => fps[k.val]'(by omega)).flatten) := by
    intro W dk hRA hdk
    have hZ := Zip.pick hzip n hvl e1 hfl dk.toList
    have hsub : ∀ k ∈ (dk.toList.map fun k => fps[k.val]'(by omega)).flatten, k ∈ fps.flatten := by
      intro k hk
      obtain ⟨l, hl, hkl⟩ := List.mem_flatten.1 hk
      obtain ⟨q, _, rfl⟩ := List.mem_map.1 hl
      exact List.mem_flatten.2 ⟨_, List.getElem_mem _, hkl⟩
    refine ⟨_, rfl, some ⟨blk, off, none⟩, n, cap, rfl, by simpa using hdk, e2, e3, (fun h => by cases h), .inr ⟨blk, off, _, _, rfl, Nat.lt_of_lt_of_le hb hRA.off.size, rfl, hZ.keep ?_, ?_, fun _ o => hRA.frz o⟩⟩
    · intro k hk
      have hk' := hsub k hk
      exact hRA.off.block k (hzip.lt k hk') (by simpa using hne k hk')
    · intro j c hj
      have hjl : j < dk.size * K := by
        have h1 := (List.getElem?_eq_some_iff.1 hj).1
        have h3 : ∀ l : List (Fin n), ((l.map enc).flatten).length = l.length * K := by
          intro l
          induction l with
          | nil => simp
          | cons x l ih => rw [List.map_cons, List.flatten_cons, List.length_append, ih, hk]; simp [Nat.add_mul]; omega
        have h4 := h3 dk.toList
        have h5 : (dk.toList.map enc).flatten.length = dk.size * K := by simpa using h4
        rw [← h5]; exact h1
      have h6 := flatK_at enc K hk h0 dk j hjl
      have h7 : some c = some (Sort.flatK enc K dk)[j]! := hj.symm.trans h6
      rw [Option.some.inj h7]
      exact (hRA.holds j (by rw [Sort.size_flatK]; exact hjl)).1
  have hLG : LessG Try.prog g lb enc K ltF w blk off n := by
    intro W dk hRA hs i j hi hj
    have hR := hrow W dk hRA hs
    have hl : (dk.toList.map fun k => xs[k.val]'(by omega)).length = n := by simpa using hs
    have := hless W _ (hl.trans e1.symm) (fun y hy => by
      obtain ⟨k, _, rfl⟩ := List.mem_map.1 hy
      exact List.getElem_mem _) hRA.off ⟨_, Rep.weak hR, fun b hb => ⟨Nat.zero_le _, Rep.lt hR b hb⟩⟩ i j (by omega) (by omega)
    refine this.mono fun e w' h => ?_
    obtain ⟨he, hw⟩ := h
    refine ⟨?_, hw⟩
    rw [he]
    simp only [List.getElem_map, ltF]
    rw [getElem!_pos dk i (by omega), getElem!_pos dk j (by omega)]
    simp
  have hbnd : sliceBound Try.prog e ie ke (some ⟨blk, off, none⟩) n cap = #[.slice (some ⟨blk, off, none⟩) n cap, typeHandle Try.prog e] := by
    unfold sliceBound; rw [if_neg (swapperK_gt _ _ _ h2)]
  have hS := Any.sort_SliceStable_of_stable ss8 t e i ie hi hd hpk hie ke hke (some ⟨blk, off, none⟩) n cap (by omega) f hf (.func g) #[] lb w (fun w' => RowAt enc K w blk off (stableA ltF n (List.finRange n).toArray) w') (by
    rw [hbnd]
    generalize hW : stableWorld _ _ _ _ _ _ _ = W
    have hbW : Below w.heap.size w W := by
      rw [← hW]
      unfold stableWorld
      first | exact ((Below.refl _ _).alloc (Nat.le_refl _) _).alloc (by simp) _ | exact (Below.refl _ _).alloc (Nat.le_refl _) _
    have hRW := hR0.below hbW hb
    refine Calls.mono (stb_any enc K hk ltF g lb f #[.slice (some ⟨blk, off, none⟩) n cap, typeHandle Try.prog e] blk off eg n hbig (swapSwapsK_of_literal gS f hx e ie hie enc K hk hs1 hagg hone blk off n cap) (List.finRange n).toArray W hds (hLG.on hRW) hRW.here (hRW.lt hb)) ?_
    rintro e w' ⟨rfl, hr⟩
    exact ⟨rfl, hRW.on hr⟩)
  refine hS.mono ?_
  rintro e w' ⟨rfl, hRA⟩
  have hp1 : (stableA ltF n (List.finRange n).toArray).size = n := by rw [stable_size]; exact hds
  have hpl : (stableA ltF n (List.finRange n).toArray).toList.Perm (List.finRange n) := stable_perm ltF n _ hds
  refine ⟨rfl, (stableA ltF n (List.finRange n).toArray).toList.map fun k => xs[k.val]'(by omega), ?_, ⟨n, inh, e1, rfl⟩, ⟨_, hrow w' _ hRA hp1, fun b hb => ?_, ?_⟩, hRA.off⟩
  · have := hpl.map fun k : Fin n => xs[k.val]'(by omega)
    rwa [pick_all xs n e1] at this
  all_goals
    have hpf : ((stableA ltF n (List.finRange n).toArray).toList.map fun k => fps[k.val]'(by omega)).Perm fps := by
      have := hpl.map fun k : Fin n => fps[k.val]'(by omega)
      rwa [pick_all fps n hfl] at this
  · rcases List.mem_cons.1 hb with rfl | hb
    · exact hz _ (by simp)
    · exact hz b (List.mem_cons_of_mem _ (hpf.flatten.mem_iff.1 hb))
  · rw [List.nodup_cons] at hnd ⊢
    exact ⟨fun h => hnd.1 (hpf.flatten.mem_iff.1 h), hpf.flatten.nodup_iff.2 hnd.2⟩
end
end Go.Proofs.Ytoipdgoejichbaa
