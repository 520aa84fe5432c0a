/- Ours: the library's sort.Slice at a slice of items of many cells that the call owns: a permutation of the items, sorted; its own row alone turns. No function of the program is named here. -/
import Derived.Test.YtoipdgoejichbaaSort
import Derived.Shelf.SlSortFuncK.WholeK
namespace Go.Proofs.Ytoipdgoejichbaa
set_option linter.unusedVariables false
set_option linter.unusedSimpArgs false
open Go.RowKit Go.Shelf

theorem flat_get {α : Type} (enc : α → List Value) (k : Nat) (hk : ∀ x, (enc x).length = k) (h0 : 0 < k) : ∀ (l : List α) (j : Nat), ((l.map enc).flatten)[j]? = (l[j / k]?).bind fun x => (enc x)[j % k]?
  | [], j => by simp
  | x :: l, j => by
    rw [List.map_cons, List.flatten_cons]
    by_cases hj : j < k
    · rw [List.getElem?_append_left (by rw [hk]; exact hj), Nat.div_eq_of_lt hj, Nat.mod_eq_of_lt hj]
      rfl
    · have hj' : k ≤ j := by omega
      rw [List.getElem?_append_right (by rw [hk]; exact hj'), hk, flat_get enc k hk h0 l (j - k)]
      have e1 : j / k = (j - k) / k + 1 := by rw [Nat.div_eq_sub_div h0 hj']
      have e2 : j % k = (j - k) % k := Nat.mod_eq_sub_mod hj'
      rw [e1, e2]
      rfl
theorem flatK_at {α : Type} [Inhabited α] (enc : α → List Value) (k : Nat) (hk : ∀ x, (enc x).length = k) (h0 : 0 < k) (d : Array α) (j : Nat) (hj : j < d.size * k) : ((d.toList.map enc).flatten)[j]? = some (Sort.flatK enc k d)[j]! := by
  have h1 : j / k < d.size := (Nat.div_lt_iff_lt_mul h0).2 hj
  have h2 : j % k < k := Nat.mod_lt _ h0
  rw [flat_get enc k hk h0, Sort.get_flatK _ _ _ _ hj, List.getElem?_eq_getElem (by simpa using h1)]
  simp only [Option.bind_some, Array.getElem_toList]
  rw [getElem!_pos d (j / k) h1, List.getElem?_eq_getElem (by rw [hk]; exact h2), getElem!_pos (enc d[j / k]) (j % k) (by rw [hk]; exact h2)]
section
variable {P : Program} {ρ : Ren} {α : Type} [Rep α]
set_option maxHeartbeats 2000000 in
theorem sort_manyK (L : LaysGg.n6 P ρ) (t e : TypeId) (i ie : TypeInfo) (hi : P.info? t = some i) (hd : i.desc = .slice e) (hpk : P.packed t = false) (hie : P.info? e = some ie) (ke : Nat) (hke : ∀ w, (Extern.Rtype.kind e).run P w = .ok ke w)
    (hs1 : ie.size = Rep.sz α) (h0 : 0 < Rep.sz α) (hagg : ∀ w, (isAgg e).run P w = .ok true w) (lt : α → α → Bool) (hO : Wo lt) (g : Nat) (lb : Array Value)
    (eg : ∀ args w, (callFunc g args).run P w = .ok (.enter g args) w) (f : Nat) (n : Nat) (h2 : 2 ≤ n) (hf : P.funcs.findIdx? (·.name == "internal/reflectlite" ++ ".Swapper$" ++ toString (Lib.swapperK n ie ke)) = some f)
    (gS : Bool) (hx : ∀ args W, (callFunc f args).run P W = ((Extern.ReflectliteSwapper.swap gS args).run P W).andThen fun v w' => .ok (.value v) w')
    {lo up : Nat} (w : World) (blk off cap : Nat) (xs : List α) (hbig : n < 4611686018427387904)
    (hown : Ow lo up w [.slice (some ⟨blk, off, none⟩) n cap] xs) (hless : LessOk P g lb lt w blk (.slice (some ⟨blk, off, none⟩) n cap) xs) :
    Calls P (ρ.f 6) #[.iface t (.slice (some ⟨blk, off, none⟩) n cap), .func (.func g) #[] lb] w (PostSrt lt lo up w [blk] (.slice (some ⟨blk, off, none⟩) n cap) xs) := by
  obtain ⟨fp, ⟨v1, hv1, ao, n', cap', rfl, e1, e2, e3, e4, hr⟩, hz, hnd⟩ := hown
  simp only [List.cons.injEq, and_true, Value.slice.injEq] at hv1
  obtain ⟨rfl, rfl, rfl⟩ := hv1
  rcases hr with ⟨hr0, _⟩ | ⟨b, off', css, fps, hb', hb, rfl, hzip, hc, hfr⟩
  · omega
  simp only [Option.some.injEq, Addr.mk.injEq, and_true] at hb'
  obtain ⟨rfl, rfl⟩ := hb'
  obtain ⟨hl1, hl2⟩ := hzip.lens
  have hvl : css.length = n := hl1.trans e1
  have hfl : fps.length = n := hl2.trans e1
  haveI : Inhabited (Fin n) := ⟨⟨0, by omega⟩⟩
  let enc : Fin n → List Value := fun k => css[k.val]'(by omega)
  let K := Rep.sz α
  have hk : ∀ x, (enc x).length = K := fun x => hzip.sizes _ (List.getElem_mem _)
  let ltF : Fin n → Fin n → Bool := fun a b => lt (xs[a.val]'(by omega)) (xs[b.val]'(by omega))
  have hOF : Sort.SWO ltF := ⟨fun x => hO.irrefl _, fun x y z => hO.trans _ _ _, fun x y z => hO.ntrans _ _ _⟩
  have hds : (List.finRange n).toArray.size = n := by simp
  have hall : (List.finRange n).toArray.toList.map enc = css := by
    show (List.finRange n).map enc = css
    exact pick_all css n hvl
  have hH : Sort.HoldsK enc K w blk off (List.finRange n).toArray := fun j hj => by
    rw [Sort.size_flatK] at hj
    have := flatK_at enc K hk h0 (List.finRange n).toArray j hj
    rw [hall] at this
    exact ⟨hc j _ this, hfr rfl _⟩
  have hone : ∀ k, ∀ v ∈ enc k, v.oneCell' = true := fun k v hv => hzip.one _ (List.mem_flatten.2 ⟨_, List.getElem_mem _, hv⟩)
  have hne : ∀ k ∈ fps.flatten, k ≠ blk := fun k hk e => (List.nodup_cons.1 hnd).1 (e ▸ hk)
  have heap1 : ∀ (m : Nat) (dk : Array (Fin n)) (os : Array Obj) (b : Nat), b < w.heap.size → b ≠ blk → (sortWorldK enc K w blk off m dk os).heap[b]? = w.heap[b]? := fun m dk os b h1 h2 => heap_putRow id w m blk off (Sort.flatK enc K dk) os h1 h2
  have size1 : ∀ (m : Nat) (dk : Array (Fin n)) (os : Array Obj), w.heap.size ≤ (sortWorldK enc K w blk off m dk os).heap.size := fun m dk os => size_putRow id w m blk off (Sort.flatK enc K dk) os
  -- what a world holds whose row has been laid anew
  have hrow : ∀ (m : Nat) (dk : Array (Fin n)) (os : Array Obj), dk.size = n → Rep.rep true (sortWorldK enc K w blk off m dk os) [.slice (some ⟨blk, off, none⟩) n cap] (dk.toList.map fun k => xs[k.val]'(by omega)) (blk :: (dk.toList.map fun k => fps[k.val]'(by omega)).flatten) := by
    intro m dk os hdk
    have hZ := Zip.pick hzip n hvl e1 hfl dk.toList
    have hsub : ∀ k ∈ (dk.toList.map fun k => fps[k.val]'(by omega)).flatten, k ∈ fps.flatten := by
      intro k hk
      obtain ⟨l, hl, hkl⟩ := List.mem_flatten.1 hk
      obtain ⟨q, _, rfl⟩ := List.mem_map.1 hl
      exact List.mem_flatten.2 ⟨_, List.getElem_mem _, hkl⟩
    refine ⟨_, rfl, some ⟨blk, off, none⟩, n, cap, rfl, by simpa using hdk, e2, e3, (fun h => by cases h), .inr ⟨blk, off, _, _, rfl, Nat.lt_of_lt_of_le hb (size1 m dk os), rfl, hZ.keep ?_, ?_, ?_⟩⟩
    · intro k hk
      have hk' := hsub k hk
      exact heap1 m dk os k (hzip.lt k hk') (hne k hk')
    · intro j c hj
      have hjl : j < dk.size * K := by
        have h1 := (List.getElem?_eq_some_iff.1 hj).1
        have h3 : ∀ l : List (Fin n), ((l.map enc).flatten).length = l.length * K := by
          intro l
          induction l with
          | nil => simp
          | cons x l ih => rw [List.map_cons, List.flatten_cons, List.length_append, ih, hk]; simp [Nat.add_mul]; omega
        have h4 := h3 dk.toList
        have h5 : (dk.toList.map enc).flatten.length = dk.size * K := by simpa using h4
        rw [← h5]; exact h1
      have h6 := flatK_at enc K hk h0 dk j hjl
      have h7 : some c = some (Sort.flatK enc K dk)[j]! := hj.symm.trans h6
      have h8 := Option.some.inj h7
      have hHd : Sort.Holds id (Sort.ahead w m) blk off (Sort.flatK enc K (List.finRange n).toArray) := Sort.holds_ahead _ _ _ _ _ _ hH
      unfold sortWorldK Sort.putRowK
      rw [Sort.cell?_grow _ _ _ (by show blk < _; unfold Sort.putRow Sort.mapBlock Sort.ahead; simpa using hb)]
      have := Sort.cell?_putRow id (Sort.ahead w m) blk off _ (Sort.flatK enc K dk) hHd (by rw [Sort.size_flatK, Sort.size_flatK, hds, hdk]) j (by rw [Sort.size_flatK]; exact hjl)
      rw [this, h8]; rfl
    · intro _ o
      unfold sortWorldK Sort.putRowK
      rw [Sort.frozen?_grow _ _ _ (by show blk < _; unfold Sort.putRow Sort.mapBlock Sort.ahead; simpa using hb)]
      have hb2 := hfr rfl o
      unfold World.frozen? Sort.putRow Sort.mapBlock Sort.ahead at *
      simp only [Array.getElem?_modify, if_true] at *
      cases hh : w.heap[blk]? with
      | none => simp
      | some ob =>
        rw [hh] at hb2
        cases ob <;> simp_all [Sort.onCells]
  have hLR : LessReadsK P g lb enc K ltF blk off (List.finRange n).toArray.size w := by
    intro m os dk hs i j hi hj
    rw [hds] at hs hi hj
    have hR := hrow m dk os hs
    have hl : (dk.toList.map fun k => xs[k.val]'(by omega)).length = n := by simpa using hs
    have := hless (sortWorldK enc K w blk off m dk os) _ (hl.trans e1.symm) (fun y hy => by
      obtain ⟨k, _, rfl⟩ := List.mem_map.1 hy
      exact List.getElem_mem _) (size1 m dk os) (fun b h1 h2 => heap1 m dk os b h1 h2) ⟨_, Rep.weak hR, fun b hb => ⟨Nat.zero_le _, Rep.lt hR b hb⟩⟩ i j (by omega) (by omega)
    refine this.mono fun e w' h => ?_
    obtain ⟨he, q, hw⟩ := h
    refine ⟨?_, q, hw⟩
    rw [he]
    simp only [List.getElem_map, ltF]
    rw [getElem!_pos dk i (by omega), getElem!_pos dk j (by omega)]
    simp
  have hS := Any.sort_Slice_cells_sorted L t e i ie hi hd hpk hie ke hke enc K hk hs1 hagg hone ltF hOF g lb eg blk off cap (List.finRange n).toArray (by rw [hds]; exact h2) (by rw [hds]; exact hbig) f (by rw [hds]; exact hf) gS hx w hLR hH hb
  rw [hds] at hS
  refine hS.mono ?_
  rintro e w' ⟨rfl, d', m, os, hp, hso, rfl⟩
  obtain ⟨hp1, _, hp3⟩ := hp
  rw [hds] at hp1
  have hpl : d'.toList.Perm (List.finRange n) := by
    have x1 : d'.extract 0 n = d' := Array.extract_eq_self_of_le (by omega)
    have x2 : (List.finRange n).toArray.extract 0 n = (List.finRange n).toArray := Array.extract_eq_self_of_le (by omega)
    rw [x1, x2] at hp3
    simpa using hp3
  have hperm : (d'.toList.map fun k => xs[k.val]'(by omega)).Perm xs := by
    have := hpl.map fun k : Fin n => xs[k.val]'(by omega)
    rwa [pick_all xs n e1] at this
  have hpf : (d'.toList.map fun k => fps[k.val]'(by omega)).Perm fps := by
    have := hpl.map fun k : Fin n => fps[k.val]'(by omega)
    rwa [pick_all fps n hfl] at this
  refine ⟨rfl, _, hperm, ?_, ⟨_, hrow m d' os hp1, fun b hb => ?_, ?_⟩, ?_⟩
  · rw [List.pairwise_iff_getElem]
    intro i j hi hj hij
    have hi' : i < d'.size := by simpa using hi
    have hj' : j < d'.size := by simpa using hj
    have := hso i j (Nat.zero_le _) hij (by omega)
    rw [getElem!_pos d' j hj', getElem!_pos d' i hi'] at this
    simpa [ltF] using this
  · rcases List.mem_cons.1 hb with rfl | hb
    · exact hz _ (by simp)
    · exact hz b (List.mem_cons_of_mem _ (hpf.flatten.mem_iff.1 hb))
  · rw [List.nodup_cons] at hnd ⊢
    exact ⟨fun h => hnd.1 (hpf.flatten.mem_iff.1 h), hpf.flatten.nodup_iff.2 hnd.2⟩
  · exact ⟨rfl, rfl, rfl, size1 m d' os, fun b h1 h2 => heap1 m d' os b h1 (by simpa using h2)⟩
end
end Go.Proofs.Ytoipdgoejichbaa
