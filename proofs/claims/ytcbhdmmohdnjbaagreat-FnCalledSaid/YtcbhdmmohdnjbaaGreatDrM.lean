/- Texts laid one behind the other (merge.py): Lits, Opens, Bytes, Cur, Can, Shuf, Drw. -/
import Derived.Test.YtcbhdmmohdnjbaaGreatBase
import Derived.ProofKit
import Derived.Deep.Slices
import Derived.Test.YtcbhdmmohdnjbaaGreatGrpM
namespace Go.Proofs.YtcbhdmmohdnjbaaGreat
set_option linter.unusedVariables false
set_option linter.unusedSimpArgs false
open Go.RowKit
set_option maxHeartbeats 100000000
section
theorem zip_lits {z : Bool} {w : World} : ∀ (xs : List ByteArray), (∀ x ∈ xs, x.size ≤ maxLen) → Zip (Rep.rep z w) (xs.map fun x => [Value.string x]) xs (xs.map fun _ => [])
 | [], _ => trivial
 | x :: xs, h => ⟨⟨rfl, h x spT, rfl⟩, zip_lits xs fun y hy => h y (by simp [hy])⟩
theorem flat_lits : ∀ (xs : List ByteArray), (xs.map fun x => [Value.string x]).flatten = xs.map Value.string
 | [] => rfl
 | x :: xs => by simp [flat_lits xs]
theorem nil_lits : ∀ (xs : List ByteArray), (xs.map fun _ => ([] : List Nat)).flatten = []
 | [] => rfl
 | x :: xs => by simp [nil_lits xs]
theorem Ow.strs_lit0 (w : World) (E : TypeId) (xs : List ByteArray) (h : ∀ x ∈ xs, x.size ≤ maxLen) (hl : xs.length ≤ maxLen) :
  Ow w.heap.size (w.heap.size + 1) (w.alloc (.cells (xs.map Value.string).toArray E)) [.slice (some ⟨w.heap.size, 0, none⟩) xs.length xs.length] xs := by
 refine ⟨[w.heap.size], ⟨_, rfl, _, _, _, rfl, rfl, Nat.le_refl _, hl, (fun h => by cases h), .inr ⟨w.heap.size, 0, _, _, rfl, by simp, by rw [nil_lits], zip_lits xs h, ?_, ?_⟩⟩, fun b hb => by simp at hb; omega, by simp⟩
 ·intro j c hj
  rw [flat_lits] at hj
  simp only [Nat.zero_add]
  rw [World.cell?_alloc_new]
  simpa using hj
 ·intro _ o
  simp [go_sem]
end
section
open Go.ChangeShapes Go.WideShapes Go.RowKit
def Opens (P : Program) (t : TypeId) (α : Type) [Rep α] : Prop :=
 ∀ {H : Type} {enc : TypeId × Value → H} {w : World} {spare : Nat → Bool} {held : Bool} {fuel : Nat} {cs : List Value} {x : DataW H × List MemPlace},
   DataW.trod enc P w 0 spare held fuel t cs = some x → ∃ (y : α) (fp : List Nat), Rep.rep false w cs y fp
theorem zip_of_fn {α : Type} {R : List Value → α → List Nat → Prop} : ∀ (n : Nat) (f : Nat → List Value) (g : Nat → α) (k : Nat → List Nat), (∀ i, i < n → R (f i) (g i) (k i)) → Zip R ((List.range n).map f) ((List.range n).map g) ((List.range n).map k)
 | 0, _, _, _, _ => trivial
 | n + 1, f, g, k, h => by
   rw [List.range_succ, List.map_append, List.map_append, List.map_append]
   exact Zip.append (zip_of_fn n f g k (fun i hi => h i omT)) ⟨h n omT, trivial⟩
theorem flat_cell {s : Nat} : ∀ {css : List (List Value)}, (∀ d ∈ css, d.length = s) → 0 < s → ∀ {j : Nat} {c : Value}, css.flatten[j]? = some c → ∃ d, css[j / s]? = some d ∧ d[j % s]? = some c := by
 intro css hl hs j c h
 have hlen := length_flat hl
 have hj : j < css.flatten.length := (List.getElem?_eq_some_iff.1 h).1
 rw [hlen] at hj
 have hq : j / s < css.length := (Nat.div_lt_iff_lt_mul hs).2 hj
 refine ⟨css[j / s], List.getElem?_eq_getElem hq, ?_⟩
 have := cellsAt_flat hl (List.getElem?_eq_getElem hq) (j % s) (Nat.mod_lt _ hs)
 rw [Nat.mul_comm, Nat.div_add_mod] at this
 rw [← this]; exact h
theorem opens_slice {P : Program} {t e : TypeId} {α : Type} [Rep α] [Inhabited α] (ht : P.underlying t = some (.slice e)) (he : P.cellsOf e = Rep.sz α) (hsz : 0 < Rep.sz α) (ho : Opens P e α) : Opens P t (List α) := by
 intro H enc w spare held fuel cs x h
 rcases DataW.trod_slice ht h with ⟨rfl, _⟩ | ⟨a, len, cap, elems, rest, n, _, rfl, _, _, hl, hm, hlen, hel, _, _⟩
 ·exact ⟨[], [], _, rfl, none, 0, 0, rfl, rfl, Nat.le_refl _, by simp [maxLen], fun _ => rfl, .inl ⟨rfl, rfl⟩⟩
 ·by_cases h0 : len = 0
  ·subst h0
   exact ⟨[], [], _, rfl, some a, 0, cap, rfl, rfl, hl, hm, fun h => (by cases h), .inl ⟨rfl, rfl⟩⟩
  ·have each : ∀ i, i < len → ∃ q : List Value × α × List Nat, Rep.rep false w q.1 q.2.1 q.2.2 ∧ ∀ j, j < Rep.sz α → w.cell? ((a.add (i * Rep.sz α)).add j) = q.1[j]? := by
    intro i hi
    have h1 := hel i hi
    have h2 : elems[i]? = some elems[i] := List.getElem?_eq_getElem omT
    rw [h2, he] at h1
    obtain ⟨c, hc, hr⟩ := Option.bind_eq_some_iff.1 h1
    obtain ⟨y, fp, hy⟩ := ho hr
    refine ⟨⟨c, y, fp⟩, hy, fun j hj => ?_⟩
    exact (World.cells?_some hc).2.2 j hj
   obtain ⟨f, hf⟩ := Deep.choose_lt each
   have hspot : a.spot = none := by
    have hh := (hf 0 omT).2 0 hsz
    simp only [Nat.zero_mul] at hh
    have e0 : (a.add 0).add 0 = a := by simp [Addr.add]
    rw [e0] at hh
    have hl0 := Rep.len (hf 0 omT).1
    rw [List.getElem?_eq_getElem omT] at hh
    unfold World.cell? at hh
    split at hh
    ·split at hh
     ·cases hh
     ·rename_i hs; simpa using hs
    ·cases hh
   obtain ⟨b, off, sp⟩ := a
   simp only at hspot
   subst hspot
   have hb : b < w.heap.size := by
    have hh := (hf 0 omT).2 0 hsz
    have hl0 := Rep.len (hf 0 omT).1
    rw [List.getElem?_eq_getElem omT] at hh
    have := World.block_lt_of_cell? w _ hh
    simpa [Addr.add] using this
   have hzip := zip_of_fn (R := Rep.rep false w) len (fun i => (f i).1) (fun i => (f i).2.1) (fun i => (f i).2.2) (fun i hi => (hf i hi).1)
   refine ⟨(List.range len).map (fun i => (f i).2.1), b :: ((List.range len).map (fun i => (f i).2.2)).flatten, _, rfl, some ⟨b, off, none⟩, len, cap, rfl, by simp, hl, hm, fun h => (by cases h), .inr ⟨b, off, _, _, rfl, hb, rfl, hzip, fun j c hj => ?_, fun h => (by cases h)⟩⟩
   obtain ⟨d, hd, hdc⟩ := flat_cell hzip.sizes hsz hj
   have hq : j / Rep.sz α < len := by
    have := (List.getElem?_eq_some_iff.1 hd).1
    simpa using this
   have hd' : d = (f (j / Rep.sz α)).1 := by
    rw [List.getElem?_map, List.getElem?_range hq] at hd
    simpa using hd.symm
   subst hd'
   have := (hf _ hq).2 (j % Rep.sz α) (Nat.mod_lt _ hsz)
   rw [hdc, Deep.add_add] at this
   rw [Nat.mul_comm, Nat.div_add_mod] at this
   rw [← this]
   congr 1
   by_cases hj0 : j = 0
   ·subst hj0; simp [Addr.add]
   ·simp [Addr.add, hj0]
def OpensF (P : Program) (fs : List Field) (off N : Nat) (α : Type) [Rep α] : Prop :=
 ∀ {H : Type} {enc : TypeId × Value → H} {w : World} {spare : Nat → Bool} {held : Bool} {fuel : Nat} {cs : List Value},
   cs.length = N → (∀ f ∈ fs, ∃ x, DataW.trod enc P w 0 spare held fuel f.type ((cs.drop f.offset).take (P.cellsOf f.type)) = some x) → ∃ (y : α) (fp : List Nat), Rep.rep false w (cs.drop off) y fp
theorem opens_arg {P : Program} {t : TypeId} {α : Type} [Rep α] (ho : Opens P t α) {H : Type} {enc : TypeId × Value → H} {w : World} {spare : Nat → Bool} {held : Bool} {v : Value} {d : DataW H} {ps : List MemPlace}
  (h : DataW.Trod enc P w 0 spare held t v d ps) : ∃ x : α, Rd false 0 w.heap.size w v.cells.toList x := by
 obtain ⟨fuel, hf⟩ := h
 obtain ⟨y, fp, hy⟩ := ho hf
 exact ⟨y, fp, hy, fun b hb => ⟨Nat.zero_le _, Rep.lt hy b hb⟩⟩
end
section
open Go.RowKit Go.ChangeShapes Go.WideShapes
instance : FlatRep UInt8 where
 sz := 1
 rep _ _ cs x fp := cs = [.int .u8 x.toNat] ∧ fp = []
 weak h := h
 flat h := ⟨h.2, fun _ _ => ⟨h.1, rfl⟩⟩
 det h k := h.1.trans k.1.symm
 len h := by rw [h.1]; rfl
 one h := by rw [h.1]; intro c hc; simp at hc; subst hc; rfl
 lt h := by rw [h.2]; intro b hb; cases hb
 keep h _ := h
instance : Inhabited UInt8 := ⟨0⟩
theorem Rd.byte_at {z : Bool} {lo hi : Nat} {w : World} {xs : List UInt8} {ao : Option Addr} {n cap : Nat} (h : Rd z lo hi w [.slice ao n cap] xs) {i : Nat} (hi' : i < n) :
  ∃ (b off : Nat) (x : Int), ao = some ⟨b, off, none⟩ ∧ w.cell? ⟨b, off + i, none⟩ = some (.int .u8 x) ∧ 0 ≤ x ∧ x ≤ 255 ∧ b < w.heap.size ∧ b < hi := by
 obtain ⟨b, off, x, cs, e, hx, ⟨fp, ⟨rfl, _⟩, _⟩, _, h1, h2, h3, hc, hf⟩ := h.at hi'
 have := x.toNat_lt
 exact ⟨b, off, x.toNat, e, by have := hc 0 (.int .u8 x.toNat) rfl; simpa [Rep.sz] using this, by omega, by omega, h3, h2⟩
theorem opens_byte {P : Program} {t : TypeId} (ht : P.underlying t = some (.int .u8)) : Opens P t UInt8 := by
 intro H enc w spare held fuel cs x h
 obtain ⟨n, rfl, _, hw⟩ := DataW.trod_int ht h
 have hn : 0 ≤ n ∧ n ≤ 255 := by simp only [Lit.wf, IntKind.min, IntKind.max, IntKind.signed, IntKind.bits] at hw; simp at hw; omega
 refine ⟨UInt8.ofNat n.toNat, [], ?_, rfl⟩
 have : (UInt8.ofNat n.toNat).toNat = n.toNat := by simp; omega
 rw [this]
 have : ((n.toNat : Nat) : Int) = n := by omega
 rw [this]
theorem opBytes : Opens Tryz.prog 59 (List UInt8) := opens_slice Tryz.underlying59 krT (by decide) (opens_byte Tryz.underlying5)
def PostR (w : World) (lo hi : Int) (e : Ending) (w' : World) : Prop := ∃ r : Int, e = .returned (.int .i64 r) ∧ (lo ≤ r ∧ r ≤ hi) ∧ Below w.heap.size w w'
theorem at_any {z : Bool} {lo hi : Nat} (w : World) (v : Value) (xs : List UInt8) (h : Rd z lo hi w [v] xs) (hl : xs.length ≤ 1048576) (i : Int) (h0 : 0 ≤ i) (h1 : i ≤ 1000000) :
  Calls Tryz.prog 31 #[v, .int .i64 i] w (PostR w 0 255) := by
 obtain ⟨ao, n, cap, rfl, rfl, hnc, hcm, hnone⟩ := h.shape
 clear hnone
 unfold maxLen at *
 obtain ⟨m, rfl⟩ := Int.eq_ofNat_of_zero_le h0
 by_cases hlt : m < xs.length
 ·obtain ⟨b, off, x, rfl, hc, hx1, hx2, _⟩ := h.byte_at hlt
  clear h
  have hI : (m : Int) < (xs.length : Int) := by omega
  go_enter Tryz.func31, Tryz.ntmps31
  go_wp2
  go_ret
  exact ⟨_, rfl, ⟨hx1, hx2⟩, bwT⟩
 ·clear h
  have hI : ¬ (m : Int) < (xs.length : Int) := by omega
  obtain ⟨L, hL⟩ : ∃ L, L = xs.length := ⟨_, rfl⟩
  rw [← hL] at hl hI hnc ⊢
  clear hL hlt
  have w1 : wrap64 ((m : Int) * 37) = (m : Int) * 37 := IntWalk.wrap64_in _ omT
  have w2 : wrap64 ((L : Int) * 11) = (L : Int) * 11 := IntWalk.wrap64_in _ omT
  have w3 : wrap64 ((m : Int) * 37 + (L : Int) * 11) = (m : Int) * 37 + (L : Int) * 11 := IntWalk.wrap64_in _ omT
  go_enter Tryz.func31, Tryz.ntmps31
  go_wp2
  go_ret
  refine ⟨_, rfl, ?_, bwT⟩
  have := Int.tmod_eq_emod_of_nonneg (a := (m : Int) * 37 + (L : Int) * 11) (b := 256) omT
  omega
end
section
theorem bits_and_le (x m : Int) (h0 : 0 ≤ m) (h1 : m ≤ 9223372036854775807) : 0 ≤ bits BinOp.and IntKind.i64 x m ∧ bits BinOp.and IntKind.i64 x m ≤ m := by
 have hm : (BitVec.ofInt 64 m).toNat = m.toNat := by
  rw [BitVec.toNat_ofInt]; congr 1; omega
 have h2 : (BitVec.ofInt 64 x &&& BitVec.ofInt 64 m).toNat ≤ m.toNat := by
  rw [BitVec.toNat_and, hm]; exact Nat.and_le_right
 have h3 : bits BinOp.and IntKind.i64 x m = IntKind.i64.wrap ((BitVec.ofInt 64 x &&& BitVec.ofInt 64 m).toNat : Int) := rfl
 rw [h3, IntWalk.i64_in _ omT]
 omega
theorem i64_wrap64 (x : Int) : I64 (wrap64 x) := by
 rw [← IntWalk.i64_left]
 have := wrap_within .i64 x
 simp only [IntKind.min, IntKind.max, IntKind.bits, IntKind.signed] at this
 unfold I64; simp at this; omega
def CurOk (p : Nat) (w : World) : Prop :=
 ∃ (v : Value) (code : List UInt8) (i : Nat) (h : Int), w.cell? ⟨p, 0, none⟩ = some v ∧ w.cell? ⟨p, 1, none⟩ = some (.int .i64 i) ∧ w.cell? ⟨p, 2, none⟩ = some (.int .i64 h) ∧ Rd false 0 p w [v] code ∧ code.length ≤ 1048576 ∧ i ≤ code.length ∧ I64 h ∧ p < w.heap.size ∧ ∀ o, w.frozen? ⟨p, o, none⟩ = false
theorem CurOk.below {p : Nat} {w w' : World} (h : CurOk p w) (hb : Below (p + 1) w w') : CurOk p w' := by
 obtain ⟨v, code, i, hh, c0, c1, c2, hr, hl, hi, hI, hp, hf⟩ := h
 exact ⟨v, code, i, hh, oldc hb omT c0, oldc hb omT c1, oldc hb omT c2, hr.keep ((Below.zone hb 0).mono (Nat.le_refl _) omT), hl, hi, hI, ltL hp hb.size, fun o => (hb.frozen (p := ⟨p, o, none⟩) (show p < p + 1 by omega)).trans (hf o)⟩
theorem CurOk.lt {p : Nat} {w : World} (h : CurOk p w) : p < w.heap.size := by obtain ⟨_, _, _, _, _, _, _, _, _, _, _, hp, _⟩ := h; exact hp
theorem CurOk.grow {p : Nat} {w w' : World} (h : CurOk p w) (hb : Below w.heap.size w w') : CurOk p w' := h.below (hb.mono (by have := h.lt; omega))
def PostC (p : Nat) (w : World) (lo hi : Int) (e : Ending) (w' : World) : Prop := ∃ r : Int, e = .returned (.int .i64 r) ∧ (lo ≤ r ∧ r ≤ hi) ∧ CurOk p w' ∧ OffF [p] w w'
section
variable (w : World)
theorem l01Byte_any (p : Nat) (h : CurOk p w) :
  Calls Tryz.prog 156 #[.pointer (some ⟨p, 0, none⟩)] w (PostC p w 0 255) := by
 obtain ⟨v, code, i, hh, c0, c1, c2, hr, hl, hi, hI, hp, hf⟩ := h
 obtain ⟨ao, n, cap, rfl, rfl, hnc, hcm, hnone⟩ := hr.shape
 unfold maxLen at *
 have hpm : p ∈ [p] := by simp
 by_cases hlt : i < code.length
 ·obtain ⟨b, off, x, rfl, hcx, hx1, hx2, hb, hb0⟩ := hr.byte_at hlt
  have hlI : (i : Int) < (code.length : Int) := by omega
  have hbp : ¬ p = b := by omega
  have hbp' : ¬ b = p := by omega
  have hrp : Rd false 0 p w [.slice (some ⟨b, off, none⟩) code.length cap] code := hr
  have hw : wrap64 ((i : Int) + 1) = (i : Int) + 1 := IntWalk.wrap64_in _ omT
  have HR := Hd hr
  clear hr hrp
  go_enter Tryz.func156, Tryz.ntmps156
  go_wp2_with fail
  go_quiet (fail)
  go_wp2_with fail
  go_quiet (fail)
  go_wp2_with fail
  go_quiet (fail)
  go_wp2
  go_ret
  refine ⟨_, rfl, bits_and_le _ _ omT omT, ?_, (by repeat' (first | (with_reducible exact OffF.refl _ _) | (with_reducible assumption) | (with_reducible refine offF_drewN ?_ _) | (with_reducible refine OffF.drew ?_) | (with_reducible refine OffF.setCell ?_ spT _) | (with_reducible refine OffF.alloc ?_ _)))⟩
  refine ⟨_, code, i + 1, wrap64 (wrap64 (hh * 6364136223846793005) + 1442695040888963407), by simp [go_sem, c0], by simp [go_sem, c1], by simp [go_sem, c2], HR.out.keep zgT, hl, by omega, ?_, by simpa using hp, fun o => by simp [go_sem, hf]⟩
  exact i64_wrap64 _
 ·have hI' : ¬ (i : Int) < (code.length : Int) := by omega
  have HR := Hd hr
  clear hr
  go_enter Tryz.func156, Tryz.ntmps156
  go_wp2_with fail
  go_quiet (fail)
  go_wp2_with fail
  go_quiet (fail)
  go_wp2
  go_ret
  refine ⟨_, rfl, bits_and_le _ _ omT omT, ?_, (by repeat' (first | (with_reducible exact OffF.refl _ _) | (with_reducible assumption) | (with_reducible refine offF_drewN ?_ _) | (with_reducible refine OffF.drew ?_) | (with_reducible refine OffF.setCell ?_ spT _) | (with_reducible refine OffF.alloc ?_ _)))⟩
  refine ⟨_, code, i, wrap64 (wrap64 (hh * 6364136223846793005) + 1442695040888963407), by simp [go_sem, c0], by simp [go_sem, c1], by simp [go_sem, c2], HR.out.keep zgT, hl, by omega, ?_, by simpa using hp, fun o => by simp [go_sem, hf]⟩
  exact i64_wrap64 _
theorem l01Below_any (p : Nat) (h : CurOk p w) (n : Int) (h0 : 0 < n) (h1 : n ≤ 256) :
  Calls Tryz.prog 115 #[.pointer (some ⟨p, 0, none⟩), .int .i64 n] w (PostC p w 0 (n - 1)) := by
 have k0 : ¬ n ≤ 0 := by omega
 have kz : ¬ n = 0 := by omega
 go_enter Tryz.func115, Tryz.ntmps115
 go_wp2_with fail
 refine (l01Byte_any _ p h).mono ?_
 rintro e w1 ⟨r, rfl, ⟨hr0, hr1⟩, hc, ho⟩
 have k1 : r.tmod n = r % n := Int.tmod_eq_emod_of_nonneg hr0
 have k2 : 0 ≤ r % n := Int.emod_nonneg _ omT
 have k3 : r % n < n := Int.emod_lt_of_pos _ h0
 clear h
 go_wp2
 go_ret
 exact ⟨_, rfl, omT, hc, ho⟩
theorem u8_of (m : Int) : ∃ y : UInt8, ((y.toNat : Nat) : Int) = m % 256 := by
 refine ⟨UInt8.ofNat (m % 256).toNat, ?_⟩
 have h2 : (UInt8.ofNat (m % 256).toNat).toNat = (m % 256).toNat := by simp; omega
 rw [h2]; omega
def PostFresh (w : World) (e : Ending) (w' : World) : Prop := ∃ u ys, e = .returned u ∧ Ow w.heap.size w'.heap.size w' [u] (ys : List UInt8) ∧ ys.length ≤ 601 ∧ Below w.heap.size w w'
def PostNew (w : World) (e : Ending) (w' : World) : Prop := ∃ p, e = .returned (.pointer (some ⟨p, 0, none⟩)) ∧ w.heap.size ≤ p ∧ CurOk p w' ∧ Below w.heap.size w w'
theorem slByte : SlTy Tryz.prog 59 5 (.int .u8 0) 1 1 := SlTy.of Tryz.underlying59 krT rfl
theorem GL.lit1 {α : Type} [FlatRep α] (nd : Bool) (lo lo' : Nat) (w : World) (E : TypeId) {v : Value} {y : α} (h : lo ≤ w.heap.size) (hr : Rep.rep nd w [v] y []) : GL nd lo lo' (w.heap.size + 1) (w.alloc (.cells #[v] E)) E (.slice (some ⟨w.heap.size, 0, none⟩) 1 1) [y] := by
 have hs := Rep.len hr
 have h2 := (FlatRep.flat hr).2 nd (w.alloc (.cells #[v] E))
 refine ⟨[[v]], [[]], ?_, ⟨h2, trivial⟩, by simp, by simp [Value.ownBlock], fun _ => by simp⟩
 have hs' : 1 = Rep.sz α := hs
 exact ⟨by simp [← hs'], .inr ⟨w.heap.size, 1, #[v], rfl, h, heap_alloc_new w _, Nat.le_refl _, by simp [maxLen], by simp [← hs'], by simp [← hs']⟩⟩
theorem fresh_any {z : Bool} {lo hi : Nat} (v : Value) (xs : List UInt8) (h : Rd z lo hi w [v] xs) (hl : xs.length ≤ 1048576) (k : Int) (h0 : 0 ≤ k) (h1 : k ≤ 255) :
  Calls Tryz.prog 29 #[v, .int .i64 k] w (PostFresh w) := by
 obtain ⟨ao, n, cap, rfl, rfl, hnc, hcm, hnone⟩ := h.shape
 unfold maxLen at *
 obtain ⟨y0, hy0⟩ : ∃ y : UInt8, ((y.toNat : Nat) : Int) = k := by
  refine ⟨UInt8.ofNat k.toNat, ?_⟩
  have : (UInt8.ofNat k.toNat).toNat = k.toNat := by simp; omega
  rw [this]; omega
 have HY := Hd hy0
 clear hy0
 go_enter Tryz.func29, Tryz.ntmps29
 go_wp2
 go_loopw [5, 6] (fun s5 s6 wr => ∃ (j : Nat) (ys : List UInt8), j ≤ xs.length ∧ j ≤ 600 ∧ s6 = .int .i64 j ∧ ys.length = j + 1 ∧ GL true w.heap.size w.heap.size wr.heap.size wr 5 s5 ys ∧ Below w.heap.size w wr) (fun _ s6 _ => 600 - (intOf s6).toNat)
 case atStart => exact ⟨0, [y0], Nat.zero_le _, Nat.zero_le _, rfl, rfl, (GL.lit1 _ _ _ _ _ (Nat.le_refl _) (by rw [← HY.out]; exact ⟨rfl, rfl⟩)).top, bwT⟩
 case round =>
  rename_i wr
  obtain ⟨j, ys, hj, hj6, rfl, hys, hG, hb⟩ := hrel
  have sW := hb.size
  by_cases hlt : j < xs.length
  ·have hI : (j : Int) < (xs.length : Int) := by omega
   by_cases hlt6 : j < 600
   ·have hI6 : (j : Int) < 600 := by omega
    obtain ⟨b, off, x, rfl, hcx, hx1, hx2, -, -⟩ := (h.below hb).byte_at hlt
    obtain ⟨m, hm⟩ : ∃ m, m = (j : Int).tmod 7 := ⟨_, rfl⟩
    have hm2 : 0 ≤ m ∧ m ≤ 6 := by
     rw [hm, Int.tmod_eq_emod_of_nonneg omT]; omega
    have hm' := hm.symm
    obtain ⟨P, hP⟩ : ∃ P, P = k * (m + 1) := ⟨_, rfl⟩
    have hP2 : 0 ≤ P ∧ P ≤ 1785 := by
     rw [hP]
     have h3 := Int.mul_nonneg h0 (show 0 ≤ m + 1 by omega)
     have h2 := Int.mul_le_mul h1 (show m + 1 ≤ 7 by omega) omT (by omega : (0 : Int) ≤ 255)
     omega
    have hP' := hP.symm
    have q1 : wrap64 (m + 1) = m + 1 := IntWalk.wrap64_in _ omT
    have q2 : wrap64 (x * 3) = x * 3 := IntWalk.wrap64_in _ omT
    have q3 : wrap64 P = P := IntWalk.wrap64_in _ omT
    have q4 : wrap64 (x * 3 + P) = x * 3 + P := IntWalk.wrap64_in _ omT
    obtain ⟨y, hy⟩ := u8_of (x * 3 + P)
    have HYY := Hd hy
    clear hm hP hy h
    go_wp2_with (at_builtin; refine wpList_push rfl rfl slByte (by show (0 : Nat) < 1; omega) (hG.alloc _) rfl (ad := ⟨wr.heap.size, 0, none⟩) rfl (cs := [.int .u8 ((x * 3 + P) % 256)]) (y := y) (lx := wr.heap.size) (hx' := wr.heap.size) ?c1 (It.flat (z := true) (w0 := wr) (fp := []) (by rw [← HYY.out]; exact ⟨rfl, rfl⟩)) omT (.inl (Nat.le_refl _)) mxT omT ?c2 ?_)
    case c1 =>
     intro j c hj
     match j, hj with
     | 0, hj => simp at hj; subst hj; simp [Addr.add]
    case c2 => simp; omega
    intro v' w1 hG1 _ hb1
    have HG := Hd hG1
    have hB1 : Below w.heap.size w w1 := Below.trans (hb.alloc sW _) hb1
    clear hG hG1 hb1
    go_wp2
    go_roundw
    case rel => exact ⟨j + 1, _, by omega, by omega, by go_num, by simp; omega, HG.out, hB1⟩
    case measure => simp [intOf]; omega
   ·have hI6 : ¬ (j : Int) < 600 := by omega
    have HO := Hd (hG.ow (l0 := w.heap.size) (Nat.le_refl _) (Nat.le_refl _))
    clear hG h
    go_wp2
    go_ret
    exact ⟨_, ys, rfl, HO.out, by omega, hb⟩
  ·have hI : ¬ (j : Int) < (xs.length : Int) := by omega
   have HO := Hd (hG.ow (l0 := w.heap.size) (Nat.le_refl _) (Nat.le_refl _))
   clear hG h
   go_wp2
   go_ret
   exact ⟨_, ys, rfl, HO.out, by omega, hb⟩
theorem l01New_any {z : Bool} {lo hi : Nat} (v : Value) (xs : List UInt8) (h : Rd z lo hi w [v] xs) (hl : xs.length ≤ 1048576) :
  Calls Tryz.prog 71 #[v] w (PostNew w) := by
 obtain ⟨ao, n, cap, rfl, rfl, hnc, hcm, hnone⟩ := h.shape
 unfold maxLen at *
 have p1 : wrap64 (3221 + (xs.length : Int)) = 3221 + (xs.length : Int) := IntWalk.wrap64_in _ omT
 go_enter Tryz.func71, Tryz.ntmps71
 go_wp2
 go_loopw [3, 4] (fun s3 s4 wr => ∃ (j : Nat) (hh : Int), j ≤ xs.length ∧ j ≤ 4000 ∧ s4 = .int .i64 j ∧ s3 = .int .i64 hh ∧ (0 ≤ hh ∧ hh ≤ 1073741824) ∧ wr = w) (fun _ s4 _ => 4000 - (intOf s4).toNat)
 case atStart => exact ⟨0, _, Nat.zero_le _, Nat.zero_le _, rfl, rfl, omT, rfl⟩
 case round =>
  obtain ⟨j, hh, hj, hj6, rfl, rfl, hh0, hwf⟩ := hrel
  subst hwf
  have fin : ∀ (hv : Int), 0 ≤ hv ∧ hv ≤ 1073741824 → CurOk wr.heap.size (wr.alloc (.cells #[.slice ao xs.length cap, .int .i64 0, .int .i64 hv] 171)) := by
   intro hv hv0
   exact ⟨_, xs, 0, hv, by simp [go_sem], by simp [go_sem], by simp [go_sem], (h.weak.all).keep zgT, hl, Nat.zero_le _, ⟨by omega, by omega⟩, by simp, fun o => by simp [go_sem]⟩
  have FIN := Hd fin
  clear fin p1
  by_cases hlt : j < xs.length
  ·have hI : (j : Int) < (xs.length : Int) := by omega
   by_cases hlt6 : j < 4000
   ·have hI6 : (j : Int) < 4000 := by omega
    obtain ⟨b, off, x, rfl, hcx, hx1, hx2, -, -⟩ := h.byte_at hlt
    have q1 : wrap64 (hh * 1103) = hh * 1103 := IntWalk.wrap64_in _ omT
    have q2 : wrap64 (hh * 1103 + x) = hh * 1103 + x := IntWalk.wrap64_in _ omT
    have q3 : wrap64 (hh * 1103 + x + 7) = hh * 1103 + x + 7 := IntWalk.wrap64_in _ omT
    have q4 := bits_and_le (hh * 1103 + x + 7) 1073741823 omT omT
    clear h FIN
    go_wp2
    go_roundw
    case rel => exact ⟨j + 1, _, by omega, by omega, by go_num, rfl, by omega, by trivial⟩
    case measure => simp [intOf]; omega
   ·have hI6 : ¬ (j : Int) < 4000 := by omega
    clear h
    go_wp2
    go_ret
    exact ⟨_, rfl, Nat.le_refl _, FIN.out _ hh0, bwT⟩
  ·have hI : ¬ (j : Int) < (xs.length : Int) := by omega
   clear h
   go_wp2
   go_ret
   exact ⟨_, rfl, Nat.le_refl _, FIN.out _ hh0, bwT⟩
end
end
section
def lexC (a b : Cls) : Bool := lexB a.1 b.1 || (decide (a.1 = b.1) && lexB a.2 b.2)
def relC (c : Cls) (p : List Int) : Cls := (relab p c.1, relab p c.2)
def canonGo (c : Cls) : List (List Int) → Cls → Cls
 | [], b => b
 | p :: ps, b => canonGo c ps (if lexC (relC c p) b = true then relC c p else b)
def canonC (c : Cls) : Cls := canonGo c (perms c.1.length c.1.length) (relC c (idL c.1.length))
def canonV (c : Cls) : Bool := isCls c && decide (c.1.length ≤ 5)
def canonR (c : Cls) : Cls := if canonV c = true then canonC c else ([], [])
section
variable {z z' : Bool} {lo hi lo' hi' : Nat} (w : World) (u1 u2 v1 v2 : Value) (a b : Cls)
end
end
section
section
variable {z z' : Bool} {lo hi lo' hi' : Nat} (w : World) (u v : Value) (xs ys : List Int)
end
def PostShuf (n : Nat) (w : World) (e : Ending) (w' : World) : Prop := ∃ u xs, e = .returned u ∧ Ow w.heap.size w'.heap.size w' [u] (xs : List Int) ∧ Hid (xs.Perm (idL n)) ∧ Below w.heap.size w w'
def PostShufC (p n : Nat) (w : World) (e : Ending) (w' : World) : Prop := ∃ u xs, e = .returned u ∧ Ow w.heap.size w'.heap.size w' [u] (xs : List Int) ∧ Hid (xs.Perm (idL n)) ∧ CurOk p w' ∧ OffF [p] w w'
theorem OffF.belowA {fp : List Nat} {a w w' : World} (h : OffF fp a w) (k : Below a.heap.size w w') : OffF fp a w' :=
 ⟨k.os.trans h.os, k.tape.trans h.tape, k.output.trans h.output, Nat.le_trans h.size k.size, fun i hi hn => (k.block i hi).trans (h.block i hi hn)⟩
end
section
theorem offq {p : Nat} {w w' : World} (h : OffF [p] w w') {b o : Nat} (hb : b ≠ p) (hl : b < w.heap.size) {v : Value} (hv : w.cell? ⟨b, o, none⟩ = some v) : w'.cell? ⟨b, o, none⟩ = some v :=
 (World.cell?_of_block (a := ⟨b, o, none⟩) (h.block b hl (by simpa using hb))).trans hv
theorem offfr {p : Nat} {w w' : World} (h : OffF [p] w w') {b : Nat} (hb : b ≠ p) (hl : b < w.heap.size) (hv : ∀ o, w.frozen? ⟨b, o, none⟩ = false) : ∀ o, w'.frozen? ⟨b, o, none⟩ = false := fun o =>
 (World.frozen?_of_block (a := ⟨b, o, none⟩) (h.block b hl (by simpa using hb))).trans (hv o)
theorem offzn {p lo hi : Nat} {w w' : World} (h : OffF [p] w w') (hp : p < lo ∨ hi ≤ p) (hh : hi ≤ w.heap.size) : Zone lo hi w w' := fun b h1 h2 => h.block b omT soT
def PostCB (p : Nat) (w : World) (e : Ending) (w' : World) : Prop := ∃ r : Bool, e = .returned (.bool r) ∧ CurOk p w' ∧ OffF [p] w w'
def PostCS (p : Nat) (xs : List ByteArray) (w : World) (e : Ending) (w' : World) : Prop := ∃ s, e = .returned (.string s) ∧ s ∈ xs ∧ CurOk p w' ∧ OffF [p] w w'
section
variable (w : World)
theorem l01Once_any (p : Nat) (h : CurOk p w) (n : Int) (h0 : 0 < n) (h1 : n ≤ 256) :
  Calls Tryz.prog 111 #[.pointer (some ⟨p, 0, none⟩), .int .i64 n] w (PostCB p w) := by
 go_enter Tryz.func111, Tryz.ntmps111
 go_wp2_with fail
 refine (l01Below_any _ p h n h0 h1).mono ?_
 rintro e w1 ⟨r, rfl, ⟨hr0, hr1⟩, hc, ho⟩
 clear h
 go_wp2
 go_ret
 exact ⟨_, rfl, hc, ho⟩
theorem l01Pick_any {z : Bool} {lo hi : Nat} (p : Nat) (h : CurOk p w) (v : Value) (xs : List ByteArray) (hx : Rd z lo hi w [v] xs) (hl : 0 < xs.length) (hl2 : xs.length ≤ 256) (hp : p < lo ∨ hi ≤ p) (hh : hi ≤ w.heap.size) :
  Calls Tryz.prog 113 #[.pointer (some ⟨p, 0, none⟩), v] w (PostCS p xs w) := by
 obtain ⟨ao, n, cap, rfl, hn, -⟩ := hx.shape
 subst hn
 go_enter Tryz.func113, Tryz.ntmps113
 go_wp2_with fail
 refine (l01Below_any _ p h xs.length omT omT).mono ?_
 rintro e w1 ⟨r, rfl, ⟨hr0, hr1⟩, hc, ho⟩
 obtain ⟨m, rfl⟩ := Int.eq_ofNat_of_zero_le hr0
 obtain ⟨b, off, s, rfl, hs, c0, -⟩ := (hx.keep (offzn ho hp hh)).str_at (i := m) omT
 have hm : (m : Int) < (xs.length : Int) := by omega
 have HS := Hd (List.mem_of_getElem? hs.out)
 clear h hx hs
 go_wp2
 go_ret
 exact ⟨s, rfl, HS.out, hc, ho⟩
end
end
end Go.Proofs.YtcbhdmmohdnjbaaGreat
