/- Texts laid one behind the other (merge.py): Str, GKey, SSet. -/
import Derived.Test.YtlnhhfebmeekhaaZ10A
import Derived.Test.YtlnhhfebmeekhaaZ10D
import Derived.Laws.IdiomStrings
import Derived.Maps.OwnSet
import Derived.StringKeys
import Derived.BigFrame
namespace Go.Proofs.Ytlnhhfebmeekhaa
set_option linter.unusedVariables false
set_option linter.unusedSimpArgs false
open Go.RowKit

/-! ### Str -/
section
instance lawText : LawfulBEq ByteArray where
  eq_of_beq {a b} h := by
    cases a; cases b
    exact congrArg ByteArray.mk (eq_of_beq h)
  rfl {a} := by cases a; exact beq_self_eq_true (α := Array UInt8) _
instance decEqText : DecidableEq ByteArray := fun a b => decidable_of_iff (a.data = b.data) ⟨ByteArray.ext, congrArg _⟩
/-- A value comes back; what was there is as it was. -/
def PostV (w : World) (v : Value) (e : Ending) (w' : World) : Prop := e = .returned v ∧ Below w.heap.size w w'
theorem text_eq (a b : ByteArray) : (a.toList == b.toList) = decide (a = b) := by
  rw [ByteArray.toList_eq, ByteArray.toList_eq]
  by_cases e : a = b
  · subst e; simp
  · have h2 : ¬ a.data = b.data := fun h => e (ByteArray.ext h)
    simp [e, h2]

end

/-! ### GKey -/
section

instance flatByte : FlatRep UInt8 where
  sz := 1
  rep _ _ cs x fp := cs = [.int .u8 x.toNat] ∧ fp = []
  weak h := h
  flat h := ⟨h.2, fun _ _ => ⟨h.1, rfl⟩⟩
  det h k := h.1.trans k.1.symm
  len h := by rw [h.1]; rfl
  one h := by rw [h.1]; intro c hc; simp at hc; subst hc; rfl
  lt h := by rw [h.2]; intro b hb; cases hb
  keep h _ := h
def byteOf (x : Int) : UInt8 := UInt8.ofNat x.toNat
def keyL (p : List Int) : List UInt8 := p.map byteOf
def keyB (p : List Int) : ByteArray := ⟨(keyL p).toArray⟩
theorem byteOf_nat {x : Int} (h : 0 ≤ x ∧ x < 256) : ((byteOf x).toNat : Int) = x := by
  unfold byteOf
  simp
  omega
theorem keyB_inj {p q : List Int} (hp : InRange 256 p) (hq : InRange 256 q) (h : keyB p = keyB q) : p = q := by
  have h1 : keyL p = keyL q := by
    have := congrArg ByteArray.data h
    have := congrArg Array.toList this
    simpa [keyB] using this
  clear h
  induction p generalizing q with
  | nil => cases q with | nil => rfl | cons y ys => simp [keyL] at h1
  | cons x xs ih =>
    cases q with
    | nil => simp [keyL] at h1
    | cons y ys =>
      simp only [keyL, List.map_cons, List.cons.injEq] at h1
      have e1 := congrArg (fun b : UInt8 => (b.toNat : Int)) h1.1
      rw [byteOf_nat (hp x (by simp)), byteOf_nat (hq y (by simp))] at e1
      rw [e1, ih (fun z hz => hp z (by simp [hz])) (fun z hz => hq z (by simp [hz])) h1.2]
theorem keyB_size (p : List Int) : (keyB p).size = p.length := by simp [keyB, keyL, ByteArray.size]
theorem byte_step {p : List Int} {i : Nat} {x : Int} (h : p[i]? = some x) : (keyL (p.take i) ++ List.replicate (p.length - i) (0 : UInt8)).set i (byteOf x) = keyL (p.take (i + 1)) ++ List.replicate (p.length - (i + 1)) 0 := by
  have hi := (List.getElem?_eq_some_iff.1 h).1
  have hl : (keyL (p.take i)).length = i := by simp [keyL]; omega
  rw [List.set_append_right _ _ (by omega), hl, Nat.sub_self]
  obtain ⟨m, hm⟩ : ∃ m, p.length - i = m + 1 := ⟨p.length - i - 1, by omega⟩
  rw [hm, show p.length - (i + 1) = m by omega, take_snoc h]
  simp [keyL, List.replicate_succ]
theorem slByteK : SlTy Try.prog 27 5 (.int .u8 0) 1 1 := SlTy.of Try.underlying27 (by kernel_rfl) rfl
set_option maxRecDepth 20000 in
set_option maxHeartbeats 4000000 in
theorem key_any {z : Bool} {lo hi : Nat} (w : World) (v : Value) (p : List Int) (h : Rd z lo hi w [v] p) (hr : InRange 256 p) (hl : p.length ≤ 1000) (K : ByteArray) (hK : K = keyB p) :
    Calls Try.prog 89 #[v] w (PostV w (.string K)) := by
  obtain ⟨ao, n, cap, rfl, hn, -⟩ := h.shape
  subst hn
  have HP := Lib.hid h
  have HR := Lib.hid hr
  have HK := Lib.hid hK
  clear h hr hK
  go_enter Try.func89, Try.ntmps89
  go_wp2_with (at_make; refine wpList_mk (α := UInt8) rfl rfl slByteK (y0 := 0) (fun _ => ⟨rfl, rfl⟩) rfl rfl rfl rfl (by omega) (by unfold maxLen; omega) ?_; intro w1 how hb1 hlt)
  have HOW := Lib.hid (show Ow w.heap.size (w.heap.size + 1) w1 [.slice (some ⟨w.heap.size, 0, none⟩) p.length p.length] (keyL (p.take 0) ++ List.replicate (p.length - 0) (0 : UInt8)) by simpa [keyL] using how)
  clear how
  go_wp2
  go_loopw [4, 5, 11] (fun _ _ s11 wr => ∃ i : Nat, i ≤ p.length ∧ s11 = .int .i64 i ∧ Hid (Ow w.heap.size (w.heap.size + 1) wr [.slice (some ⟨w.heap.size, 0, none⟩) p.length p.length] (keyL (p.take i) ++ List.replicate (p.length - i) (0 : UInt8))) ∧ Below w.heap.size w wr) (fun _ _ s11 _ => p.length - (intOf s11).toNat)
  case atStart => exact ⟨0, Nat.zero_le _, rfl, HOW, hb1⟩
  case round =>
    obtain ⟨wb, hwb⟩ : ∃ wm : World, wm = wr := ⟨_, rfl⟩
    subst hwb
    obtain ⟨i, hi, rfl, hO, hbb⟩ := hrel
    clear HOW hb1 hlt
    by_cases hli : i < p.length
    · have hIi : (i : Int) < (p.length : Int) := by omega
      obtain ⟨pb, poff, x, rfl, hx, c0, -, -, -, -, pl, -⟩ := HP.out.int_at hli
      have hxr := HR.out x (List.mem_of_getElem? hx.out)
      have g0 := oldc hbb pl c0
      have hwx : IntKind.u8.wrap x = x := by
        unfold IntKind.wrap
        simp [IntKind.signed, IntKind.bits]
        omega
      obtain ⟨y, hy⟩ : ∃ y, (keyL (p.take i) ++ List.replicate (p.length - i) (0 : UInt8))[i]? = some y := ⟨_, List.getElem?_eq_getElem (by rw [List.length_append, List.length_replicate]; simp [keyL]; omega)⟩
      obtain ⟨fp, hrep, hz, hnd⟩ := hO.out
      obtain ⟨_, _, y2, cs, f, e, hy2, ⟨rfl, -⟩, _, hm, -, h3, hc0, hf⟩ := rep_at hrep hli
      simp only [Option.some.injEq, Addr.mk.injEq, and_true] at e
      obtain ⟨rfl, rfl⟩ := e
      have hc : wb.cell? ⟨w.heap.size, i, none⟩ = some (.int .u8 y2.toNat) := by have := hc0 0 _ rfl; simpa [Rep.sz] using this
      have hfz := hf rfl i
      have hset := rep_setc hrep (i := i) (j := 0) (x := y2) (y := byteOf x) (cs := [.int .u8 y2.toNat]) (u := .int .u8 x) (fp' := []) (w' := wb) hy2.out ⟨rfl, rfl⟩ (by show (0 : Nat) < 1; omega) ⟨by rw [byteOf_nat hxr]; rfl, rfl⟩
      rw [byte_step hx.out] at hset
      have HS := Lib.hid (show Ow w.heap.size (w.heap.size + 1) (wb.setCell ⟨w.heap.size, i, none⟩ (.int .u8 x)) [.slice (some ⟨w.heap.size, 0, none⟩) p.length p.length] (keyL (p.take (i + 1)) ++ List.replicate (p.length - (i + 1)) (0 : UInt8)) from ⟨fp, by simpa [Rep.sz] using hset, hz, hnd⟩)
      clear hset hrep hz hnd hc0 hf hO hy hy2 hx hm c0
      go_wp2
      go_roundw
      case rel => exact ⟨i + 1, by omega, by go_num, HS, bwT⟩
      case measure => simp [intOf]; omega
    · obtain rfl : i = p.length := by omega
      have nI : ¬ (p.length : Int) < (p.length : Int) := by omega
      have hO2 := hO.out
      rw [List.take_length, Nat.sub_self, List.replicate_zero, List.append_nil] at hO2
      obtain ⟨fp, hrep, hz, hnd⟩ := hO2
      have hkl : (keyL p).length = p.length := by simp [keyL]
      have kc : (convert 27 9 (.slice (some ⟨w.heap.size, 0, none⟩) p.length p.length)).run Try.prog wb = .ok (.string K) wb := by
        have := run_convert_bytes_back (P := Try.prog) wb 27 9 5 ⟨w.heap.size, 0, none⟩ p.length (keyL p) Try.underlying27 Try.underlying5 Try.underlying9 (fun j hj => by
          obtain ⟨_, _, y2, cs, f, e, hy2, ⟨rfl, -⟩, _, -, -, -, hc0, -⟩ := rep_at hrep (i := j) (by omega)
          simp only [Option.some.injEq, Addr.mk.injEq, and_true] at e
          obtain ⟨rfl, rfl⟩ := e
          have h1 := hc0 0 _ rfl
          have h2 : (keyL p)[j] = y2 := by have := hy2.out; rw [List.getElem?_eq_getElem hj] at this; exact Option.some.inj this
          rw [h2]
          have h3 : wb.cell? ⟨w.heap.size, j, none⟩ = some (.int .u8 y2.toNat) := by simpa [Rep.sz] using h1
          by_cases hj0 : j = 0
          · subst hj0; simpa [Addr.add] using h3
          · simpa [Addr.add, hj0] using h3)
        rw [hkl] at this
        rw [HK.out]; exact this
      clear hrep hz hnd hO
      go_wp2
      go_ret
      exact ⟨rfl, hbb⟩

end

/-! ### SSet -/
section
open Go.RowKit Go.Maps Go.ChangeMaps Go.WideMaps

theorem strKeyed : Keyed Try.prog 9 := string_keyed Try.underlying9
theorem zeroBool (w : World) : (zeroValue 4).run Try.prog w = .ok (.bool false) w := by kernel_rfl
theorem strKey {s : ByteArray} (h : s.size ≤ maxLen) : keyOf Try.prog 9 (.string s) = some (.string s.data.toList) := keyOf_string_mk Try.underlying9 h

/-- Block b is a map of at most n entries: true at the texts of S, false elsewhere. -/
def SSet (w : World) (b n : Nat) (S : List ByteArray) : Prop :=
  ∃ D : DataW Unit, w.ownsMap Try.prog 9 (plainElem Try.prog 4) b n D ∧ IsMap D ∧ ∀ s : ByteArray, D.atKey (.string s.data.toList) (.lit (.bool false)) = .lit (.bool (decide (s ∈ S)))

theorem SSet.made (w : World) : SSet (w.alloc (.map #[] 0)) w.heap.size 0 [] :=
  ⟨.map [], World.ownsMap_made _ _ _ _, isMap_empty, fun s => by simp [DataW.atKey]⟩
theorem SSet.keepb {w w' : World} {b n : Nat} {S : List ByteArray} (h : SSet w b n S) (k : w'.heap[b]? = w.heap[b]?) : SSet w' b n S := by
  obtain ⟨D, ⟨es, clock, hb, r⟩, h2⟩ := h
  exact ⟨D, ⟨es, clock, k.trans hb, r⟩, h2⟩
theorem SSet.lt {w : World} {b n : Nat} {S : List ByteArray} (h : SSet w b n S) : b < w.heap.size := by
  obtain ⟨D, h1, h2⟩ := h
  exact h1.lt
theorem SSet.below {w w' : World} {b n : Nat} {S : List ByteArray} (h : SSet w b n S) (k : Below w.heap.size w w') : SSet w' b n S := h.keepb (k.block b h.lt)
theorem SSet.zone {w w' : World} {b n lo hi : Nat} {S : List ByteArray} (h : SSet w b n S) (k : Zone lo hi w w') (h1 : lo ≤ b) (h2 : b < hi) : SSet w' b n S := h.keepb (k b h1 h2)
theorem SSet.mono {w : World} {b n m : Nat} {S : List ByteArray} (h : SSet w b n S) (k : n ≤ m) : SSet w b m S := by
  obtain ⟨D, h1, h2⟩ := h
  exact ⟨D, h1.mono k, h2⟩
theorem SSet.perm {w : World} {b n : Nat} {S T : List ByteArray} (h : SSet w b n S) (k : ∀ s, s ∈ S ↔ s ∈ T) : SSet w b n T := by
  obtain ⟨D, h1, h2, h3⟩ := h
  exact ⟨D, h1, h2, fun s => by rw [h3 s]; congr 2; exact decide_eq_decide.2 (k s)⟩

theorem byteArray_ne {s t : ByteArray} (h : s ≠ t) : s.data.toList ≠ t.data.toList := fun e => h (by cases s; cases t; simpa using e)

theorem plainElem_bool_inv {H : Type} {P : Program} {e : TypeId} (he : P.underlying e = some .bool) {v : Value} {z : DataW H × List MemPlace} (h : plainElem P e v = some z) : ∃ x, v = .bool x ∧ z = (.lit (.bool x), []) := by
  unfold plainElem at h
  rw [he] at h
  cases v <;> simp at h
  exact ⟨_, rfl, h.symm⟩
/-- m[k] at the operation. -/
theorem wpList_sset_look {w : World} {ops : Array Oper} {rest : List Oper} {o : Oper} {a : Act} {Q : Exit → Act → World → Prop} (hg : o.guard = none) {m x : Operand} {t : TypeId} (hop : o.op = Op.lookup t m x false)
    (ht : Try.prog.underlying t = some (.map 9 4)) {b n : Nat} {S : List ByteArray} (hm : a.eval m = .map (some b)) (h : SSet w b n S) {s : ByteArray} (hx : a.eval x = .string s) (hs : s.size ≤ maxLen)
    (hK : wpList Try.prog ops Q rest (a.put o.dst (.bool (decide (s ∈ S)))) w) : wpList Try.prog ops Q (o :: rest) a w := by
  obtain ⟨D, h1, h2, h3⟩ := h
  refine wpList_plain hg fun K' hK' => ?_
  obtain ⟨v, ps, hrun, hv⟩ := h1.lookup strKeyed ht (zeroBool w) (plainElem_bool Try.underlying4 false) (strKey hs)
  rw [h3 s] at hv
  have hvb : v = .bool (decide (s ∈ S)) := by
    obtain ⟨x, rfl, e⟩ := plainElem_bool_inv Try.underlying4 hv
    simp only [Prod.mk.injEq, DataW.lit.injEq, Lit.bool.injEq] at e
    rw [e.1]
  subst hvb
  unfold Oper.wp
  simp [execOp, hop, hm, hx, hrun, Result.andThen]
  exact hK' _ _ (by simpa using hK)

/-- m[k] = true at the operation. -/
theorem wpList_sset_put {w : World} {ops : Array Oper} {rest : List Oper} {o : Oper} {a : Act} {Q : Exit → Act → World → Prop} (hg : o.guard = none) {m x v : Operand} {t : TypeId} (hop : o.op = Op.mapUpdate t m x v)
    (ht : Try.prog.underlying t = some (.map 9 4)) {b n : Nat} {S : List ByteArray} (hm : a.eval m = .map (some b)) (h : SSet w b n S) (hn : n < maxLen) {s : ByteArray} (hx : a.eval x = .string s) (hv : a.eval v = .bool true) (hs : s.size ≤ maxLen)
    (hK : ∀ w', SSet w' b (n + 1) (s :: S) → w.grownBy w' (some b) → wpList Try.prog ops Q rest (a.put o.dst undef) w') : wpList Try.prog ops Q (o :: rest) a w := by
  obtain ⟨D, h1, h2, h3⟩ := h
  refine wpList_mapUpdate_own w hg m x v t hop _ _ strKeyed ht _ b n D hm h1 hn _ _ _ hx hv (strKey hs) _ [] (plainElem_bool Try.underlying4 true) fun w' g1 g2 => hK w' ⟨_, g1, h2.put _ _, fun r => ?_⟩ g2
  by_cases hr : r = s
  · subst hr
    rw [atKey_put_same h2 (strKeyed.key (strKey hs))]
    simp
  · rw [atKey_put_other (by intro e; exact byteArray_ne hr (by simpa using e)), h3 r]
    simp [hr]
/-- An entry of a literal. -/
theorem wpList_sset_ins {w : World} {ops : Array Oper} {rest : List Oper} {o : Oper} {a : Act} {Q : Exit → Act → World → Prop} (hg : o.guard = none) {m x v : Operand} {t : TypeId} (hop : o.op = Op.insert t m x v)
    (ht : Try.prog.underlying t = some (.map 9 4)) {b n : Nat} {S : List ByteArray} (hm : a.eval m = .map (some b)) (h : SSet w b n S) (hn : n < maxLen) {s : ByteArray} (hx : a.eval x = .string s) (hv : a.eval v = .bool true) (hs : s.size ≤ maxLen)
    (hK : ∀ w', SSet w' b (n + 1) (s :: S) → w.grownBy w' (some b) → wpList Try.prog ops Q rest (a.put o.dst undef) w') : wpList Try.prog ops Q (o :: rest) a w := by
  obtain ⟨D, h1, h2, h3⟩ := h
  refine wpList_plain hg fun K' hK' => ?_
  obtain ⟨w', hrun, g1, g2⟩ := h1.update strKeyed ht hn (strKey hs) (plainElem_bool Try.underlying4 true)
  unfold Oper.wp
  simp [execOp, hop, hm, hx, hv, hrun, Result.andThen]
  refine hK' _ _ (hK w' ⟨_, g1, h2.put _ _, fun r => ?_⟩ g2)
  by_cases hr : r = s
  · subst hr
    rw [atKey_put_same h2 (strKeyed.key (strKey hs))]
    simp
  · rw [atKey_put_other (by intro e; exact byteArray_ne hr (by simpa using e)), h3 r]
    simp [hr]
/-- m[k] at an operation that a guard lets by. -/
theorem wpList_sset_lookg {w : World} {ops : Array Oper} {rest : List Oper} {o : Oper} {a : Act} {Q : Exit → Act → World → Prop} (hw : Region.wanted o (yielded ops a.tmps) = true) {m x : Operand} {t : TypeId} (hop : o.op = Op.lookup t m x false)
    (ht : Try.prog.underlying t = some (.map 9 4)) {b n : Nat} {S : List ByteArray} (hm : a.eval m = .map (some b)) (h : SSet w b n S) {s : ByteArray} (hx : a.eval x = .string s) (hs : s.size ≤ maxLen) (r : Bool) (hr : r = decide (s ∈ S))
    (hK : wpList Try.prog ops Q rest (a.put o.dst (.bool r)) w) : wpList Try.prog ops Q (o :: rest) a w := by
  subst hr
  obtain ⟨D, h1, h2, h3⟩ := h
  refine BigFrame.wpList_want hw fun K' hK' => ?_
  obtain ⟨v, ps, hrun, hv⟩ := h1.lookup strKeyed ht (zeroBool w) (plainElem_bool Try.underlying4 false) (strKey hs)
  rw [h3 s] at hv
  have hvb : v = .bool (decide (s ∈ S)) := by
    obtain ⟨x, rfl, e⟩ := plainElem_bool_inv Try.underlying4 hv
    simp only [Prod.mk.injEq, DataW.lit.injEq, Lit.bool.injEq] at e
    rw [e.1]
  subst hvb
  unfold Oper.wp
  simp [execOp, hop, hm, hx, hrun, Result.andThen]
  exact hK' _ _ (by simpa using hK)
theorem Below.grownAt {lo : Nat} {w0 w w' : World} {b : Nat} (h : Below lo w0 w) (hg : w.grownBy w' (some b)) (hlo : lo ≤ b) (hs : lo ≤ w.heap.size) : Below lo w0 w' := h.grown hg hs fun k hk => by simp only [Option.some.injEq] at hk; omega

end

end Go.Proofs.Ytlnhhfebmeekhaa
