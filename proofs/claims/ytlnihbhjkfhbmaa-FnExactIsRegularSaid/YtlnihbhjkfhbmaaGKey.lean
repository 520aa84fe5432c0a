/- Contract: the key of a permutation (impl.group's first closure): its numbers as bytes. -/
import Derived.Test.YtlnihbhjkfhbmaaGrp
import Derived.Test.YtlnihbhjkfhbmaaStr
import Derived.Laws.IdiomStrings
namespace Go.Proofs.Ytlnihbhjkfhbmaa
set_option linter.unusedVariables false
set_option linter.unusedSimpArgs false
open Go.RowKit

instance flatByte : FlatRep UInt8 where
  sz := 1
  rep _ _ cs x fp := cs = [.int .u8 x.toNat] ∧ fp = []
  weak h := h
  flat h := ⟨h.2, fun _ _ => ⟨h.1, rfl⟩⟩
  det h k := h.1.trans k.1.symm
  len h := by rw [h.1]; rfl
  one h := by rw [h.1]; intro c hc; simp at hc; subst hc; rfl
  lt h := by rw [h.2]; intro b hb; cases hb
  keep h _ := h
def byteOf (x : Int) : UInt8 := UInt8.ofNat x.toNat
def keyL (p : List Int) : List UInt8 := p.map byteOf
def keyB (p : List Int) : ByteArray := ⟨(keyL p).toArray⟩
theorem byteOf_nat {x : Int} (h : 0 ≤ x ∧ x < 256) : ((byteOf x).toNat : Int) = x := by
  unfold byteOf
  simp
  omega
theorem keyB_inj {p q : List Int} (hp : InRange 256 p) (hq : InRange 256 q) (h : keyB p = keyB q) : p = q := by
  have h1 : keyL p = keyL q := by
    have := congrArg ByteArray.data h
    have := congrArg Array.toList this
    simpa [keyB] using this
  clear h
  induction p generalizing q with
  | nil => cases q with | nil => rfl | cons y ys => simp [keyL] at h1
  | cons x xs ih =>
    cases q with
    | nil => simp [keyL] at h1
    | cons y ys =>
      simp only [keyL, List.map_cons, List.cons.injEq] at h1
      have e1 := congrArg (fun b : UInt8 => (b.toNat : Int)) h1.1
      rw [byteOf_nat (hp x (by simp)), byteOf_nat (hq y (by simp))] at e1
      rw [e1, ih (fun z hz => hp z (by simp [hz])) (fun z hz => hq z (by simp [hz])) h1.2]
theorem keyB_size (p : List Int) : (keyB p).size = p.length := by simp [keyB, keyL, ByteArray.size]
theorem byte_step {p : List Int} {i : Nat} {x : Int} (h : p[i]? = some x) : (keyL (p.take i) ++ List.replicate (p.length - i) (0 : UInt8)).set i (byteOf x) = keyL (p.take (i + 1)) ++ List.replicate (p.length - (i + 1)) 0 := by
  have hi := (List.getElem?_eq_some_iff.1 h).1
  have hl : (keyL (p.take i)).length = i := by simp [keyL]; omega
  rw [List.set_append_right _ _ (by omega), hl, Nat.sub_self]
  obtain ⟨m, hm⟩ : ∃ m, p.length - i = m + 1 := ⟨p.length - i - 1, by omega⟩
  rw [hm, show p.length - (i + 1) = m by omega, take_snoc h]
  simp [keyL, List.replicate_succ]
theorem slByte : SlTy Try.prog 47 5 (.int .u8 0) 1 1 := SlTy.of Try.underlying47 (by kernel_rfl) rfl
set_option maxRecDepth 20000 in
set_option maxHeartbeats 4000000 in
theorem key_any {z : Bool} {lo hi : Nat} (w : World) (v : Value) (p : List Int) (h : Rd z lo hi w [v] p) (hr : InRange 256 p) (hl : p.length ≤ 1000) (K : ByteArray) (hK : K = keyB p) :
    Calls Try.prog 31 #[v] w (PostV w (.string K)) := by
  obtain ⟨ao, n, cap, rfl, hn, -⟩ := h.shape
  subst hn
  have HP := Lib.hid h
  have HR := Lib.hid hr
  have HK := Lib.hid hK
  clear h hr hK
  go_enter Try.func31, Try.ntmps31
  go_wp2_with (at_make; refine wpList_mk (α := UInt8) rfl rfl slByte (y0 := 0) (fun _ => ⟨rfl, rfl⟩) rfl rfl rfl rfl (by omega) (by unfold maxLen; omega) ?_; intro w1 how hb1 hlt)
  have HOW := Lib.hid (show Ow w.heap.size (w.heap.size + 1) w1 [.slice (some ⟨w.heap.size, 0, none⟩) p.length p.length] (keyL (p.take 0) ++ List.replicate (p.length - 0) (0 : UInt8)) by simpa [keyL] using how)
  clear how
  go_wp2
  go_loopw [4, 5, 11] (fun _ _ s11 wr => ∃ i : Nat, i ≤ p.length ∧ s11 = .int .i64 i ∧ Hid (Ow w.heap.size (w.heap.size + 1) wr [.slice (some ⟨w.heap.size, 0, none⟩) p.length p.length] (keyL (p.take i) ++ List.replicate (p.length - i) (0 : UInt8))) ∧ Below w.heap.size w wr) (fun _ _ s11 _ => p.length - (intOf s11).toNat)
  case atStart => exact ⟨0, Nat.zero_le _, rfl, HOW, hb1⟩
  case round =>
    obtain ⟨wb, hwb⟩ : ∃ wm : World, wm = wr := ⟨_, rfl⟩
    subst hwb
    obtain ⟨i, hi, rfl, hO, hbb⟩ := hrel
    clear HOW hb1 hlt
    by_cases hli : i < p.length
    · have hIi : (i : Int) < (p.length : Int) := by omega
      obtain ⟨pb, poff, x, rfl, hx, c0, -, -, -, -, pl, -⟩ := HP.out.int_at hli
      have hxr := HR.out x (List.mem_of_getElem? hx.out)
      have g0 := oldc hbb pl c0
      have hwx : IntKind.u8.wrap x = x := by
        unfold IntKind.wrap
        simp [IntKind.signed, IntKind.bits]
        omega
      obtain ⟨y, hy⟩ : ∃ y, (keyL (p.take i) ++ List.replicate (p.length - i) (0 : UInt8))[i]? = some y := ⟨_, List.getElem?_eq_getElem (by rw [List.length_append, List.length_replicate]; simp [keyL]; omega)⟩
      obtain ⟨fp, hrep, hz, hnd⟩ := hO.out
      obtain ⟨_, _, y2, cs, f, e, hy2, ⟨rfl, -⟩, _, hm, -, h3, hc0, hf⟩ := rep_at hrep hli
      simp only [Option.some.injEq, Addr.mk.injEq, and_true] at e
      obtain ⟨rfl, rfl⟩ := e
      have hc : wb.cell? ⟨w.heap.size, i, none⟩ = some (.int .u8 y2.toNat) := by have := hc0 0 _ rfl; simpa [Rep.sz] using this
      have hfz := hf rfl i
      have hset := rep_setc hrep (i := i) (j := 0) (x := y2) (y := byteOf x) (cs := [.int .u8 y2.toNat]) (u := .int .u8 x) (fp' := []) (w' := wb) hy2.out ⟨rfl, rfl⟩ (by show (0 : Nat) < 1; omega) ⟨by rw [byteOf_nat hxr]; rfl, rfl⟩
      rw [byte_step hx.out] at hset
      have HS := Lib.hid (show Ow w.heap.size (w.heap.size + 1) (wb.setCell ⟨w.heap.size, i, none⟩ (.int .u8 x)) [.slice (some ⟨w.heap.size, 0, none⟩) p.length p.length] (keyL (p.take (i + 1)) ++ List.replicate (p.length - (i + 1)) (0 : UInt8)) from ⟨fp, by simpa [Rep.sz] using hset, hz, hnd⟩)
      clear hset hrep hz hnd hc0 hf hO hy hy2 hx hm c0
      go_wp2
      go_roundw
      case rel => exact ⟨i + 1, by omega, by go_num, HS, bwT⟩
      case measure => simp [intOf]; omega
    · obtain rfl : i = p.length := by omega
      have nI : ¬ (p.length : Int) < (p.length : Int) := by omega
      have hO2 := hO.out
      rw [List.take_length, Nat.sub_self, List.replicate_zero, List.append_nil] at hO2
      obtain ⟨fp, hrep, hz, hnd⟩ := hO2
      have hkl : (keyL p).length = p.length := by simp [keyL]
      have kc : (convert 47 9 (.slice (some ⟨w.heap.size, 0, none⟩) p.length p.length)).run Try.prog wb = .ok (.string K) wb := by
        have := run_convert_bytes_back (P := Try.prog) wb 47 9 5 ⟨w.heap.size, 0, none⟩ p.length (keyL p) Try.underlying47 Try.underlying5 Try.underlying9 (fun j hj => by
          obtain ⟨_, _, y2, cs, f, e, hy2, ⟨rfl, -⟩, _, -, -, -, hc0, -⟩ := rep_at hrep (i := j) (by omega)
          simp only [Option.some.injEq, Addr.mk.injEq, and_true] at e
          obtain ⟨rfl, rfl⟩ := e
          have h1 := hc0 0 _ rfl
          have h2 : (keyL p)[j] = y2 := by have := hy2.out; rw [List.getElem?_eq_getElem hj] at this; exact Option.some.inj this
          rw [h2]
          have h3 : wb.cell? ⟨w.heap.size, j, none⟩ = some (.int .u8 y2.toNat) := by simpa [Rep.sz] using h1
          by_cases hj0 : j = 0
          · subst hj0; simpa [Addr.add] using h3
          · simpa [Addr.add, hj0] using h3)
        rw [hkl] at this
        rw [HK.out]; exact this
      clear hrep hz hnd hO
      go_wp2
      go_ret
      exact ⟨rfl, hbb⟩
end Go.Proofs.Ytlnihbhjkfhbmaa
