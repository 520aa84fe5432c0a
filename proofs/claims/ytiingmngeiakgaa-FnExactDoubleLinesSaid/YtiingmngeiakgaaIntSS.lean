/- Contracts of the laws' helpers on lists of lists of numbers: compare, mark, held. -/
import Derived.Test.YtiingmngeiakgaaCls
namespace Go.Proofs.Ytiingmngeiakgaa
set_option linter.unusedVariables false
set_option linter.unusedSimpArgs false
open Go.RowKit

theorem Rd.lists_at {z : Bool} {lo hi : Nat} {w : World} {xs : List (List Int)} {ao : Option Addr} {n cap : Nat} (h : Rd z lo hi w [.slice ao n cap] xs) {i : Nat} (hi' : i < n) :
    ∃ b off p v, ao = some ⟨b, off, none⟩ ∧ Hid (xs[i]? = some p) ∧ w.cell? ⟨b, off + i, none⟩ = some v ∧ Rd z lo hi w [v] p ∧ lo ≤ b ∧ b < hi ∧ b < w.heap.size := by
  obtain ⟨b, off, p, cs, e, hx, hr, hl, h1, h2, h3, hc, hf⟩ := h.at hi'
  obtain ⟨v, rfl⟩ : ∃ v, cs = [v] := by
    match cs, hl with
    | [v], _ => exact ⟨v, rfl⟩
  exact ⟨b, off, p, v, e, hx, by have := hc 0 v rfl; simpa [Rep.sz] using this, hr, h1, h2, h3⟩

set_option maxRecDepth 20000 in
set_option maxHeartbeats 2000000 in
theorem eqIntSS_b {z z' : Bool} {lo hi lo' hi' : Nat} (w : World) (u v : Value) (xs ys : List (List Int)) (h : Rd z lo hi w [u] xs) (h' : Rd z' lo' hi' w [v] ys) (r : Bool) (hr : r = decide (xs = ys)) :
    Calls Try.prog 10 #[u, v] w (PostB w r) := by
  subst hr
  obtain ⟨ao, n, cap, rfl, rfl, hnc, hcm, hnone⟩ := h.shape
  obtain ⟨ao', n', cap', rfl, rfl, hnc', hcm', hnone'⟩ := h'.shape
  unfold maxLen at *
  by_cases hl : xs.length = ys.length
  · have HL := Lib.hid hl
    have hl1 : ¬ xs.length < ys.length := by omega
    have hl2 : ¬ ys.length < xs.length := by omega
    have hbne : (((xs.length : Int)) != (ys.length : Int)) = false := by simp [hl]
    clear hl
    go_enter Try.func10, Try.ntmps10
    go_wp2
    go_loopw [5] (fun i wr => ∃ k : Nat, k ≤ xs.length ∧ i = .int .i64 k ∧ Hid (xs.take k = ys.take k) ∧ Below w.heap.size w wr) (fun i _ => xs.length - (intOf i).toNat)
    case atStart => exact ⟨0, Nat.zero_le _, rfl, rfl, Below.refl _ _⟩
    case round =>
      rename_i wr
      obtain ⟨k, hk, rfl, ht, hb⟩ := hrel
      have sW := hb.size
      by_cases hlt : k < xs.length
      · obtain ⟨b, off, p, vp, rfl, hx, cx, hrp, -, -, hbl⟩ := (h.below hb).lists_at hlt
        obtain ⟨b2, off2, q, vq, rfl, hy, cy, hrq, -, -, hbl2⟩ := (h'.below hb).lists_at (show k < ys.length by omega)
        have hlt' : k < ys.length := by omega
        have hI : (k : Int) < (xs.length : Int) := by omega
        have hI' : (k : Int) < (ys.length : Int) := by omega
        clear h h'
        obtain ⟨r1, hlet_r1⟩ : ∃ r, r = decide (p = q) := ⟨_, rfl⟩
        have H1 := Lib.hid hlet_r1
        clear hlet_r1
        have HT := Lib.hid (show r1 = true → xs.take (k + 1) = ys.take (k + 1) by
          intro e
          have e2 := of_decide_eq_true (H1.out.symm.trans e)
          rw [take_snoc hx.out, take_snoc hy.out, ht.out, e2])
        have HF := Lib.hid (show r1 = false → decide (xs = ys) = false by
          intro e
          have e2 := of_decide_eq_false (H1.out.symm.trans e)
          rw [decide_eq_false_iff_not]
          intro e3; subst e3
          have := hx.out.symm.trans hy.out
          exact e2 (Option.some.inj this))
        clear ht hx hy
        go_upto_region 6 with fail
        go_region_held3 (fun w' => w'.cell? ⟨b, off + k, none⟩ = some vp ∧ w'.cell? ⟨b2, off2 + k, none⟩ = some vq) (go_keep) (first | (go_at_call 35; refine (eqIntS_b _ _ _ p q (hrp.below bwT) (hrq.below bwT) r1 H1.out).mono ?_; rintro e w1 ⟨rfl, hb1⟩; have hB1 : Below w.heap.size w w1 := Below.after bwT hb1 (by first | omega | (simp; omega) | simp); obtain ⟨hc1, hf1⟩ := bcell hb1; (try simp only [World.size_alloc, World.size_drew] at hc1 hf1)))
        cases r1
        · go_wp2
          go_ret
          exact ⟨ret_bool (HF.out (by trivial)).symm, hB1⟩
        · have HT2 := Lib.hid (HT.out (by trivial))
          go_wp2
          go_roundw
          case rel => exact ⟨k + 1, by omega, by go_num, HT2, hB1⟩
          case measure => simp [intOf]; omega
      · have HF : Hid (decide (xs = ys) = true) := by
          have e := ht.out
          rw [List.take_of_length_le (by omega), List.take_of_length_le (by omega)] at e
          exact decide_eq_true e
        clear h h' ht
        go_wp2
        go_ret
        exact ⟨ret_bool HF.out.symm, hb⟩
  · have HF : Hid (decide (xs = ys) = false) := by
      simp only [decide_eq_false_iff_not]
      intro e; subst e; exact hl rfl
    have hbne : (((xs.length : Int)) != (ys.length : Int)) = true := by simp; omega
    clear hl h h'
    go_enter Try.func10, Try.ntmps10
    go_wp2
    go_ret
    exact ⟨ret_bool HF.out.symm, Below.refl _ _⟩

/-- The marks laid from k on, list by list. -/
def marksSS (k : Int) : List (List Int) → List (List Int)
  | [] => []
  | p :: ps => marks k p.length :: marksSS (k + p.length) ps
def lenSS : List (List Int) → Nat
  | [] => 0
  | p :: ps => p.length + lenSS ps
theorem lenSS_app : ∀ a b : List (List Int), lenSS (a ++ b) = lenSS a + lenSS b
  | [], b => by simp [lenSS]
  | p :: a, b => by rw [List.cons_append, lenSS, lenSS, lenSS_app a b]; omega
theorem lenSS_take {ps : List (List Int)} {k : Nat} {p : List Int} (h : ps[k]? = some p) : lenSS (ps.take (k + 1)) = lenSS (ps.take k) + p.length := by
  rw [take_snoc h, lenSS_app]; simp [lenSS]
theorem lenSS_le (ps : List (List Int)) (k : Nat) : lenSS (ps.take k) ≤ lenSS ps := by
  have := lenSS_app (ps.take k) (ps.drop k)
  rw [List.take_append_drop] at this; omega
theorem marksSS_len : ∀ (k : Int) (ps : List (List Int)), (marksSS k ps).length = ps.length
  | _, [] => rfl
  | k, p :: ps => by rw [marksSS, List.length_cons, marksSS_len, List.length_cons]
theorem marksSS_at : ∀ {ps : List (List Int)} {i : Nat} {p : List Int} (k : Int), ps[i]? = some p → (marksSS k ps)[i]? = some (marks (k + lenSS (ps.take i)) p.length)
  | [], i, p, _, h => by simp at h
  | q :: ps, 0, p, k, h => by simp at h; subst h; simp [marksSS, lenSS]
  | q :: ps, i + 1, p, k, h => by
    rw [marksSS, List.getElem?_cons_succ, marksSS_at (k + q.length) (by simpa using h)]
    simp only [List.take_succ_cons, lenSS]
    congr 2; push_cast; omega

section
variable {α : Type} [Rep α]
/-- One item has turned, in its own memory. -/
theorem Zip.mark {z : Bool} {w w' : World} : ∀ {cs : List (List Value)} {xs : List α} {fs : List (List Nat)} {i : Nat} {c : List Value} {f : List Nat} {y : α}, Zip (Rep.rep z w) cs xs fs → fs.flatten.Nodup → cs[i]? = some c → fs[i]? = some f → Rep.rep z w' c y f →
    (∀ b, b < w.heap.size → b ∉ f → w'.heap[b]? = w.heap[b]?) → Zip (Rep.rep z w') cs (xs.set i y) fs
  | [], [], [], i, c, f, y, _, _, hc, _, _, _ => by simp at hc
  | c0 :: cs, x0 :: xs, f0 :: fs, 0, c, f, y, h, hn, hc, hf, hy, hk => by
    simp at hc hf; subst hc hf
    rw [List.flatten_cons, List.nodup_append] at hn
    exact ⟨hy, h.2.keep fun b hb => hk b (h.2.lt b hb) (fun hm => hn.2.2 b hm b hb rfl)⟩
  | c0 :: cs, x0 :: xs, f0 :: fs, i + 1, c, f, y, h, hn, hc, hf, hy, hk => by
    rw [List.flatten_cons, List.nodup_append] at hn
    refine ⟨Rep.keep h.1 fun b hb => hk b (Rep.lt h.1 b hb) (fun hm => ?_), Zip.mark h.2 hn.2.1 (by simpa using hc) (by simpa using hf) hy hk⟩
    exact hn.2.2 b hb b (List.mem_flatten.2 ⟨f, List.mem_of_getElem? (by simpa using hf), hm⟩) rfl
  | [], [], _ :: _, _, _, _, _, h, _, _, _, _, _ | [], _ :: _, _, _, _, _, _, h, _, _, _, _, _ | _ :: _, [], _, _, _, _, _, h, _, _, _, _, _ | _ :: _, _ :: _, [], _, _, _, _, h, _, _, _, _, _ => h.elim

/-- Item i of an owned list of one-cell items, and the way back when that item has turned in its own memory. -/
theorem rep_item {w : World} {ao : Option Addr} {n cap : Nat} {xs : List α} {fp : List Nat} (h : Rep.rep true w [.slice ao n cap] xs fp) (hn : fp.Nodup) {i : Nat} (hi' : i < n) :
    ∃ b off x cs f, ao = some ⟨b, off, none⟩ ∧ Hid (xs[i]? = some x) ∧ Rep.rep true w cs x f ∧ f.Nodup ∧ cs.length = Rep.sz α ∧ b < w.heap.size ∧ (∀ j c, cs[j]? = some c → w.cell? ⟨b, off + (i * Rep.sz α + j), none⟩ = some c) ∧ (∀ k ∈ f, k ∈ fp) ∧
      Hid (∀ (w' : World) (y : α), Rep.rep true w' cs y f → OffF f w w' → Rep.rep true w' [.slice ao n cap] (xs.set i y) fp) := by
  obtain ⟨v', hv, ao', n', cap', rfl, h1, h2, h3, h4, h⟩ := h
  simp at hv; obtain ⟨rfl, rfl, rfl⟩ := hv
  rcases h with ⟨rfl, _⟩ | ⟨b, off, css, fps, rfl, hb, rfl, hzip, hc, hf⟩
  · omega
  · have hx : xs[i]? = some xs[i] := List.getElem?_eq_getElem (by omega)
    obtain ⟨cs, f, e1, e2, r⟩ := hzip.get hx
    rw [List.nodup_cons] at hn
    have hfm : ∀ k ∈ f, k ∈ fps.flatten := fun k hk => List.mem_flatten.2 ⟨f, List.mem_of_getElem? e2, hk⟩
    have hbf : b ∉ f := fun hm => hn.1 (hfm b hm)
    refine ⟨b, off, xs[i], cs, f, rfl, hx, r, ?_, Rep.len r, hb, fun j c hj => hc _ c ?_, fun k hk => List.mem_cons_of_mem _ (hfm k hk), ?_⟩
    · exact hn.2.sublist (List.sublist_flatten_of_mem (List.mem_of_getElem? e2))
    · rw [cellsAt_flat hzip.sizes e1 j (by rw [← Rep.len r]; exact (List.getElem?_eq_some_iff.1 hj).1)]; exact hj
    · intro w' y hy ho
      have hbk : w'.heap[b]? = w.heap[b]? := ho.block b hb hbf
      refine ⟨_, rfl, some ⟨b, off, none⟩, n, cap, rfl, by simpa using h1, h2, h3, h4, .inr ⟨b, off, css, fps, rfl, Nat.lt_of_lt_of_le hb ho.size, rfl, hzip.mark hn.2 e1 e2 hy (fun k hk hkf => ho.block k hk hkf), ?_, ?_⟩⟩
      · intro j c hj
        rw [World.cell?_of_block (w := w) (a := ⟨b, off + j, none⟩) hbk]; exact hc j c hj
      · intro hz o
        rw [World.frozen?_of_block (w := w) (a := ⟨b, o, none⟩) hbk]; exact hf hz o
end

set_option maxHeartbeats 1000000 in
theorem markIntSS_any (w : World) (v : Value) (xs : List (List Int)) (fp : List Nat) (h : Rep.rep true w [v] xs fp) (hn : fp.Nodup) (k : Int) (hk0 : 0 ≤ k) (hk1 : k + lenSS xs ≤ 4611686018427387904) :
    Calls Try.prog 13 #[v, .int .i64 k] w (PostMark fp w [v] (marksSS k xs) (k + lenSS xs)) := by
  have hR : Rd true 0 w.heap.size w [v] xs := ⟨fp, h, fun b hb => ⟨Nat.zero_le _, Rep.lt h b hb⟩⟩
  obtain ⟨ao, n, cap, rfl, rfl, hnc, hcm, hnone⟩ := hR.shape
  clear hR
  unfold maxLen at *
  go_enter Try.func13, Try.ntmps13
  go_wp2
  go_loopw [1, 5] (fun q i wr => ∃ j : Nat, j ≤ xs.length ∧ i = .int .i64 j ∧ q = .int .i64 (k + lenSS (xs.take j)) ∧ Rep.rep true wr [.slice ao xs.length cap] ((marksSS k xs).take j ++ xs.drop j) fp ∧ OffF fp w wr) (fun _ i _ => xs.length - (intOf i).toNat)
  case atStart => exact ⟨0, Nat.zero_le _, rfl, by simp [lenSS], by simpa using h, OffF.refl _ _⟩
  case round =>
    clear h
    obtain ⟨j, hj, rfl, rfl, hr, ho⟩ := hrel
    by_cases hlt : j < xs.length
    · have hI : (j : Int) < (xs.length : Int) := by omega
      obtain ⟨b, off, p, cs, f, rfl, hx, hp, hfn, hcl, hb, hc, hff, hback⟩ := rep_item hr hn hlt
      have hx0 : xs[j]? = some p := by
        have := hx.out
        rw [List.getElem?_append_right (by simp [marksSS_len]; omega)] at this
        simp only [List.length_take, marksSS_len, List.getElem?_drop] at this
        have e : j + (j - min j xs.length) = j := by omega
        rw [e] at this
        exact this
      obtain ⟨u, rfl⟩ : ∃ u, cs = [u] := by
        match cs, hcl with
        | [u], _ => exact ⟨u, rfl⟩
      have hcu : wr.cell? ⟨b, off + j, none⟩ = some u := by have := hc 0 u rfl; simpa [Rep.sz] using this
      have hle := lenSS_le xs (j + 1)
      rw [lenSS_take hx0] at hle
      have HT := Lib.hid (lenSS_take hx0)
      have HM := Lib.hid (marksSS_at k hx0)
      clear hr hx hc
      go_wp2_with fail
      refine (markIntS_any _ u p f hp (k + lenSS (xs.take j)) (by omega) (by omega)).mono ?_
      rintro e w1 ⟨rfl, hp1, ho1⟩
      have hr1 := hback.out w1 _ hp1 ho1
      have hr2 : Rep.rep true w1 [.slice (some ⟨b, off, none⟩) xs.length cap] ((marksSS k xs).take (j + 1) ++ xs.drop (j + 1)) fp := by
        have e1 : ((marksSS k xs).take j ++ xs.drop j).set j (marks (k + lenSS (xs.take j)) p.length) = (marksSS k xs).take (j + 1) ++ xs.drop (j + 1) := by
          have hl : ((marksSS k xs).take j).length = j := by simp [marksSS_len]; omega
          rw [List.set_append_right _ _ (by omega), hl, Nat.sub_self, drop_cons hx0, List.set_cons_zero, take_snoc HM.out]
          simp
        rw [e1] at hr1; exact hr1
      have HR := Lib.hid hr2
      have HO := Lib.hid (ho.trans (ho1.mono hff))
      clear hr1 hr2 hp hp1 ho1 hback ho hff hcu hx0
      go_wp2
      go_roundw
      case rel => exact ⟨j + 1, by omega, by go_num, by rw [HT.out]; push_cast; first | rfl | (congr 1; omega), HR.out, HO.out⟩
      case measure => simp [intOf]; omega
    · obtain rfl : j = xs.length := by omega
      have HS := Lib.hid hr
      clear hr
      go_wp2
      go_ret
      refine ⟨ret_int (by rw [List.take_length]), ?_, ho⟩
      have := HS.out
      rw [List.take_of_length_le (by rw [marksSS_len]; exact Nat.le_refl _)] at this
      simpa using this

set_option maxHeartbeats 1000000 in
theorem heldIntSS_any {z : Bool} {lo hi : Nat} (w : World) (v : Value) (xs : List (List Int)) (k : Int) (h : Rd z lo hi w [v] (marksSS k xs)) (hk0 : 0 ≤ k) (hk1 : k + lenSS xs ≤ 4611686018427387904) :
    Calls Try.prog 14 #[v, .int .i64 k] w (PostI w (k + lenSS xs)) := by
  obtain ⟨ao, n, cap, rfl, hl, hnc, hcm, hnone⟩ := h.shape
  rw [marksSS_len] at hl
  subst hl
  unfold maxLen at *
  go_enter Try.func14, Try.ntmps14
  go_wp2
  go_loopw [1, 5] (fun q i wr => ∃ j : Nat, j ≤ xs.length ∧ i = .int .i64 j ∧ q = .int .i64 (k + lenSS (xs.take j)) ∧ Below w.heap.size w wr) (fun _ i _ => xs.length - (intOf i).toNat)
  case atStart => exact ⟨0, Nat.zero_le _, rfl, by simp [lenSS], Below.refl _ _⟩
  case round =>
    rename_i wr
    obtain ⟨j, hj, rfl, rfl, hb⟩ := hrel
    by_cases hlt : j < xs.length
    · have hI : (j : Int) < (xs.length : Int) := by omega
      obtain ⟨p, hp⟩ : ∃ p, xs[j]? = some p := ⟨_, List.getElem?_eq_getElem hlt⟩
      obtain ⟨b, off, m, u, rfl, hx, hcu, hru, -, -, hbl⟩ := (h.below hb).lists_at hlt
      obtain rfl : m = marks (k + lenSS (xs.take j)) p.length := Option.some.inj (hx.out.symm.trans (marksSS_at k hp))
      have hle := lenSS_le xs (j + 1)
      rw [lenSS_take hp] at hle
      have HT := Lib.hid (lenSS_take hp)
      clear hp hx
      go_wp2_with fail
      refine (heldIntS_any _ u p.length (k + lenSS (xs.take j)) (hru.below bwT) (by omega) (by omega)).mono ?_
      rintro e w1 ⟨rfl, hb1⟩
      have hB1 : Below w.heap.size w w1 := Below.after hb hb1 hb.size
      have hge : ¬ k + (lenSS (xs.take j) : Int) + (p.length : Int) < 0 := by omega
      clear hru
      go_wp2
      go_roundw
      case rel => exact ⟨j + 1, by omega, by go_num, by rw [HT.out]; push_cast; first | rfl | (congr 1; omega), hB1⟩
      case measure => simp [intOf]; omega
    · obtain rfl : j = xs.length := by omega
      clear h
      go_wp2
      go_ret
      exact ⟨ret_int (by rw [List.take_length]), hb⟩
end Go.Proofs.Ytiingmngeiakgaa
