/- Contracts of relabeled systems. -/
import Derived.Test.YtefbbbhidnnchaaZ14C
namespace Go.Proofs.Ytefbbbhidnnchaa
set_option linter.unusedVariables false
set_option linter.unusedSimpArgs false
open Go.RowKit

/-- A map under other names: at x = p[i] stands p[f[i]]. -/
def relGo (p : List Int) : List Int → List Int → List Int → List Int
  | out, x :: ps, y :: fs => relGo p (out.set x.toNat (p.getD y.toNat 0)) ps fs
  | out, _, _ => out
def relab (p f : List Int) : List Int := relGo p (List.replicate p.length 0) p f

theorem relGo_len (p : List Int) : ∀ (ps fs out : List Int), (relGo p out ps fs).length = out.length
  | [], _, _ => by rw [relGo]; simp
  | _ :: _, [], _ => by rw [relGo]; simp
  | x :: ps, y :: fs, out => by rw [relGo, relGo_len p ps fs]; simp
theorem relab_len (p f : List Int) : (relab p f).length = p.length := by rw [relab, relGo_len]; simp

theorem Ow.made {w : World} {E : TypeId} {n g : Nat} (hb : w.heap[g]? = some (.cells (madeCells #[.int .i64 0] n) E (0, 0))) (hl : n ≤ maxLen) :
    Ow g (g + 1) w [.slice (some ⟨g, 0, none⟩) n n] (List.replicate n (0 : Int)) := by
  have h0 : Rep.rep true w [Value.int .i64 0] (0 : Int) [] := ⟨rfl, by unfold I64; omega, rfl⟩
  have hz := zip_replicate h0 n
  refine ⟨[g], ⟨_, rfl, _, n, n, rfl, by simp, Nat.le_refl _, hl, (fun h => by cases h), .inr ⟨g, 0, _, _, rfl, (Array.getElem?_eq_some_iff.1 hb).1, by rw [flatten_nils], hz, ?_, ?_⟩⟩, fun b hb => by simp at hb; omega, by simp⟩
  · intro j c hj
    have := made_flat [Value.int .i64 0] n
    simp only [List.length_singleton, Nat.mul_one] at this
    rw [← this] at hj
    simp only [Nat.zero_add, World.cell?, hb]
    simpa using hj
  · intro _ o
    simp [World.frozen?, hb]
theorem offk {fp : List Nat} {w w' : World} (ho : OffF fp w w') {b o : Nat} (hb : b ∉ fp) (hl : b < w.heap.size) {v : Value} (hv : w.cell? ⟨b, o, none⟩ = some v) : w'.cell? ⟨b, o, none⟩ = some v :=
  (World.cell?_of_block (a := ⟨b, o, none⟩) (ho.block b hl hb)).trans hv
theorem relGo_step {p out ps fs : List Int} {x y : Nat} {v : Int} (hv : p[y]? = some v) : relGo p out ((x : Int) :: ps) ((y : Int) :: fs) = relGo p (out.set x v) ps fs := by
  rw [relGo]; simp [List.getD_eq_getElem?_getD, hv]
theorem heap_alloc (w : World) (o : Obj) : (w.alloc o).heap = w.heap.push o := rfl
theorem heap_drew (w : World) : w.drew.heap = w.heap := rfl

section
variable {z z' : Bool} {lo hi lo' hi' : Nat} (w : World) (u v vp : Value) (c : Cls) (p : List Int)

set_option maxHeartbeats 4000000 in
theorem relS_any (h : Rd z lo hi w [u, v] c) (h' : Rd z' lo' hi' w [vp] p) (hn1 : c.1.length = p.length) (hn2 : c.2.length = p.length) (hp : InRange p.length p) (hc1 : InRange p.length c.1) (hc2 : InRange p.length c.2) (hl : p.length ≤ 1048576) :
    Calls Try.prog 100 #[.agg #[u, v], vp] w (PostOw2 w ((relab p c.1, relab p c.2) : Cls)) := by
  obtain ⟨f, q⟩ := c
  dsimp only at hn1 hn2 hc1 hc2 ⊢
  obtain ⟨ao, n1, cap, bo, n2, dap, rfl, rfl⟩ := shapeCls h
  obtain ⟨hf, hq⟩ := h.two rfl
  dsimp only at hf hq
  clear h
  obtain ⟨po, np, pcap, rfl, e, hnc, hcm, hnone⟩ := h'.shape
  subst e
  obtain rfl : n1 = p.length := by
    obtain ⟨_, _, _, e, e2, -⟩ := hf.shape
    simp only [Value.slice.injEq] at e; omega
  obtain rfl : n2 = p.length := by
    obtain ⟨_, _, _, e, e2, -⟩ := hq.shape
    simp only [Value.slice.injEq] at e; omega
  unfold maxLen at hcm
  have hmk : ∀ wx : World, (Instr.makeSlice 30 (.int .i64 p.length) (.int .i64 p.length)).run Try.prog wx = .ok (.slice (some ⟨wx.heap.size, 0, none⟩) p.length p.length) (wx.alloc (.cells (madeCells #[.int .i64 0] p.length) 3)) := by
    intro wx
    obtain ⟨ht, ⟨i, hi, hz, hsize, hby⟩, _⟩ := slInt
    have := run_make (P := Try.prog) wx 30 3 i (.int .i64 0) ht hi hz .i64 .i64 (p.length : Int) (p.length : Int) (by omega) (by omega) (by rw [hby]; omega) (by omega)
    rw [hsize] at this
    simpa [Value.cells] using this
  go_enter Try.func100, Try.ntmps100
  go_upto_region 2 with fail
  go_cut [6, 11, 13] (fun s6 s11 s13 wx => ∃ g g1 g2 : Nat, s6 = .pointer (some ⟨g, 0, none⟩) ∧ s11 = .slice (some ⟨g1, 0, none⟩) p.length p.length ∧ s13 = .slice (some ⟨g2, 0, none⟩) p.length p.length ∧ wx.cell? ⟨g, 0, none⟩ = some (.slice (some ⟨g1, 0, none⟩) p.length p.length) ∧ wx.cell? ⟨g, 1, none⟩ = some (.slice (some ⟨g2, 0, none⟩) p.length p.length) ∧
      Ow g1 (g1 + 1) wx [.slice (some ⟨g1, 0, none⟩) p.length p.length] (List.replicate p.length (0 : Int)) ∧ Ow g2 (g2 + 1) wx [.slice (some ⟨g2, 0, none⟩) p.length p.length] (List.replicate p.length (0 : Int)) ∧
      g ≠ g1 ∧ g ≠ g2 ∧ g1 ≠ g2 ∧ w.heap.size + 1 < g ∧ w.heap.size + 1 < g1 ∧ w.heap.size + 1 < g2 ∧ g < wx.heap.size ∧ g1 < wx.heap.size ∧ g2 < wx.heap.size ∧
      wx.cell? ⟨w.heap.size, 0, none⟩ = some (.slice ao p.length cap) ∧ wx.cell? ⟨w.heap.size, 1, none⟩ = some (.slice bo p.length dap) ∧ wx.cell? ⟨w.heap.size + 1, 0, none⟩ = some (.slice none 0 0) ∧ wx.cell? ⟨w.heap.size + 1, 1, none⟩ = some (.slice none 0 0) ∧ (∀ o, wx.frozen? ⟨w.heap.size + 1, o, none⟩ = false) ∧ Below w.heap.size w wx)
  case first =>
    go_region
    all_goals
      go_wp2_with fail
      go_meet
    all_goals exact ⟨_, _, _, rfl, rfl, rfl, by simp [go_sem], by simp [go_sem], Ow.made (E := 3) (by simp only [heap_alloc, heap_drew, Array.getElem?_push, Array.size_push]; simp) (by unfold maxLen; omega), Ow.made (E := 3) (by simp only [heap_alloc, heap_drew, Array.getElem?_push, Array.size_push]; simp) (by unfold maxLen; omega), by omega, by omega, by omega, by omega, by omega, by omega, by simp <;> omega, by simp <;> omega, by simp <;> omega, by simp [go_sem], by simp [go_sem], by simp [go_sem], by simp [go_sem], fun o => by simp [go_sem], bwT⟩
  case rest =>
    obtain ⟨g, g1, g2, rfl, rfl, rfl, q0, q1, ho1, ho2, n1, n2, n3, b0, b1, b2, l0, l1, l2, a0, a1, r0, r1, hfr, hB⟩ := hcut
    have HP := Lib.hid hp
    have HF := Lib.hid hc1
    have HQ := Lib.hid hc2
    have HN1 := Lib.hid hn1
    have HN2 := Lib.hid hn2
    clear hmk hnone hnc hp hc1 hc2 hn1 hn2
    have hsz := hB.size
    go_wp2
    go_loopw [7, 17] (fun _ i wr => ∃ k : Nat, k ≤ p.length ∧ i = .int .i64 k ∧ ∃ s1 s2 : List Int, Ow g1 (g1 + 1) wr [.slice (some ⟨g1, 0, none⟩) p.length p.length] s1 ∧ Ow g2 (g2 + 1) wr [.slice (some ⟨g2, 0, none⟩) p.length p.length] s2 ∧ Hid (relGo p s1 (p.drop k) (f.drop k) = relab p f) ∧ Hid (relGo p s2 (p.drop k) (q.drop k) = relab p q) ∧ OffF [g1, g2] wc wr) (fun _ i _ => p.length - (intOf i).toNat)
    case atStart => exact ⟨0, Nat.zero_le _, rfl, _, _, ho1, ho2, rfl, rfl, OffF.refl _ _⟩
    case round =>
      obtain ⟨k, hk, rfl, s1, s2, h1, h2, hr1, hr2, hoff⟩ := hrel
      clear ho1 ho2
      have hBr : Below w.heap.size w wr := hB.trans (hoff.toBelow hsz (fun b hb => by simp at hb; omega))
      have q0 := offk hoff (b := g) (by simp; omega) l0 q0
      have q1 := offk hoff (b := g) (by simp; omega) l0 q1
      have a0 := offk hoff (b := w.heap.size) (by simp; omega) (by omega) a0
      have a1 := offk hoff (b := w.heap.size) (by simp; omega) (by omega) a1
      have r0 := offk hoff (b := w.heap.size + 1) (by simp; omega) (by omega) r0
      have r1 := offk hoff (b := w.heap.size + 1) (by simp; omega) (by omega) r1
      have szr := hoff.size
      by_cases hlt : k < p.length
      · obtain ⟨pb, poff, x, rfl, hx, hcx, hx1, hx2, _, hpb, hpbw, _⟩ := (h'.below hBr).int_at hlt
        have hpw : pb < w.heap.size := by
          obtain ⟨_, _, _, e, _, _, _, _, _, _, hh, _⟩ := h'.int_at hlt
          simp only [Option.some.injEq, Addr.mk.injEq] at e; omega
        obtain ⟨fb, foff, y, rfl, hy, hcy, hy1, hy2, _⟩ := (hf.below hBr).int_at hlt
        have hfw : fb < w.heap.size := by
          obtain ⟨_, _, _, e, _, _, _, _, _, _, hh, _⟩ := hf.int_at hlt
          simp only [Option.some.injEq, Addr.mk.injEq] at e; omega
        obtain ⟨qb, qoff, z, rfl, hz, hcz, hz1, hz2, _⟩ := (hq.below hBr).int_at hlt
        have hqw : qb < w.heap.size := by
          obtain ⟨_, _, _, e, _, _, _, _, _, _, hh, _⟩ := hq.int_at hlt
          simp only [Option.some.injEq, Addr.mk.injEq] at e; omega
        have hxr := HP.out x (List.mem_of_getElem? hx.out)
        have hyr := HF.out y (List.mem_of_getElem? hy.out)
        have hzr := HQ.out z (List.mem_of_getElem? hz.out)
        obtain ⟨m, rfl⟩ := Int.eq_ofNat_of_zero_le hxr.1
        obtain ⟨j, rfl⟩ := Int.eq_ofNat_of_zero_le hyr.1
        obtain ⟨i, rfl⟩ := Int.eq_ofNat_of_zero_le hzr.1
        have hm : m < p.length := by omega
        have hj : j < p.length := by omega
        have hi : i < p.length := by omega
        obtain ⟨pb', poff', vj, e, hvj, hcj, hvj1, hvj2, _⟩ := (h'.below hBr).int_at hj
        simp only [Option.some.injEq, Addr.mk.injEq, and_true] at e
        obtain ⟨rfl, rfl⟩ := e
        obtain ⟨pb', poff', vi, e, hvi, hci, hvi1, hvi2, _⟩ := (h'.below hBr).int_at hi
        simp only [Option.some.injEq, Addr.mk.injEq, and_true] at e
        obtain ⟨rfl, rfl⟩ := e
        have R1 := Lib.hid (show relGo p (s1.set m vj) (p.drop (k + 1)) (f.drop (k + 1)) = relab p f by rw [← relGo_step hvj.out, ← drop_cons hx.out, ← drop_cons hy.out]; exact hr1.out)
        have R2 := Lib.hid (show relGo p (s2.set m vi) (p.drop (k + 1)) (q.drop (k + 1)) = relab p q by rw [← relGo_step hvi.out, ← drop_cons hx.out, ← drop_cons hz.out]; exact hr2.out)
        obtain ⟨e1, _, hce1, _, _, hfe1, _⟩ := h1.int_at0 hm
        obtain ⟨e2, _, hce2, _, _, hfe2, _⟩ := h2.int_at0 hm
        have k1 := h1.int_set0 hm (y := vj) ⟨hvj1, hvj2⟩
        have k2 := (h2.keep (Zone.setCell (Zone.refl _ _ _) (p := ⟨g1, m, none⟩) (show g1 < g2 ∨ g2 + 1 ≤ g1 by omega) (.int .i64 vj))).int_set0 hm (y := vi) ⟨hvi1, hvi2⟩
        have O1 := Lib.hid (k1.keep (Zone.setCell (Zone.refl _ _ _) (p := ⟨g2, m, none⟩) (show g2 < g1 ∨ g1 + 1 ≤ g2 by omega) (.int .i64 vi)))
        have O2 := Lib.hid k2
        clear k1 k2
        have hkI : (k : Int) < p.length := by omega
        have hmI : (m : Int) < p.length := by omega
        have hjI : (j : Int) < p.length := by omega
        have hiI : (i : Int) < p.length := by omega
        have d1 : ¬ g1 = pb := by omega
        have d2 : ¬ g1 = fb := by omega
        have d3 : ¬ g1 = qb := by omega
        have d4 : ¬ g1 = w.heap.size := by omega
        have d5 : ¬ g2 = pb := by omega
        have d6 : ¬ g2 = qb := by omega
        have d7 : ¬ g2 = w.heap.size := by omega
        have d8 : ¬ g1 = g := by omega
        have d9 : ¬ g2 = g := by omega
        have d10 : ¬ g1 = g2 := by omega
        have c1 : ¬ pb = g1 := by omega
        have c2 : ¬ fb = g1 := by omega
        have c3 : ¬ qb = g1 := by omega
        have c4 : ¬ w.heap.size = g1 := by omega
        have c5 : ¬ pb = g2 := by omega
        have c6 : ¬ qb = g2 := by omega
        have c7 : ¬ w.heap.size = g2 := by omega
        have c8 : ¬ g = g1 := by omega
        have c9 : ¬ g = g2 := by omega
        have c10 : ¬ g2 = g1 := by omega
        clear hx hy hz hvj hvi hr1 hr2 h1 h2 HP HF HQ h' hf hq hxr hyr hzr n1 n2 n3
        go_wp2_with fail
        go_region_held3 (fun w' => w'.cell? ⟨g, 0, none⟩ = some (.slice (some ⟨g1, 0, none⟩) p.length p.length) ∧ w'.cell? ⟨pb, poff + k, none⟩ = some (.int .i64 m) ∧ w'.cell? ⟨w.heap.size, 0, none⟩ = some (.slice (some ⟨fb, foff, none⟩) p.length cap) ∧ w'.cell? ⟨fb, foff + k, none⟩ = some (.int .i64 j) ∧ w'.cell? ⟨pb, poff + j, none⟩ = some (.int .i64 vj)) (go_keep) (fail)
        go_wp2_with fail
        go_region_held3 (fun w' => w'.cell? ⟨g, 1, none⟩ = some (.slice (some ⟨g2, 0, none⟩) p.length p.length) ∧ w'.cell? ⟨pb, poff + k, none⟩ = some (.int .i64 m) ∧ w'.cell? ⟨w.heap.size, 1, none⟩ = some (.slice (some ⟨qb, qoff, none⟩) p.length dap) ∧ w'.cell? ⟨qb, qoff + k, none⟩ = some (.int .i64 i) ∧ w'.cell? ⟨pb, poff + i, none⟩ = some (.int .i64 vi)) (go_keep) (fail)
        go_wp2
        go_roundw
        case rel => exact ⟨k + 1, by omega, by go_num, _, _, O1.out.keep znT, O2.out.keep znT, R1.out, R2.out, (by repeat' (first | (with_reducible exact OffF.refl _ _) | (with_reducible assumption) | (with_reducible refine OffF.drew ?_) | (with_reducible refine OffF.setCell ?_ (by simp) _) | (with_reducible refine OffF.alloc ?_ _)))⟩
        case measure => simp [intOf]; omega
      · have hk' : k = p.length := by omega
        subst hk'
        have E1 := Lib.hid (show relab p f = s1 by rw [← hr1.out, List.drop_eq_nil_of_le (Nat.le_refl _)]; rw [relGo]; simp)
        have E2 := Lib.hid (show relab p q = s2 by rw [← hr2.out, List.drop_eq_nil_of_le (Nat.le_refl _)]; rw [relGo]; simp)
        have hfr' : ∀ o, wr.frozen? ⟨w.heap.size + 1, o, none⟩ = false := fun o => (World.frozen?_of_block (a := ⟨w.heap.size + 1, o, none⟩) (hoff.block (w.heap.size + 1) (by omega) (by simp; omega))).trans (hfr o)
        have O := Lib.hid (Ow.pair h1 h2 (show g1 + 1 ≤ g2 ∨ g2 + 1 ≤ g1 by omega) (l := w.heap.size + 1 + 1) (h := wr.heap.size) (by omega) (by omega) (by omega) (by omega))
        clear h1 h2 hr1 hr2 HP HF HQ h' hf hq
        go_wp2
        exact bodyPost_ret (v := .agg #[.slice (some ⟨g1, 0, none⟩) p.length p.length, .slice (some ⟨g2, 0, none⟩) p.length p.length]) (by simp [results, go_sem, r0, r1]) rfl ⟨_, _, rfl, by rw [E1.out, E2.out]; exact (O.out.keep znT).top.mono (by omega) (by simp), bwT⟩
end
end Go.Proofs.Ytefbbbhidnnchaa
