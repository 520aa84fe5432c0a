/- Contract of the reference's l1Wed. Written by mkfu_gen.py. -/
import Derived.Test.YtefbbbhidnnchaaZ14K
namespace Go.Proofs.Ytefbbbhidnnchaa
set_option linter.unusedVariables false
set_option linter.unusedSimpArgs false
open Go.RowKit

theorem RdS.rdlo {α : Type} [Rep α] {S : Nat → Prop} {w : World} {cs : List Value} {x : α} {lo : Nat} (h : RdS S w cs x) (k : ∀ b, S b → lo ≤ b) : Rd false lo w.heap.size w cs x := by
  obtain ⟨fp, h1, h2⟩ := h
  exact ⟨fp, h1, fun b hb => ⟨k b (h2 b hb).2, (h2 b hb).1⟩⟩
theorem Rd.rdsF {α : Type} [Rep α] {S : Nat → Prop} {z : Bool} {lo hi : Nat} {w : World} {cs : List Value} {x : α} (h : Rd z lo hi w cs x) (k : ∀ b, lo ≤ b → b < hi → S b) : RdS S w cs x := by
  obtain ⟨fp, h1, h2⟩ := h
  exact ⟨fp, Rep.weak h1, fun b hb => ⟨Rep.lt h1 b hb, k b (h2 b hb).1 (h2 b hb).2⟩⟩
theorem Rd.fam_mk {z z' : Bool} {lo hi : Nat} {w : World} {a b : Value} {f : Fam} (h1 : Rd z lo hi w [a] f.1) (h2 : Rd z' lo hi w [b] f.2) : Rd false lo hi w [a, b] f := by
  obtain ⟨fp, a1, a2⟩ := h1
  obtain ⟨gp, b1, b2⟩ := h2
  refine ⟨fp ++ gp, ⟨[a], [b], fp, gp, rfl, rfl, Rep.weak a1, Rep.weak b1⟩, fun b hb => ?_⟩
  rcases List.mem_append.1 hb with hb | hb
  · exact a2 b hb
  · exact b2 b hb
structure WedBox (p lo F : Nat) (w0 : World) (f : Fam) (a b : Value) (W : World) : Prop where
  q0 : W.cell? ⟨F, 0, none⟩ = some a
  q1 : W.cell? ⟨F, 1, none⟩ = some b
  fF : ∀ o, W.frozen? ⟨F, o, none⟩ = false
  r0 : W.cell? ⟨F + 1, 0, none⟩ = some (.slice none 0 0)
  r1 : W.cell? ⟨F + 1, 1, none⟩ = some (.slice none 0 0)
  fR : ∀ o, W.frozen? ⟨F + 1, o, none⟩ = false
  own : RdS (fun b => lo ≤ b ∧ b ≠ F ∧ b ≠ F + 1) W [a, b] f
  cur : CurOk p W
  off : OffF [p] w0 W
  lR : F + 1 < W.heap.size
  pF : p < F
  h0 : w0.heap.size ≤ F
  pl : p < lo
theorem WedBox.drew {p lo F : Nat} {w0 W W' : World} {f : Fam} {a b : Value} (h : WedBox p lo F w0 f a b W) (hO : OffF [p] W W') (hC : CurOk p W') : WedBox p lo F w0 f a b W' := by
  have h1 := h.pF
  have h2 := h.lR
  have h5 := h.pl
  exact ⟨offq hO (by omega) (by omega) h.q0, offq hO (by omega) (by omega) h.q1, offfr hO (by omega) (by omega) h.fF, offq hO (by omega) h2 h.r0, offq hO (by omega) h2 h.r1, offfr hO (by omega) h2 h.fR,
    h.own.keep (fun b hl hS => hO.block b hl (by simp; omega)), hC, h.off.trans hO, Nat.lt_of_lt_of_le h2 hO.size, h1, h.h0, h.pl⟩
theorem WedBox.grow {p lo F : Nat} {w0 W W' : World} {f : Fam} {a b : Value} (h : WedBox p lo F w0 f a b W) (hb : Below W.heap.size W W') : WedBox p lo F w0 f a b W' := h.drew (OffF.below (OffF.refl [p] W) hb) (h.cur.grow hb)
theorem WedBox.put {p lo F : Nat} {w0 W : World} {f g : Fam} {a b a' b' : Value} (h : WedBox p lo F w0 f a b W) (hg : RdS (fun b => lo ≤ b ∧ b ≠ F ∧ b ≠ F + 1) W [a', b'] g) : WedBox p lo F w0 g a' b' ((W.setCell ⟨F, 0, none⟩ a').setCell ⟨F, 1, none⟩ b') := by
  have h1 := h.pF
  have h2 := h.lR
  have h3 := h.h0
  have hB : Below F W ((W.setCell ⟨F, 0, none⟩ a').setCell ⟨F, 1, none⟩ b') := bwT
  have kk : ∀ b, b ≠ F → ((W.setCell ⟨F, 0, none⟩ a').setCell ⟨F, 1, none⟩ b').heap[b]? = W.heap[b]? := fun b hb => (keep_set b hb).trans (keep_set b hb)
  have q0 : (W.setCell ⟨F, 0, none⟩ a').cell? ⟨F, 0, none⟩ = some a' := cell_here h.q0
  have q1 : (W.setCell ⟨F, 0, none⟩ a').cell? ⟨F, 1, none⟩ = some b := cell_there h.q1 (by omega)
  exact ⟨cell_there q0 (by omega), cell_here q1, fun o => frozen_setCell _ _ _ _ _ (frozen_setCell _ _ _ _ _ (h.fF o)), cell_far (kk _ (by omega)) h.r0, cell_far (kk _ (by omega)) h.r1, frz_far (kk _ (by omega)) h.fR,
    hg.keep (fun b _ hS => kk b hS.2.1), h.cur.below (hB.mono (by omega)), h.off.belowA (hB.mono (by omega)), by simp; exact h2, h1, h3, h.pl⟩
/-- A union in a box. -/
structure UB (U : Nat) (m wo fr tl : Int) (W : World) : Prop where
  c0 : W.cell? ⟨U, 0, none⟩ = some (.int .i64 m)
  c1 : W.cell? ⟨U, 1, none⟩ = some (.int .i64 wo)
  c2 : W.cell? ⟨U, 2, none⟩ = some (.int .i64 fr)
  c3 : W.cell? ⟨U, 3, none⟩ = some (.int .i64 tl)
  fU : ∀ o, W.frozen? ⟨U, o, none⟩ = false
  lU : U < W.heap.size
theorem UB.far {U : Nat} {m wo fr tl : Int} {W W' : World} (h : UB U m wo fr tl W) (hk : W'.heap[U]? = W.heap[U]?) (hs : W.heap.size ≤ W'.heap.size) : UB U m wo fr tl W' :=
  ⟨cell_far hk h.c0, cell_far hk h.c1, cell_far hk h.c2, cell_far hk h.c3, frz_far hk h.fU, Nat.lt_of_lt_of_le h.lU hs⟩
theorem UB.drew {p U : Nat} {m wo fr tl : Int} {W W' : World} (h : UB U m wo fr tl W) (hO : OffF [p] W W') (hp : U ≠ p) : UB U m wo fr tl W' := h.far (hO.block U h.lU (by simpa using hp)) hO.size
theorem UB.put3 {U : Nat} {m wo fr tl : Int} {W : World} (h : UB U m wo fr tl W) (x : Int) : UB U m wo fr x (W.setCell ⟨U, 3, none⟩ (.int .i64 x)) :=
  ⟨cell_there h.c0 (by omega), cell_there h.c1 (by omega), cell_there h.c2 (by omega), cell_here h.c3, fun o => frozen_setCell _ _ _ _ _ (h.fU o), by simp; exact h.lU⟩
theorem UB.new (W : World) (m wo fr tl : Int) (t : TypeId) : UB W.heap.size m wo fr tl (W.alloc (.cells #[.int .i64 m, .int .i64 wo, .int .i64 fr, .int .i64 tl] t)) := by
  constructor <;> simp [go_sem]
theorem UB.all {U : Nat} {W : World} {c0 c1 c2 c3 : Value} (h0 : W.cell? ⟨U, 0, none⟩ = some c0) (h1 : W.cell? ⟨U, 1, none⟩ = some c1) (h2 : W.cell? ⟨U, 2, none⟩ = some c2) (h3 : W.cell? ⟨U, 3, none⟩ = some c3) (hf : ∀ o, W.frozen? ⟨U, o, none⟩ = false) (hl : U < W.heap.size) (m wo fr tl : Int) :
    UB U m wo fr tl ((((W.setCell ⟨U, 0, none⟩ (.int .i64 m)).setCell ⟨U, 1, none⟩ (.int .i64 wo)).setCell ⟨U, 2, none⟩ (.int .i64 fr)).setCell ⟨U, 3, none⟩ (.int .i64 tl)) := by
  have a0 : (W.setCell ⟨U, 0, none⟩ (.int .i64 m)).cell? ⟨U, 0, none⟩ = some (.int .i64 m) := cell_here h0
  have a1 : (W.setCell ⟨U, 0, none⟩ (.int .i64 m)).cell? ⟨U, 1, none⟩ = some c1 := cell_there h1 (by omega)
  have a2 : (W.setCell ⟨U, 0, none⟩ (.int .i64 m)).cell? ⟨U, 2, none⟩ = some c2 := cell_there h2 (by omega)
  have a3 : (W.setCell ⟨U, 0, none⟩ (.int .i64 m)).cell? ⟨U, 3, none⟩ = some c3 := cell_there h3 (by omega)
  refine ⟨cell_there (cell_there (cell_there a0 (by omega)) (by omega)) (by omega), cell_there (cell_there (cell_here a1) (by omega)) (by omega), cell_there (cell_here (cell_there a2 (by omega))) (by omega), cell_here (cell_there (cell_there a3 (by omega)) (by omega)),
    fun o => frozen_setCell _ _ _ _ _ (frozen_setCell _ _ _ _ _ (frozen_setCell _ _ _ _ _ (frozen_setCell _ _ _ _ _ (hf o)))), by simp; exact hl⟩
theorem Rd.ints_of {W : World} {B : Nat} {xs : List Int} (hb : B < W.heap.size) (h : ∀ x ∈ xs, I64 x) (hl : xs.length ≤ maxLen) (hc : ∀ j u, (xs.map (Value.int .i64))[j]? = some u → W.cell? ⟨B, j, none⟩ = some u) : Rd false B (B + 1) W [.slice (some ⟨B, 0, none⟩) xs.length xs.length] xs := by
  refine ⟨[B], ⟨_, rfl, _, _, _, rfl, rfl, Nat.le_refl _, hl, (fun h => by cases h), .inr ⟨B, 0, _, _, rfl, hb, by rw [nil_ints], zip_ints_of h, ?_, fun h => by cases h⟩⟩, fun b hb => by simp at hb; omega⟩
  intro j c hj
  rw [flat_ints] at hj
  rw [Nat.zero_add]
  exact hc j c hj
theorem cells_uni (w : World) (m wo fr tl : Int) (t : TypeId) : ∀ (j : Nat) (c : Value), [Value.int .i64 m, .int .i64 wo, .int .i64 fr, .int .i64 tl][j]? = some c → (w.alloc (.cells #[.int .i64 m, .int .i64 wo, .int .i64 fr, .int .i64 tl] t)).cell? ((⟨w.heap.size, 0, none⟩ : Addr).add j) = some c := by
  intro j c hj
  match j, hj with
  | 0, hj => simp at hj; subst hj; simp [Addr.add, go_sem]
  | 1, hj => simp at hj; subst hj; simp [Addr.add, go_sem]
  | 2, hj => simp at hj; subst hj; simp [Addr.add, go_sem]
  | 3, hj => simp at hj; subst hj; simp [Addr.add, go_sem]
theorem gl_own {α : Type} [Rep α] {nd : Bool} {lo lo' hi : Nat} {w : World} {E : TypeId} {v : Value} {xs : List α} (h : GL nd lo lo' hi w E v xs) {g : Nat} (e : v.ownBlock = some g) : g < hi := by
  obtain ⟨css, fps, ho, hz, hf, hg, hn⟩ := h
  exact hg g e
theorem gl_lo {α : Type} [Rep α] {nd : Bool} {lo lo' hi : Nat} {w : World} {E : TypeId} {v : Value} {xs : List α} (h : GL nd lo lo' hi w E v xs) {g : Nat} (e : v.ownBlock = some g) : lo ≤ g := by
  obtain ⟨css, fps, ho, hz, hf, hg, hn⟩ := h
  exact (ho.lt g e).1
theorem gl_uni {lo lo' hi : Nat} {w : World} {v : Value} {xs : List Uni} {G : Nat} (h : GL true lo lo' hi w 65 v xs) (hG : ∃ cs, w.heap[G]? = some (.cells cs 26)) : RdS (fun b => lo ≤ b ∧ b ≠ G) w [v] xs := by
  obtain ⟨css, fps, ho, hz, hf, hg, hn⟩ := h
  have hfl := (flats hz).1
  rcases ho.2 with ⟨rfl, h⟩ | ⟨g, cap, cur, rfl, hbb, hh, h3, h4, h5, h6⟩
  · exact ⟨[], ⟨_, rfl, none, 0, 0, rfl, h, Nat.le_refl _, by simp [maxLen], fun _ => rfl, .inl ⟨rfl, rfl⟩⟩, (fun _ h => by cases h)⟩
  · have hr : Rep.rep true w [.slice (some ⟨g, 0, none⟩) xs.length cap] xs (g :: fps.flatten) := by
      refine ⟨_, rfl, some ⟨g, 0, none⟩, xs.length, cap, rfl, rfl, h3, h4, (fun h => by cases h), .inr ⟨g, 0, css, fps, rfl, (ho.lt g rfl).2, rfl, hz, ?_, ?_⟩⟩
      · intro j c hj
        have := ho.cells (g := g) rfl j c hj
        by_cases hj0 : j = 0
        · subst hj0; simpa [Addr.add] using this
        · simpa [Addr.add, hj0] using this
      · intro _ o
        simp [World.frozen?, hh]
    refine ⟨g :: fps.flatten, Rep.weak hr, fun b hb => ?_⟩
    rw [hfl, List.mem_singleton] at hb
    subst hb
    refine ⟨(ho.lt b rfl).2, hbb, fun e => ?_⟩
    subst e
    obtain ⟨cs, hcs⟩ := hG
    rw [hh] at hcs
    simp at hcs
set_option maxRecDepth 20000 in
set_option maxHeartbeats 16000000 in
theorem l1Wed_any {z : Bool} {lo hi : Nat} (w : World) (p : Nat) (h : CurOk p w) (v : Value) (ps : List Per) (hx : Rd z lo hi w [v] ps) (hpl : p < lo) (hlo : lo ≤ w.heap.size) (hh : hi ≤ w.heap.size) (hF : famB (ps, []) = true) (most : Nat) (hm : ps.length ≤ most) :
    Calls Try.prog 96 #[.pointer (some ⟨p, 0, none⟩), .agg #[v, .slice none 0 0]] w (PostFamL lo p most w) := by
  have hp := h.lt
  obtain ⟨vao, vn, vcap, rfl, hvn, -⟩ := hx.shape
  subst hvn
  have HFF := Lib.hid (famB_facts hF)
  have hl40 : ps.length ≤ 40 := HFF.out.1
  obtain ⟨W0, hW0⟩ : ∃ W0, W0 = ((w.alloc (.cells #[.slice vao ps.length vcap, .slice none 0 0] 26)).alloc (.cells #[.slice none 0 0, .slice none 0 0] 26)) := ⟨_, rfl⟩
  have HB0 := Lib.hid (show WedBox p lo w.heap.size w (ps, []) (.slice vao ps.length vcap) (.slice none 0 0) W0 by
    have hb : Below w.heap.size w W0 := by rw [hW0]; exact bwT
    have hb1 : Below (w.heap.size + 1) (w.alloc (.cells #[.slice vao ps.length vcap, .slice none 0 0] 26)) W0 := by rw [hW0]; exact bwT
    refine ⟨oldc hb1 (Nat.lt_succ_self _) (by simp [go_sem]), oldc hb1 (Nat.lt_succ_self _) (by simp [go_sem]), fun o => (hb1.frozen (p := ⟨w.heap.size, o, none⟩) (Nat.lt_succ_self _)).trans (by simp [go_sem]), by rw [hW0]; simp [go_sem], by rw [hW0]; simp [go_sem], by rw [hW0]; simp [go_sem],
      ((Rd.fam_mk (f := (ps, [])) (hx.below hb) (((GL.start (α := Uni) true lo lo hi W0 65).ow (Nat.le_refl _) (Nat.le_refl _)).rd)).rdsF fun b h1 h2 => by omega), h.grow hb, OffF.below (OffF.refl [p] w) hb, by rw [hW0]; simp, hp, Nat.le_refl _, hpl⟩)
  clear h hx
  go_enter Try.func96, Try.ntmps96
  go_upto_region 1 with fail
  rw [← hW0]
  clear hW0
  have q0 := HB0.out.q0
  have q1 := HB0.out.q1
  go_wp2_with fail
  refine (depS_any _ _ _ ps (HB0.out.own.rd.fam).1 HFF.out.2.2.1 hl40).mono ?_
  rintro e w1 ⟨dv, rfl, hod, hb1⟩
  obtain ⟨da, dn, dcap, rfl, hdn, -⟩ := hod.rd.shape
  have hlR := HB0.out.lR
  have HB1 := Lib.hid (HB0.out.grow hb1)
  obtain ⟨dlo, hdlo⟩ : ∃ d, d = W0.heap.size := ⟨_, rfl⟩
  obtain ⟨dhi, hdhi⟩ : ∃ d, d = w1.heap.size := ⟨_, rfl⟩
  have HD := Lib.hid (show Rd true dlo dhi w1 [.slice da dn dcap] (deps ps) by rw [hdlo, hdhi]; exact hod.rd)
  have hdp : p < dlo := by omega
  have hdF : w.heap.size + 1 < dlo := by omega
  have hdh : dhi ≤ w1.heap.size := by omega
  clear hod hb1 q0 q1 HB0 hdlo hdhi
  have q0 := HB1.out.q0
  have q1 := HB1.out.q1
  obtain ⟨n2, hn2⟩ : ∃ n : Nat, n = ps.length / 2 := ⟨_, rfl⟩
  have e2 : (ps.length : Int).tdiv 2 = (n2 : Int) := by rw [Int.tdiv_eq_ediv_of_nonneg (by omega)]; omega
  have hn20 : n2 ≤ 20 := by omega
  clear hn2
  go_wp2_with fail
  refine (l01Below_any _ p HB1.out.cur ((n2 : Int) + 1) (by omega) (by omega)).mono ?_
  rintro e w2 ⟨k0, rfl, ⟨hk0, hk1⟩, hC2, hO2⟩
  obtain ⟨K, rfl⟩ := Int.eq_ofNat_of_zero_le hk0
  have HB2 := Lib.hid (HB1.out.drew hO2 hC2)
  have HD2 := Lib.hid (HD.out.keep (offzn hO2 (.inl hdp) hdh))
  have hdh2 : dhi ≤ w2.heap.size := Nat.le_trans hdh hO2.size
  clear hC2 hO2 q0 q1 e2 HB1 HD hdh hk0
  have hK : K ≤ 20 := by omega
  clear hk1
  go_wp2
  go_loopw [6, 7, 8, 9, 10] (fun s6 _ _ _ _ wl => ∃ (k : Nat) (a b : Value) (us : List Uni), s6 = .int .i64 k ∧ k ≤ 20 ∧ Hid (WedBox p lo w.heap.size w (ps, us) a b wl) ∧ Hid (famB (ps, us) = true) ∧ Hid (Rd true dlo dhi wl [.slice da dn dcap] (deps ps)) ∧ dhi ≤ wl.heap.size) (fun s6 _ _ _ _ _ => (intOf s6).toNat)
  case atStart => exact ⟨K, _, _, [], rfl, hK, HB2, Lib.hid hF, HD2, hdh2⟩
  case round =>
    clear HB2 HD2 hdh2
    obtain ⟨wl, hwl⟩ : ∃ x : World, x = wr := ⟨_, rfl⟩
    subst hwl
    obtain ⟨k, a, b, us, rfl, hk20, HB, HU, HD, hdh⟩ := hrel
    obtain ⟨aa, an, ac, ba, bn, bc, rfl, rfl⟩ := shapeFam HB.out.own.rd
    obtain ⟨_, _, _, e1, e2, -⟩ := (HB.out.own.rd.fam).1.shape
    simp only [Value.slice.injEq] at e1
    obtain ⟨rfl, rfl, rfl⟩ := e1
    obtain ⟨_, _, _, e1, e3, -⟩ := (HB.out.own.rd.fam).2.shape
    simp only [Value.slice.injEq] at e1
    obtain ⟨rfl, rfl, rfl⟩ := e1
    dsimp only at e2 e3
    subst e2
    subst e3
    have q0 := HB.out.q0
    have q1 := HB.out.q1
    by_cases hk : 0 < k
    · have hkI : (0 : Int) < (k : Int) := by omega
      have hwk : wrap64 ((k : Int) - 1) = ((k - 1 : Nat) : Int) := (IntWalk.wrap64_in _ (by omega)).trans (by omega)
      go_wp2_with fail
      refine (l1Some_any _ p HB.out.cur _ _ _ ps (HB.out.own.rdlo (lo := lo) (fun b hS => hS.1)).fam.1 (deps ps) HD.out (deps_len ps) hl40 (by omega) (Nat.le_refl _) hdp hdh 1).mono ?_
      rintro e w3 ⟨r1, rfl, hr1, hC3, hO3⟩
      have HB3 := Lib.hid (HB.out.drew hO3 hC3)
      have HD3 := Lib.hid (HD.out.keep (offzn hO3 (.inl hdp) hdh))
      have hdh3 : dhi ≤ w3.heap.size := Nat.le_trans hdh hO3.size
      clear hC3 hO3 q0 q1 HB HD hdh
      have q0 := HB3.out.q0
      have q1 := HB3.out.q1
      go_wp2_with fail
      refine (l1Some_any _ p HB3.out.cur _ _ _ ps (HB3.out.own.rdlo (lo := lo) (fun b hS => hS.1)).fam.1 (deps ps) HD3.out (deps_len ps) hl40 (by omega) (Nat.le_refl _) hdp hdh3 2).mono ?_
      rintro e w4 ⟨r2, rfl, hr2, hC4, hO4⟩
      have HB4 := Lib.hid (HB3.out.drew hO4 hC4)
      have HD4 := Lib.hid (HD3.out.keep (offzn hO4 (.inl hdp) hdh3))
      have hdh4 : dhi ≤ w4.heap.size := Nat.le_trans hdh3 hO4.size
      clear hC4 hO4 q0 q1 HB3 HD3 hdh3
      have HR1 := Lib.hid (show r1 = -1 ∨ ∃ m : Nat, r1 = m ∧ m < ps.length by
        rcases hr1.out with h | ⟨m, _, _, _, _, _, h1, h2, -⟩
        · exact .inl h
        · exact .inr ⟨m, h1, (List.getElem?_eq_some_iff.1 h2).1⟩)
      have HR2 := Lib.hid (show r2 = -1 ∨ ∃ m : Nat, r2 = m ∧ m < ps.length by
        rcases hr2.out with h | ⟨m, _, _, _, _, _, h1, h2, -⟩
        · exact .inl h
        · exact .inr ⟨m, h1, (List.getElem?_eq_some_iff.1 h2).1⟩)
      clear hr1 hr2
      by_cases hn1 : r1 < 0
      · clear HR1 HR2
        go_wp2
        go_roundw
        case rel => exact ⟨k - 1, _, _, us, by first | rfl | go_num, by omega, HB4, HU, HD4, hdh4⟩
        case measure => simp [intOf]; omega
      by_cases hn2 : r2 < 0
      · clear HR1 HR2
        go_wp2
        go_roundw
        case rel => exact ⟨k - 1, _, _, us, by first | rfl | go_num, by omega, HB4, HU, HD4, hdh4⟩
        case measure => simp [intOf]; omega
      obtain ⟨m, rfl, hml⟩ := HR1.out.resolve_left (by omega)
      obtain ⟨wo, rfl, hwl2⟩ := HR2.out.resolve_left (by omega)
      clear HR1 HR2
      obtain ⟨bx, ofx, xnm, xsx, xfa, xmo, xbo, xdi, hao, hxx, -, -, -, -, x4, -, -, -, -, -, gx, -, hbp, -, hbx, -⟩ := ((HB4.out.own.rdlo (lo := lo) (fun b hS => hS.1)).fam).1.per_at hml
      obtain ⟨_, _, ynm, ysx, yfa, ymo, ybo, ydi, hao2, hyy, -, -, -, -, y4, -, -, -, -, -, gy, -⟩ := (HB4.out.own.rd.fam).1.per_at hwl2
      subst hao
      simp only [Option.some.injEq, Addr.mk.injEq, and_true] at hao2
      obtain ⟨rfl, rfl⟩ := hao2
      have hxb : 0 ≤ xbo ∧ xbo ≤ 9999 := (HFF.out.2.2.1.at hml hxx.out).2.1
      have hyb : 0 ≤ ybo ∧ ybo ≤ 9999 := (HFF.out.2.2.1.at hwl2 hyy.out).2.1
      have hmI : (m : Int) < (ps.length : Int) := by omega
      have hwI : (wo : Int) < (ps.length : Int) := by omega
      clear hxx hyy gx gy
      obtain ⟨mx, hmx⟩ : ∃ mx, max xbo ybo = mx := ⟨_, rfl⟩
      have hmx2 : 0 ≤ mx ∧ mx ≤ 9999 := by omega
      have q0 := HB4.out.q0
      have hC4 := HB4.out.cur
      have hpF := HB4.out.pF
      have hlR4 := HB4.out.lR
      go_upto_region 8 with fail
      go_cut [9] (fun s9 wx => ∃ (U : Nat) (fr : Int), s9 = .pointer (some ⟨U, 0, none⟩) ∧ w4.heap.size ≤ U ∧ (0 ≤ fr ∧ fr ≤ 10029) ∧ Hid (UB U m wo fr (-1) wx) ∧ Hid (OffF [p] w4 wx) ∧ Hid (CurOk p wx))
      case first =>
        refine wp_region_held_drew (S := (fun w' => w'.cell? ⟨w.heap.size, 0, none⟩ = some (.slice (some ⟨bx, ofx, none⟩) ps.length ac) ∧ w'.cell? ⟨bx, ofx + m * 6 + 4, none⟩ = some (.int .i64 xbo) ∧ w'.cell? ⟨bx, ofx + wo * 6 + 4, none⟩ = some (.int .i64 ybo))) (by kernel_rfl) ?_ (fun hHeld => ?_)
        · first | exact trivial | ((try dsimp only); go_keep)
        refine tkR 0 (v := ?_) ?_ ?_
        rotate_left
        · intro w hSw; (try dsimp only at hSw); go_simp <;> with_reducible rfl
        try simp only [Act.put, List.setIfInBounds_toArray, List.set_cons_zero, List.set_cons_succ]
        refine tkR 1 (v := ?_) ?_ ?_
        rotate_left
        · intro w hSw; (try dsimp only at hSw); go_simp <;> with_reducible rfl
        try simp only [Act.put, List.setIfInBounds_toArray, List.set_cons_zero, List.set_cons_succ]
        refine tkR 2 (v := ?_) ?_ ?_
        rotate_left
        · intro w hSw; (try dsimp only at hSw); go_simp <;> with_reducible rfl
        try simp only [Act.put, List.setIfInBounds_toArray, List.set_cons_zero, List.set_cons_succ]
        refine tkR 4 (v := ?_) ?_ ?_
        rotate_left
        · intro w hSw; (try dsimp only at hSw); go_simp <;> with_reducible rfl
        try simp only [Act.put, List.setIfInBounds_toArray, List.set_cons_zero, List.set_cons_succ]
        refine tkR 8 (v := ?_) ?_ ?_
        rotate_left
        · intro w hSw; (try dsimp only at hSw); go_simp <;> with_reducible rfl
        try simp only [Act.put, List.setIfInBounds_toArray, List.set_cons_zero, List.set_cons_succ]
        refine tkR 10 (v := ?_) ?_ ?_
        rotate_left
        · intro w hSw; (try dsimp only at hSw); go_simp <;> with_reducible rfl
        try simp only [Act.put, List.setIfInBounds_toArray, List.set_cons_zero, List.set_cons_succ]
        refine tkR 15 (v := ?_) ?_ ?_
        rotate_left
        · intro w hSw; (try dsimp only at hSw); go_simp <;> with_reducible rfl
        try simp only [Act.put, List.setIfInBounds_toArray, List.set_cons_zero, List.set_cons_succ]
        refine tkR 3 (v := ?_) ?_ ?_
        rotate_left
        · intro w hSw; (try dsimp only at hSw); go_simp <;> with_reducible rfl
        try simp only [Act.put, List.setIfInBounds_toArray, List.set_cons_zero, List.set_cons_succ]
        refine tkR 9 (v := ?_) ?_ ?_
        rotate_left
        · intro w hSw; (try dsimp only at hSw); go_simp <;> with_reducible rfl
        try simp only [Act.put, List.setIfInBounds_toArray, List.set_cons_zero, List.set_cons_succ]
        refine tkR 5 (v := ?_) ?_ ?_
        rotate_left
        · intro w hSw; (try dsimp only at hSw); go_simp <;> with_reducible rfl
        try simp only [Act.put, List.setIfInBounds_toArray, List.set_cons_zero, List.set_cons_succ]
        refine tkR 11 (v := ?_) ?_ ?_
        rotate_left
        · intro w hSw; (try dsimp only at hSw); go_simp <;> with_reducible rfl
        try simp only [Act.put, List.setIfInBounds_toArray, List.set_cons_zero, List.set_cons_succ]
        refine tkR 6 (v := ?_) ?_ ?_
        rotate_left
        · intro w hSw; (try dsimp only at hSw); go_simp <;> with_reducible rfl
        try simp only [Act.put, List.setIfInBounds_toArray, List.set_cons_zero, List.set_cons_succ]
        refine tkR 12 (v := ?_) ?_ ?_
        rotate_left
        · intro w hSw; (try dsimp only at hSw); go_simp <;> with_reducible rfl
        try simp only [Act.put, List.setIfInBounds_toArray, List.set_cons_zero, List.set_cons_succ]
        refine tkR 7 (v := ?_) ?_ ?_
        rotate_left
        · intro w hSw; (try dsimp only at hSw); go_simp <;> with_reducible rfl
        try simp only [Act.put, List.setIfInBounds_toArray, List.set_cons_zero, List.set_cons_succ]
        refine tkR 13 (v := ?_) ?_ ?_
        rotate_left
        · intro w hSw; (try dsimp only at hSw); go_simp <;> with_reducible rfl
        try simp only [Act.put, List.setIfInBounds_toArray, List.set_cons_zero, List.set_cons_succ]
        refine tkR 14 (v := ?_) ?_ ?_
        rotate_left
        · intro w hSw; (try dsimp only at hSw); go_simp <;> with_reducible rfl
        try simp only [Act.put, List.setIfInBounds_toArray, List.set_cons_zero, List.set_cons_succ]
        refine wpAnyH_ready (rs := [16, 20]) (by kernel_rfl) (by simp) ?_
        refine rdR (fun K hK => ?_) ?_
        · go_simp
          refine hK.out _ _ ?_ (fun hHeld => ?_)
          · exact kpT
          clear hK K
          try simp only [Act.put, List.setIfInBounds_toArray, List.set_cons_zero, List.set_cons_succ]
          refine wpAnyH_ready (rs := [17, 20]) (by kernel_rfl) (by simp) ?_
          refine rdR (fun K hK => ?_) ?_
          · go_simp
            refine (l01Int_any _ p (hC4.grow ?b1) _ [0, 1, 16, 20, 30] (Rd.ints_of (B := w4.heap.size) (by first | (simp; done) | (simp; omega)) (by simp [I64]) (by simp [maxLen]) ?c1) (by simp) (by simp) (.inl (by omega)) (by first | (simp; done) | (simp; omega))).mono ?_
            case b1 => exact bwT
            case c1 =>
              intro j u hj
              match j, hj with
              | 0, hj => simp at hj; subst hj; simp [go_sem]
              | 1, hj => simp at hj; subst hj; simp [go_sem]
              | 2, hj => simp at hj; subst hj; simp [go_sem]
              | 3, hj => simp at hj; subst hj; simp [go_sem]
              | 4, hj => simp at hj; subst hj; simp [go_sem]
            rintro e wy ⟨c, rfl, hc, hCy, hOy⟩
            have hc2 : 0 ≤ c ∧ c ≤ 30 := by simp at hc; omega
            have hOf := Lib.hid (show OffF [p] w4 wy from (OffF.below (OffF.refl [p] w4) bwT).trans hOy)
            have sy := hOf.out.size
            have hS17 := And.intro (offq hOf.out (show w.heap.size ≠ p by omega) (by omega) q0) (And.intro (offq hOf.out (show bx ≠ p by omega) hbx x4) (offq hOf.out (show bx ≠ p by omega) hbx y4))
            have hw3 : IntKind.i64.wrap (mx + c) = mx + c := IntWalk.i64_in _ (by omega)
            clear hc hOy
            refine hK.out _ _ ?_ (fun hHeld => ?_)
            · exact kpT
            clear hK K
            try simp only [Act.put, List.setIfInBounds_toArray, List.set_cons_zero, List.set_cons_succ]
            refine tkR 18 (v := ?_) ?_ ?_
            rotate_left
            · intro w hSw; (try dsimp only at hSw); go_simp <;> with_reducible rfl
            try simp only [Act.put, List.setIfInBounds_toArray, List.set_cons_zero, List.set_cons_succ]
            refine tkR 19 (v := ?_) ?_ ?_
            rotate_left
            · intro w hSw; (try dsimp only at hSw); go_simp <;> with_reducible rfl
            try simp only [Act.put, List.setIfInBounds_toArray, List.set_cons_zero, List.set_cons_succ]
            refine wpAnyH_ready (rs := [20]) (by kernel_rfl) (by simp) ?_
            refine rdR (fun K hK => ?_) ?_
            · go_simp
              refine hK.out _ _ ?_ (fun hHeld => ?_)
              · exact kpT
              clear hK K
              try simp only [Act.put, List.setIfInBounds_toArray, List.set_cons_zero, List.set_cons_succ]
              refine wpAnyH_ready (rs := [21]) (by kernel_rfl) (by simp) ?_
              refine rdR (fun K hK => ?_) ?_
              · go_simp
                refine hK.out _ _ ?_ (fun hHeld => ?_)
                · exact kpT
                clear hK K
                try simp only [Act.put, List.setIfInBounds_toArray, List.set_cons_zero, List.set_cons_succ]
                refine wpAnyH_done (by kernel_rfl) ?_ _
                clear hHeld
                go_wp2_with fail
                go_meet
                exact ⟨wy.heap.size, mx + c, rfl, sy, by omega, Lib.hid (UB.new _ _ _ _ _ _), Lib.hid (hOf.out.belowA bwT), Lib.hid (hCy.below bwT)⟩
              exact AllReadyH.nil
            exact AllReadyH.nil
          refine rdR (fun K hK => ?_) ?_
          · go_simp
            refine hK.out _ _ ?_ (fun hHeld => ?_)
            · exact kpT
            clear hK K
            try simp only [Act.put, List.setIfInBounds_toArray, List.set_cons_zero, List.set_cons_succ]
            refine wpAnyH_ready (rs := [17]) (by kernel_rfl) (by simp) ?_
            refine rdR (fun K hK => ?_) ?_
            · go_simp
              refine (l01Int_any _ p (hC4.grow ?b1) _ [0, 1, 16, 20, 30] (Rd.ints_of (B := w4.heap.size) (by first | (simp; done) | (simp; omega)) (by simp [I64]) (by simp [maxLen]) ?c1) (by simp) (by simp) (.inl (by omega)) (by first | (simp; done) | (simp; omega))).mono ?_
              case b1 => exact bwT
              case c1 =>
                intro j u hj
                match j, hj with
                | 0, hj => simp at hj; subst hj; simp [go_sem]
                | 1, hj => simp at hj; subst hj; simp [go_sem]
                | 2, hj => simp at hj; subst hj; simp [go_sem]
                | 3, hj => simp at hj; subst hj; simp [go_sem]
                | 4, hj => simp at hj; subst hj; simp [go_sem]
              rintro e wy ⟨c, rfl, hc, hCy, hOy⟩
              have hc2 : 0 ≤ c ∧ c ≤ 30 := by simp at hc; omega
              have hOf := Lib.hid (show OffF [p] w4 wy from (OffF.below (OffF.refl [p] w4) bwT).trans hOy)
              have sy := hOf.out.size
              have hS17 := And.intro (offq hOf.out (show w.heap.size ≠ p by omega) (by omega) q0) (And.intro (offq hOf.out (show bx ≠ p by omega) hbx x4) (offq hOf.out (show bx ≠ p by omega) hbx y4))
              have hw3 : IntKind.i64.wrap (mx + c) = mx + c := IntWalk.i64_in _ (by omega)
              have u0 : wy.cell? ⟨w4.heap.size + 1, 0, none⟩ = some (.int .i64 0) := offq hOy (by omega) (by first | (simp; done) | (simp; omega)) (by simp [go_sem])
              have u1 : wy.cell? ⟨w4.heap.size + 1, 1, none⟩ = some (.int .i64 0) := offq hOy (by omega) (by first | (simp; done) | (simp; omega)) (by simp [go_sem])
              have u2 : wy.cell? ⟨w4.heap.size + 1, 2, none⟩ = some (.int .i64 0) := offq hOy (by omega) (by first | (simp; done) | (simp; omega)) (by simp [go_sem])
              have u3 : wy.cell? ⟨w4.heap.size + 1, 3, none⟩ = some (.int .i64 0) := offq hOy (by omega) (by first | (simp; done) | (simp; omega)) (by simp [go_sem])
              have uf : ∀ o, wy.frozen? ⟨w4.heap.size + 1, o, none⟩ = false := offfr hOy (by omega) (by first | (simp; done) | (simp; omega)) (by simp [go_sem])
              have ul : w4.heap.size + 1 < wy.heap.size := Nat.lt_of_lt_of_le (by first | (simp; done) | (simp; omega)) hOy.size
              clear hc hOy
              refine hK.out _ _ ?_ (fun hHeld => ?_)
              · exact kpT
              clear hK K
              try simp only [Act.put, List.setIfInBounds_toArray, List.set_cons_zero, List.set_cons_succ]
              refine tkR 18 (v := ?_) ?_ ?_
              rotate_left
              · intro w hSw; (try dsimp only at hSw); go_simp <;> with_reducible rfl
              try simp only [Act.put, List.setIfInBounds_toArray, List.set_cons_zero, List.set_cons_succ]
              refine tkR 19 (v := ?_) ?_ ?_
              rotate_left
              · intro w hSw; (try dsimp only at hSw); go_simp <;> with_reducible rfl
              try simp only [Act.put, List.setIfInBounds_toArray, List.set_cons_zero, List.set_cons_succ]
              refine wpAnyH_ready (rs := [21]) (by kernel_rfl) (by simp) ?_
              refine rdR (fun K hK => ?_) ?_
              · go_simp
                refine hK.out _ _ ?_ (fun hHeld => ?_)
                · exact kpT
                clear hK K
                try simp only [Act.put, List.setIfInBounds_toArray, List.set_cons_zero, List.set_cons_succ]
                refine wpAnyH_done (by kernel_rfl) ?_ _
                clear hHeld
                go_wp2_with fail
                go_meet
                exact ⟨w4.heap.size + 1, mx + c, rfl, by omega, by omega, Lib.hid (UB.all u0 u1 u2 u3 uf ul _ _ _ _), Lib.hid (hOf.out.belowA bwT), Lib.hid (hCy.below bwT)⟩
              exact AllReadyH.nil
            exact AllReadyH.nil
          exact AllReadyH.nil
        refine rdR (fun K hK => ?_) ?_
        · go_simp
          refine hK.out _ _ ?_ (fun hHeld => ?_)
          · exact kpT
          clear hK K
          try simp only [Act.put, List.setIfInBounds_toArray, List.set_cons_zero, List.set_cons_succ]
          refine wpAnyH_ready (rs := [16]) (by kernel_rfl) (by simp) ?_
          refine rdR (fun K hK => ?_) ?_
          · go_simp
            refine hK.out _ _ ?_ (fun hHeld => ?_)
            · exact kpT
            clear hK K
            try simp only [Act.put, List.setIfInBounds_toArray, List.set_cons_zero, List.set_cons_succ]
            refine wpAnyH_ready (rs := [17]) (by kernel_rfl) (by simp) ?_
            refine rdR (fun K hK => ?_) ?_
            · go_simp
              refine (l01Int_any _ p (hC4.grow ?b1) _ [0, 1, 16, 20, 30] (Rd.ints_of (B := w4.heap.size + 1) (by first | (simp; done) | (simp; omega)) (by simp [I64]) (by simp [maxLen]) ?c1) (by simp) (by simp) (.inl (by omega)) (by first | (simp; done) | (simp; omega))).mono ?_
              case b1 => exact bwT
              case c1 =>
                intro j u hj
                match j, hj with
                | 0, hj => simp at hj; subst hj; simp [go_sem]
                | 1, hj => simp at hj; subst hj; simp [go_sem]
                | 2, hj => simp at hj; subst hj; simp [go_sem]
                | 3, hj => simp at hj; subst hj; simp [go_sem]
                | 4, hj => simp at hj; subst hj; simp [go_sem]
              rintro e wy ⟨c, rfl, hc, hCy, hOy⟩
              have hc2 : 0 ≤ c ∧ c ≤ 30 := by simp at hc; omega
              have hOf := Lib.hid (show OffF [p] w4 wy from (OffF.below (OffF.refl [p] w4) bwT).trans hOy)
              have sy := hOf.out.size
              have hS17 := And.intro (offq hOf.out (show w.heap.size ≠ p by omega) (by omega) q0) (And.intro (offq hOf.out (show bx ≠ p by omega) hbx x4) (offq hOf.out (show bx ≠ p by omega) hbx y4))
              have hw3 : IntKind.i64.wrap (mx + c) = mx + c := IntWalk.i64_in _ (by omega)
              have u0 : wy.cell? ⟨w4.heap.size, 0, none⟩ = some (.int .i64 0) := offq hOy (by omega) (by first | (simp; done) | (simp; omega)) (by simp [go_sem])
              have u1 : wy.cell? ⟨w4.heap.size, 1, none⟩ = some (.int .i64 0) := offq hOy (by omega) (by first | (simp; done) | (simp; omega)) (by simp [go_sem])
              have u2 : wy.cell? ⟨w4.heap.size, 2, none⟩ = some (.int .i64 0) := offq hOy (by omega) (by first | (simp; done) | (simp; omega)) (by simp [go_sem])
              have u3 : wy.cell? ⟨w4.heap.size, 3, none⟩ = some (.int .i64 0) := offq hOy (by omega) (by first | (simp; done) | (simp; omega)) (by simp [go_sem])
              have uf : ∀ o, wy.frozen? ⟨w4.heap.size, o, none⟩ = false := offfr hOy (by omega) (by first | (simp; done) | (simp; omega)) (by simp [go_sem])
              have ul : w4.heap.size < wy.heap.size := Nat.lt_of_lt_of_le (by first | (simp; done) | (simp; omega)) hOy.size
              clear hc hOy
              refine hK.out _ _ ?_ (fun hHeld => ?_)
              · exact kpT
              clear hK K
              try simp only [Act.put, List.setIfInBounds_toArray, List.set_cons_zero, List.set_cons_succ]
              refine tkR 18 (v := ?_) ?_ ?_
              rotate_left
              · intro w hSw; (try dsimp only at hSw); go_simp <;> with_reducible rfl
              try simp only [Act.put, List.setIfInBounds_toArray, List.set_cons_zero, List.set_cons_succ]
              refine tkR 19 (v := ?_) ?_ ?_
              rotate_left
              · intro w hSw; (try dsimp only at hSw); go_simp <;> with_reducible rfl
              try simp only [Act.put, List.setIfInBounds_toArray, List.set_cons_zero, List.set_cons_succ]
              refine wpAnyH_ready (rs := [21]) (by kernel_rfl) (by simp) ?_
              refine rdR (fun K hK => ?_) ?_
              · go_simp
                refine hK.out _ _ ?_ (fun hHeld => ?_)
                · exact kpT
                clear hK K
                try simp only [Act.put, List.setIfInBounds_toArray, List.set_cons_zero, List.set_cons_succ]
                refine wpAnyH_done (by kernel_rfl) ?_ _
                clear hHeld
                go_wp2_with fail
                go_meet
                exact ⟨w4.heap.size, mx + c, rfl, Nat.le_refl _, by omega, Lib.hid (UB.all u0 u1 u2 u3 uf ul _ _ _ _), Lib.hid (hOf.out.belowA bwT), Lib.hid (hCy.below bwT)⟩
              exact AllReadyH.nil
            exact AllReadyH.nil
          exact AllReadyH.nil
        exact AllReadyH.nil
      case rest =>
        obtain ⟨w5, hw5⟩ : ∃ W : World, W = wc := ⟨_, rfl⟩
        subst hw5
        obtain ⟨U, fr, rfl, hU4, hfr, HUB, HOF, HCU⟩ := hcut
        clear x4 y4 hmx q0
        go_wp2_with fail
        refine (l01Once_any _ p HCU.out 4 (by omega) (by omega)).mono ?_
        rintro e w6 ⟨o6, rfl, hC6, hO6⟩
        have HUB6 := Lib.hid (HUB.out.drew hO6 (by omega))
        have HOF6 := Lib.hid (HOF.out.trans hO6)
        have HC6 := Lib.hid hC6
        clear hC6 hO6 HUB HOF HCU
        go_upto_if 59 with fail
        go_cut [9] (fun s9 wx => s9 = .pointer (some ⟨U, 0, none⟩) ∧ ∃ tl : Int, I64 tl ∧ Hid (UB U m wo fr tl wx) ∧ Hid (OffF [p] w4 wx) ∧ Hid (CurOk p wx))
        case first =>
          cases o6
          · go_wp2_with fail
            go_meet
            exact ⟨rfl, -1, by unfold I64; omega, HUB6, HOF6, HC6⟩
          · have c2 := HUB6.out.c2
            have lU := HUB6.out.lU
            have hC6 := HC6.out
            go_upto_region 10 with fail
            refine wp_region_held_drew (S := (fun w' => w'.cell? ⟨U, 2, none⟩ = some (.int .i64 fr))) (by kernel_rfl) ?_ (fun hHeld => ?_)
            · first | exact trivial | ((try dsimp only); go_keep)
            refine tkR 0 (v := ?_) ?_ ?_
            rotate_left
            · intro w hSw; (try dsimp only at hSw); go_simp <;> with_reducible rfl
            try simp only [Act.put, List.setIfInBounds_toArray, List.set_cons_zero, List.set_cons_succ]
            refine tkR 2 (v := ?_) ?_ ?_
            rotate_left
            · intro w hSw; (try dsimp only at hSw); go_simp <;> with_reducible rfl
            try simp only [Act.put, List.setIfInBounds_toArray, List.set_cons_zero, List.set_cons_succ]
            refine tkR 1 (v := ?_) ?_ ?_
            rotate_left
            · intro w hSw; (try dsimp only at hSw); go_simp <;> with_reducible rfl
            try simp only [Act.put, List.setIfInBounds_toArray, List.set_cons_zero, List.set_cons_succ]
            refine wpAnyH_ready (rs := [3]) (by kernel_rfl) (by simp) ?_
            refine rdR (fun K hK => ?_) ?_
            · go_simp
              refine hK.out _ _ ?_ (fun hHeld => ?_)
              · exact kpT
              clear hK K
              try simp only [Act.put, List.setIfInBounds_toArray, List.set_cons_zero, List.set_cons_succ]
              refine wpAnyH_ready (rs := [4]) (by kernel_rfl) (by simp) ?_
              refine rdR (fun K hK => ?_) ?_
              · go_simp
                refine (l01Int_any _ p (hC6.grow ?b1) _ [0, 1, 9] (Rd.ints_of (B := w6.heap.size) (by first | (simp; done) | (simp; omega)) (by simp [I64]) (by simp [maxLen]) ?c1) (by simp) (by simp) (.inl (by omega)) (by first | (simp; done) | (simp; omega))).mono ?_
                case b1 => exact bwT
                case c1 =>
                  intro j u hj
                  match j, hj with
                  | 0, hj => simp at hj; subst hj; simp [go_sem]
                  | 1, hj => simp at hj; subst hj; simp [go_sem]
                  | 2, hj => simp at hj; subst hj; simp [go_sem]
                rintro e wy ⟨c, rfl, hc, hCy, hOy⟩
                have hc2 : 0 ≤ c ∧ c ≤ 9 := by simp at hc; omega
                have hOf : OffF [p] w6 wy := (OffF.below (OffF.refl [p] w6) bwT).trans hOy
                have HUBy := Lib.hid (HUB6.out.drew hOf (by omega))
                have HOFy := Lib.hid (HOF6.out.trans hOf)
                have hS4 := HUBy.out.c2
                have c3 := HUBy.out.c3
                have fU := HUBy.out.fU
                have lU2 := HUBy.out.lU
                have hw5 : IntKind.i64.wrap (fr + c) = fr + c := IntWalk.i64_in _ (by omega)
                clear hc hOy hOf
                refine hK.out _ _ ?_ (fun hHeld => ?_)
                · exact kpT
                clear hK K
                try simp only [Act.put, List.setIfInBounds_toArray, List.set_cons_zero, List.set_cons_succ]
                refine tkR 5 (v := ?_) ?_ ?_
                rotate_left
                · intro w hSw; (try dsimp only at hSw); go_simp <;> with_reducible rfl
                try simp only [Act.put, List.setIfInBounds_toArray, List.set_cons_zero, List.set_cons_succ]
                refine tkR 6 (v := ?_) ?_ ?_
                rotate_left
                · intro w hSw; (try dsimp only at hSw); go_simp <;> with_reducible rfl
                try simp only [Act.put, List.setIfInBounds_toArray, List.set_cons_zero, List.set_cons_succ]
                refine wpAnyH_ready (rs := [7]) (by kernel_rfl) (by simp) ?_
                refine rdR (fun K hK => ?_) ?_
                · go_simp
                  refine hK.out _ _ ?_ (fun hHeld => ?_)
                  · exact kpT
                  clear hK K
                  try simp only [Act.put, List.setIfInBounds_toArray, List.set_cons_zero, List.set_cons_succ]
                  refine wpAnyH_done (by kernel_rfl) ?_ _
                  clear hHeld
                  go_wp2_with fail
                  go_meet
                  exact ⟨rfl, fr + c, by unfold I64; omega, Lib.hid (HUBy.out.put3 _), Lib.hid (HOFy.out.belowA bwT), Lib.hid (hCy.below bwT)⟩
                exact AllReadyH.nil
              exact AllReadyH.nil
            exact AllReadyH.nil
        case rest =>
          obtain ⟨w7, hw7⟩ : ∃ W : World, W = wc := ⟨_, rfl⟩
          subst hw7
          obtain ⟨rfl, tl, htl, HUB7, HOF7, HC7⟩ := hcut
          clear HUB6 HOF6 HC6
          have HB7 := Lib.hid (HB4.out.drew HOF7.out HC7.out)
          have s47 := HOF7.out.size
          have q0 := HB7.out.q0
          have q1 := HB7.out.q1
          have HUF := Lib.hid (famB_facts HU.out)
          have hu60 : us.length ≤ 60 := HUF.out.2.1
          go_wp2_with fail
          refine (l1Copy_any _ _ _ (ps, us) HB7.out.own.rd HUF.out.1 HUF.out.2.1).mono ?_
          rintro e w8 ⟨ga, gb, mid, rfl, hGa, hmid, hmid0, hGb, hb8⟩
          obtain ⟨gaa, gac, rfl, -, -⟩ := hGa.len
          obtain ⟨gba, gbc, rfl, -, -⟩ := hGb.len
          dsimp only at hGa hGb
          have s78 := hb8.size
          obtain ⟨G, hG⟩ : ∃ G, G = w8.heap.size := ⟨_, rfl⟩
          obtain ⟨WG, hWG⟩ : ∃ W : World, W = w8.alloc (.cells #[.slice gaa ps.length gac, .slice gba us.length gbc] 26) := ⟨_, rfl⟩
          have g0 : WG.cell? ⟨G, 0, none⟩ = some (.slice gaa ps.length gac) := by rw [hWG, hG]; simp [go_sem]
          have g1 : WG.cell? ⟨G, 1, none⟩ = some (.slice gba us.length gbc) := by rw [hWG, hG]; simp [go_sem]
          have gf : ∀ o, WG.frozen? ⟨G, o, none⟩ = false := fun o => by rw [hWG, hG]; simp [go_sem]
          have lG : G < WG.heap.size := by rw [hWG, hG]; simp
          have HGT := Lib.hid (show WG.heap[G]? = some (.cells #[.slice gaa ps.length gac, .slice gba us.length gbc] 26) by rw [hWG, hG]; exact heap_alloc_new w8 _)
          have hbG : Below w8.heap.size w8 WG := by rw [hWG]; exact (Below.refl _ _).alloc (Nat.le_refl _) _
          have hb7G : Below w7.heap.size w7 WG := hb8.trans (hbG.mono s78)
          have HGA := Lib.hid (hGa.below hbG)
          have HGB := Lib.hid ((hGb.below hbG).mono (hi' := G) (by omega))
          have HUBG := Lib.hid (HUB7.out.far (hb7G.block U HUB7.out.lU) hb7G.size)
          have hmG : mid ≤ G := by omega
          have lU7 := HUB7.out.lU
          have h7G : w7.heap.size ≤ G := by omega
          go_upto_region 12 with fail
          rw [← hWG, ← hG]
          clear hWG hG hbG hGa hGb hb8 q0 q1 s78
          have c0 := HUBG.out.c0
          have c1 := HUBG.out.c1
          have c2 := HUBG.out.c2
          have c3 := HUBG.out.c3
          go_wp2_with (at_builtin; refine wpList_push rfl rfl slUnion (by show (0 : Nat) < 4; omega) ((HGB.out.mono (hi' := WG.heap.size) (by omega)).below bwT) rfl (ad := ⟨WG.heap.size, 0, none⟩) rfl (cs := [.int .i64 m, .int .i64 wo, .int .i64 fr, .int .i64 tl]) (y := (((m : Int), (wo : Int), fr, tl) : Uni)) (lx := WG.heap.size) (hx' := WG.heap.size) (cells_uni _ _ _ _ _ _) (It.flat (z := true) (w0 := WG) (fp := []) (repUni_mk (by unfold I64; omega) (by unfold I64; omega) (by unfold I64; omega) htl)) (by omega) (.inl (Nat.le_refl _)) (by unfold maxLen; omega) (by omega) (by simp; omega) ?_)
          intro v9 w9 hG9 hg9 hb9
          obtain ⟨va9, vc9, rfl, -, -⟩ := hG9.len
          have hgg : WG.grownBy w9 (Value.slice gba us.length gbc).ownBlock := (World.grownBy_alloc WG _ _).trans hg9
          have hb9' : Below mid WG w9 := Below.trans bwT hb9
          have hown : ∀ b, b ≠ G → True := fun _ _ => trivial
          have kG : w9.heap[G]? = WG.heap[G]? := hgg.block G lG (fun e => by have := gl_own HGB.out e.symm; omega)
          have kU : w9.heap[U]? = WG.heap[U]? := hgg.block U HUBG.out.lU (fun e => by have := gl_lo HGB.out e.symm; omega)
          have g0 := cell_far kG g0
          have g1 := cell_far kG g1
          have gf := frz_far kG gf
          have s9 := hgg.size
          have e9 : (us ++ [(((m : Int), (wo : Int), fr, tl) : Uni)]).length = us.length + 1 := by simp
          rw [e9] at hG9 ⊢
          obtain ⟨W9, hW9⟩ : ∃ W : World, W = w9.setCell ⟨G, 1, none⟩ (.slice va9 (us.length + 1) vc9) := ⟨_, rfl⟩
          have k9 : ∀ b, b ≠ G → W9.heap[b]? = w9.heap[b]? := by rw [hW9]; exact keep_set
          have hb79 : Below w7.heap.size w7 W9 := (hb7G.trans (hb9'.mono hmid0)).trans (by rw [hW9]; exact bwT)
          have HGR := Lib.hid (show RdS (fun b => lo ≤ b ∧ b ≠ w.heap.size ∧ b ≠ w.heap.size + 1) W9 [.slice gaa ps.length gac, .slice va9 (us.length + 1) vc9] (ps, us ++ [(((m : Int), (wo : Int), fr, tl) : Uni)]) by
            have ra : Rd true w7.heap.size mid W9 [.slice gaa ps.length gac] ps := (((HGA.out.rd (l0 := w7.heap.size) (Nat.le_refl _) (Nat.le_refl _)).keep (fun b h1 h2 => hb9'.block b h2)).keep (fun b h1 h2 => k9 b (by omega)))
            have rb : RdS (fun b => mid ≤ b ∧ b ≠ G) w9 [.slice va9 (us.length + 1) vc9] (us ++ [(((m : Int), (wo : Int), fr, tl) : Uni)]) := by
              exact gl_uni hG9 ⟨_, kG.trans HGT.out⟩
            have rb9 : RdS (fun b => mid ≤ b ∧ b ≠ G) W9 [.slice va9 (us.length + 1) vc9] (us ++ [(((m : Int), (wo : Int), fr, tl) : Uni)]) := rb.keep (fun b _ hS => k9 b hS.2)
            obtain ⟨f1, a1, a2⟩ := ra
            obtain ⟨f2, b1, b2⟩ := rb9
            refine ⟨f1 ++ f2, ⟨[_], [_], f1, f2, rfl, rfl, Rep.weak a1, b1⟩, fun b hb => ?_⟩
            rcases List.mem_append.1 hb with hb | hb
            · exact ⟨Rep.lt a1 b hb, by have := a2 b hb; omega⟩
            · have := b2 b hb; exact ⟨this.1, by have := this.2; omega⟩)
          have HOF9 := Lib.hid (OffF.below HOF7.out hb79)
          have HC9 := Lib.hid (HC7.out.grow hb79)
          have g0 : W9.cell? ⟨G, 0, none⟩ = some (.slice gaa ps.length gac) := by rw [hW9]; exact cell_there g0 (by omega)
          have g1' : W9.cell? ⟨G, 1, none⟩ = some (.slice va9 (us.length + 1) vc9) := by rw [hW9]; exact cell_here g1
          have lG9 : G < W9.heap.size := by rw [hW9]; simp; omega
          go_upto_region 13 with fail
          rw [← hW9]
          clear hW9 g1 kG kU hgg hg9 hb9 hb9' hb79 hb7G hG9 HGA HGB HUBG HUB7 HB7 c0 c1 c2 c3 k9 hown
          obtain ⟨r, hr⟩ : ∃ r, r = famB (ps, us ++ [(((m : Int), (wo : Int), fr, tl) : Uni)]) := ⟨_, rfl⟩
          have HR := Lib.hid hr
          clear hr
          go_wp2_with fail
          refine (isFamS_b _ _ _ (ps, us ++ [(((m : Int), (wo : Int), fr, tl) : Uni)]) HGR.out.rd r HR.out).mono ?_
          rintro e wA ⟨rfl, hbA⟩
          have HBA := Lib.hid (HB4.out.drew (OffF.below HOF9.out hbA) (HC9.out.grow hbA))
          have HDA := Lib.hid (HD4.out.keep (offzn (OffF.below HOF9.out hbA) (.inl hdp) hdh4))
          have hdhA : dhi ≤ wA.heap.size := Nat.le_trans hdh4 (Nat.le_trans HOF9.out.size hbA.size)
          have HGRA := Lib.hid (HGR.out.below hbA)
          have g0 := oldc hbA lG9 g0
          have g1 := oldc hbA lG9 g1'
          clear hbA g1' HGR HOF9 HC9
          cases r
          · go_wp2
            go_roundw
            case rel => exact ⟨k - 1, _, _, us, by first | rfl | go_num, by omega, HBA, HU, HDA, hdhA⟩
            case measure => simp [intOf]; omega
          · have q0 := HBA.out.q0
            have q1 := HBA.out.q1
            have fF := HBA.out.fF
            have hlA := HBA.out.lR
            have HBZ := Lib.hid (HBA.out.put HGRA.out)
            have HDZ := Lib.hid (HDA.out.keep (w' := (wA.setCell ⟨w.heap.size, 0, none⟩ (.slice gaa ps.length gac)).setCell ⟨w.heap.size, 1, none⟩ (.slice va9 (us.length + 1) vc9)) (fun b h1 h2 => (keep_set b (by omega)).trans (keep_set b (by omega))))
            go_wp2
            go_roundw
            case rel => exact ⟨k - 1, _, _, us ++ [(((m : Int), (wo : Int), fr, tl) : Uni)], by first | rfl | go_num, by omega, HBZ, Lib.hid HR.out.symm, HDZ, by simp; omega⟩
            case measure => simp [intOf]; omega
    · obtain rfl : k = 0 := by omega
      have hkI : ¬ (0 : Int) < (0 : Int) := by omega
      have r0 := HB.out.r0
      have r1 := HB.out.r1
      have rf := HB.out.fR
      have hlR := HB.out.lR
      have ne1 : ¬ w.heap.size + 1 = w.heap.size := by omega
      have h0 := HB.out.h0
      go_wp2
      refine bodyPost_ret (v := .agg #[.slice aa ps.length ac, .slice ba us.length bc]) (by simp [results, Try.results96, go_sem, *]) rfl ⟨_, _, (ps, us), rfl, ?_, Lib.hid ⟨HU.out, hm⟩, HB.out.cur.below ?b1, HB.out.off.belowA ?b2⟩
      · exact ((HB.out.own.keep (fun b hl hS => (keep_set b hS.2.2).trans (keep_set b hS.2.2))).rdlo (lo := lo) (fun b hS => hS.1))
      case b1 => exact bwT
      case b2 => exact bwT
end Go.Proofs.Ytefbbbhidnnchaa
