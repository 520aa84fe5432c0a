/- Texts laid one behind the other (merge.py): MkfU, MkfO, MkfD, Mkc, MkfE, MkfX, MkfY, MkfH. -/
import Derived.Test.YtcbhdmmohdnjbaaGreatMfA
import Derived.Lib.MinMax
import Derived.Test.YtcbhdmmohdnjbaaGreatMkf
import Derived.Test.YtcbhdmmohdnjbaaGreatDrM
import Derived.Test.YtcbhdmmohdnjbaaGreatFmiM
namespace Go.Proofs.YtcbhdmmohdnjbaaGreat
set_option linter.unusedVariables false
set_option linter.unusedSimpArgs false
open Go.RowKit
set_option maxHeartbeats 100000000
section
theorem RdS.rdlo {α : Type} [Rep α] {S : Nat → Prop} {w : World} {cs : List Value} {x : α} {lo : Nat} (h : RdS S w cs x) (k : ∀ b, S b → lo ≤ b) : Rd false lo w.heap.size w cs x := by
 obtain ⟨fp, h1, h2⟩ := h
 exact ⟨fp, h1, fun b hb => ⟨k b (h2 b hb).2, (h2 b hb).1⟩⟩
theorem Rd.rdsF {α : Type} [Rep α] {S : Nat → Prop} {z : Bool} {lo hi : Nat} {w : World} {cs : List Value} {x : α} (h : Rd z lo hi w cs x) (k : ∀ b, lo ≤ b → b < hi → S b) : RdS S w cs x := by
 obtain ⟨fp, h1, h2⟩ := h
 exact ⟨fp, Rep.weak h1, fun b hb => ⟨Rep.lt h1 b hb, k b (h2 b hb).1 (h2 b hb).2⟩⟩
theorem Rd.fam_mk {z z' : Bool} {lo hi : Nat} {w : World} {a b : Value} {f : Fam} (h1 : Rd z lo hi w [a] f.1) (h2 : Rd z' lo hi w [b] f.2) : Rd false lo hi w [a, b] f := by
 obtain ⟨fp, a1, a2⟩ := h1
 obtain ⟨gp, b1, b2⟩ := h2
 refine ⟨fp ++ gp, ⟨[a], [b], fp, gp, rfl, rfl, Rep.weak a1, Rep.weak b1⟩, fun b hb => ?_⟩
 rcases List.mem_append.1 hb with hb | hb
 ·exact a2 b hb
 ·exact b2 b hb
structure WedBox (p lo F : Nat) (w0 : World) (f : Fam) (a b : Value) (W : World) : Prop where
 q0 : W.cell? ⟨F, 0, none⟩ = some a
 q1 : W.cell? ⟨F, 1, none⟩ = some b
 fF : ∀ o, W.frozen? ⟨F, o, none⟩ = false
 r0 : W.cell? ⟨F + 1, 0, none⟩ = some (.slice none 0 0)
 r1 : W.cell? ⟨F + 1, 1, none⟩ = some (.slice none 0 0)
 fR : ∀ o, W.frozen? ⟨F + 1, o, none⟩ = false
 own : RdS (fun b => lo ≤ b ∧ b ≠ F ∧ b ≠ F + 1) W [a, b] f
 cur : CurOk p W
 off : OffF [p] w0 W
 lR : F + 1 < W.heap.size
 pF : p < F
 h0 : w0.heap.size ≤ F
 pl : p < lo
theorem WedBox.drew {p lo F : Nat} {w0 W W' : World} {f : Fam} {a b : Value} (h : WedBox p lo F w0 f a b W) (hO : OffF [p] W W') (hC : CurOk p W') : WedBox p lo F w0 f a b W' := by
 have h1 := h.pF
 have h2 := h.lR
 have h5 := h.pl
 exact ⟨offq hO omT omT h.q0, offq hO omT omT h.q1, offfr hO omT omT h.fF, offq hO omT h2 h.r0, offq hO omT h2 h.r1, offfr hO omT h2 h.fR,
  h.own.keep (fun b hl hS => hO.block b hl soT), hC, h.off.trans hO, ltL h2 hO.size, h1, h.h0, h.pl⟩
theorem WedBox.grow {p lo F : Nat} {w0 W W' : World} {f : Fam} {a b : Value} (h : WedBox p lo F w0 f a b W) (hb : Below W.heap.size W W') : WedBox p lo F w0 f a b W' := h.drew (OffF.below (OffF.refl [p] W) hb) (h.cur.grow hb)
theorem WedBox.put {p lo F : Nat} {w0 W : World} {f g : Fam} {a b a' b' : Value} (h : WedBox p lo F w0 f a b W) (hg : RdS (fun b => lo ≤ b ∧ b ≠ F ∧ b ≠ F + 1) W [a', b'] g) : WedBox p lo F w0 g a' b' ((W.setCell ⟨F, 0, none⟩ a').setCell ⟨F, 1, none⟩ b') := by
 have h1 := h.pF
 have h2 := h.lR
 have h3 := h.h0
 have hB : Below F W ((W.setCell ⟨F, 0, none⟩ a').setCell ⟨F, 1, none⟩ b') := bwT
 have kk : ∀ b, b ≠ F → ((W.setCell ⟨F, 0, none⟩ a').setCell ⟨F, 1, none⟩ b').heap[b]? = W.heap[b]? := fun b hb => (keep_set b hb).trans (keep_set b hb)
 have q0 : (W.setCell ⟨F, 0, none⟩ a').cell? ⟨F, 0, none⟩ = some a' := cell_here h.q0
 have q1 : (W.setCell ⟨F, 0, none⟩ a').cell? ⟨F, 1, none⟩ = some b := cell_there h.q1 omT
 exact ⟨cell_there q0 omT, cell_here q1, fun o => frozen_setCell _ _ _ _ _ (frozen_setCell _ _ _ _ _ (h.fF o)), cell_far (kk _ omT) h.r0, cell_far (kk _ omT) h.r1, frz_far (kk _ omT) h.fR,
  hg.keep (fun b _ hS => kk b hS.2.1), h.cur.below (hB.mono omT), h.off.belowA (hB.mono omT), by simp; exact h2, h1, h3, h.pl⟩
structure UB (U : Nat) (m wo fr tl : Int) (W : World) : Prop where
 c0 : W.cell? ⟨U, 0, none⟩ = some (.int .i64 m)
 c1 : W.cell? ⟨U, 1, none⟩ = some (.int .i64 wo)
 c2 : W.cell? ⟨U, 2, none⟩ = some (.int .i64 fr)
 c3 : W.cell? ⟨U, 3, none⟩ = some (.int .i64 tl)
 fU : ∀ o, W.frozen? ⟨U, o, none⟩ = false
 lU : U < W.heap.size
theorem UB.far {U : Nat} {m wo fr tl : Int} {W W' : World} (h : UB U m wo fr tl W) (hk : W'.heap[U]? = W.heap[U]?) (hs : W.heap.size ≤ W'.heap.size) : UB U m wo fr tl W' :=
 ⟨cell_far hk h.c0, cell_far hk h.c1, cell_far hk h.c2, cell_far hk h.c3, frz_far hk h.fU, ltL h.lU hs⟩
theorem UB.drew {p U : Nat} {m wo fr tl : Int} {W W' : World} (h : UB U m wo fr tl W) (hO : OffF [p] W W') (hp : U ≠ p) : UB U m wo fr tl W' := h.far (hO.block U h.lU (by simpa using hp)) hO.size
theorem UB.put3 {U : Nat} {m wo fr tl : Int} {W : World} (h : UB U m wo fr tl W) (x : Int) : UB U m wo fr x (W.setCell ⟨U, 3, none⟩ (.int .i64 x)) :=
 ⟨cell_there h.c0 omT, cell_there h.c1 omT, cell_there h.c2 omT, cell_here h.c3, fun o => frozen_setCell _ _ _ _ _ (h.fU o), by simp; exact h.lU⟩
theorem UB.new (W : World) (m wo fr tl : Int) (t : TypeId) : UB W.heap.size m wo fr tl (W.alloc (.cells #[.int .i64 m, .int .i64 wo, .int .i64 fr, .int .i64 tl] t)) := by
 constructor <;> simp [go_sem]
theorem UB.all {U : Nat} {W : World} {c0 c1 c2 c3 : Value} (h0 : W.cell? ⟨U, 0, none⟩ = some c0) (h1 : W.cell? ⟨U, 1, none⟩ = some c1) (h2 : W.cell? ⟨U, 2, none⟩ = some c2) (h3 : W.cell? ⟨U, 3, none⟩ = some c3) (hf : ∀ o, W.frozen? ⟨U, o, none⟩ = false) (hl : U < W.heap.size) (m wo fr tl : Int) :
  UB U m wo fr tl ((((W.setCell ⟨U, 0, none⟩ (.int .i64 m)).setCell ⟨U, 1, none⟩ (.int .i64 wo)).setCell ⟨U, 2, none⟩ (.int .i64 fr)).setCell ⟨U, 3, none⟩ (.int .i64 tl)) := by
 have a0 : (W.setCell ⟨U, 0, none⟩ (.int .i64 m)).cell? ⟨U, 0, none⟩ = some (.int .i64 m) := cell_here h0
 have a1 : (W.setCell ⟨U, 0, none⟩ (.int .i64 m)).cell? ⟨U, 1, none⟩ = some c1 := cell_there h1 omT
 have a2 : (W.setCell ⟨U, 0, none⟩ (.int .i64 m)).cell? ⟨U, 2, none⟩ = some c2 := cell_there h2 omT
 have a3 : (W.setCell ⟨U, 0, none⟩ (.int .i64 m)).cell? ⟨U, 3, none⟩ = some c3 := cell_there h3 omT
 refine ⟨cell_there (cell_there (cell_there a0 omT) omT) omT, cell_there (cell_there (cell_here a1) omT) omT, cell_there (cell_here (cell_there a2 omT)) omT, cell_here (cell_there (cell_there a3 omT) omT),
  fun o => frozen_setCell _ _ _ _ _ (frozen_setCell _ _ _ _ _ (frozen_setCell _ _ _ _ _ (frozen_setCell _ _ _ _ _ (hf o)))), by simp; exact hl⟩
theorem Rd.ints_of {W : World} {B : Nat} {xs : List Int} (hb : B < W.heap.size) (h : ∀ x ∈ xs, I64 x) (hl : xs.length ≤ maxLen) (hc : ∀ j u, (xs.map (Value.int .i64))[j]? = some u → W.cell? ⟨B, j, none⟩ = some u) : Rd false B (B + 1) W [.slice (some ⟨B, 0, none⟩) xs.length xs.length] xs := by
 refine ⟨[B], ⟨_, rfl, _, _, _, rfl, rfl, Nat.le_refl _, hl, (fun h => by cases h), .inr ⟨B, 0, _, _, rfl, hb, by rw [nil_ints], zip_ints_of h, ?_, fun h => by cases h⟩⟩, fun b hb => by simp at hb; omega⟩
 intro j c hj
 rw [flat_ints] at hj
 rw [Nat.zero_add]
 exact hc j c hj
theorem cells_uni (w : World) (m wo fr tl : Int) (t : TypeId) : ∀ (j : Nat) (c : Value), [Value.int .i64 m, .int .i64 wo, .int .i64 fr, .int .i64 tl][j]? = some c → (w.alloc (.cells #[.int .i64 m, .int .i64 wo, .int .i64 fr, .int .i64 tl] t)).cell? ((⟨w.heap.size, 0, none⟩ : Addr).add j) = some c := by
 intro j c hj
 match j, hj with
 | 0, hj => simp at hj; subst hj; simp [Addr.add, go_sem]
 | 1, hj => simp at hj; subst hj; simp [Addr.add, go_sem]
 | 2, hj => simp at hj; subst hj; simp [Addr.add, go_sem]
 | 3, hj => simp at hj; subst hj; simp [Addr.add, go_sem]
theorem gl_own {α : Type} [Rep α] {nd : Bool} {lo lo' hi : Nat} {w : World} {E : TypeId} {v : Value} {xs : List α} (h : GL nd lo lo' hi w E v xs) {g : Nat} (e : v.ownBlock = some g) : g < hi := by
 obtain ⟨css, fps, ho, hz, hf, hg, hn⟩ := h
 exact hg g e
theorem gl_lo {α : Type} [Rep α] {nd : Bool} {lo lo' hi : Nat} {w : World} {E : TypeId} {v : Value} {xs : List α} (h : GL nd lo lo' hi w E v xs) {g : Nat} (e : v.ownBlock = some g) : lo ≤ g := by
 obtain ⟨css, fps, ho, hz, hf, hg, hn⟩ := h
 exact (ho.lt g e).1
theorem gl_uni {lo lo' hi : Nat} {w : World} {v : Value} {xs : List Uni} {G : Nat} (h : GL true lo lo' hi w 131 v xs) (hG : ∃ cs, w.heap[G]? = some (.cells cs 37)) : RdS (fun b => lo ≤ b ∧ b ≠ G) w [v] xs := by
 obtain ⟨css, fps, ho, hz, hf, hg, hn⟩ := h
 have hfl := (flats hz).1
 rcases ho.2 with ⟨rfl, h⟩ | ⟨g, cap, cur, rfl, hbb, hh, h3, h4, h5, h6⟩
 ·exact ⟨[], ⟨_, rfl, none, 0, 0, rfl, h, Nat.le_refl _, by simp [maxLen], fun _ => rfl, .inl ⟨rfl, rfl⟩⟩, (fun _ h => by cases h)⟩
 ·have hr : Rep.rep true w [.slice (some ⟨g, 0, none⟩) xs.length cap] xs (g :: fps.flatten) := by
   refine ⟨_, rfl, some ⟨g, 0, none⟩, xs.length, cap, rfl, rfl, h3, h4, (fun h => by cases h), .inr ⟨g, 0, css, fps, rfl, (ho.lt g rfl).2, rfl, hz, ?_, ?_⟩⟩
   ·intro j c hj
    have := ho.cells (g := g) rfl j c hj
    by_cases hj0 : j = 0
    ·subst hj0; simpa [Addr.add] using this
    ·simpa [Addr.add, hj0] using this
   ·intro _ o
    simp [World.frozen?, hh]
  refine ⟨g :: fps.flatten, Rep.weak hr, fun b hb => ?_⟩
  rw [hfl, List.mem_singleton] at hb
  subst hb
  refine ⟨(ho.lt b rfl).2, hbb, fun e => ?_⟩
  subst e
  obtain ⟨cs, hcs⟩ := hG
  rw [hh] at hcs
  simp at hcs
set_option maxRecDepth 20000 in
theorem l1Wed_any {z : Bool} {lo hi : Nat} (w : World) (p : Nat) (h : CurOk p w) (v : Value) (ps : List Per) (hx : Rd z lo hi w [v] ps) (hpl : p < lo) (hlo : lo ≤ w.heap.size) (hh : hi ≤ w.heap.size) (hF : famB (ps, []) = true) (most : Nat) (hm : ps.length ≤ most) :
  Calls Tryz.prog 152 #[.pointer (some ⟨p, 0, none⟩), .agg #[v, .slice none 0 0]] w (PostFamL lo p most w) := by
 have hp := h.lt
 obtain ⟨vao, vn, vcap, rfl, hvn, -⟩ := hx.shape
 subst hvn
 have HFF := Hd (famB_facts hF)
 have hl40 : ps.length ≤ 40 := HFF.out.1
 obtain ⟨W0, hW0⟩ : ∃ W0, W0 = ((w.alloc (.cells #[.slice vao ps.length vcap, .slice none 0 0] 37)).alloc (.cells #[.slice none 0 0, .slice none 0 0] 37)) := ⟨_, rfl⟩
 have HB0 := Hd (show WedBox p lo w.heap.size w (ps, []) (.slice vao ps.length vcap) (.slice none 0 0) W0 by
  have hb : Below w.heap.size w W0 := by rw [hW0]; exact bwT
  have hb1 : Below (w.heap.size + 1) (w.alloc (.cells #[.slice vao ps.length vcap, .slice none 0 0] 37)) W0 := by rw [hW0]; exact bwT
  refine ⟨oldc hb1 (Nat.lt_succ_self _) sgT, oldc hb1 (Nat.lt_succ_self _) sgT, fun o => (hb1.frozen (p := ⟨w.heap.size, o, none⟩) (Nat.lt_succ_self _)).trans sgT, by rw [hW0]; simp [go_sem], by rw [hW0]; simp [go_sem], by rw [hW0]; simp [go_sem],
   ((Rd.fam_mk (f := (ps, [])) (hx.below hb) (((GL.start (α := Uni) true lo lo hi W0 131).ow (Nat.le_refl _) (Nat.le_refl _)).rd)).rdsF fun b h1 h2 => by omega), h.grow hb, OffF.below (OffF.refl [p] w) hb, by rw [hW0]; simp, hp, Nat.le_refl _, hpl⟩)
 clear h hx
 go_enter Tryz.func152, Tryz.ntmps152
 go_upto_region 1 with fail
 rw [← hW0]
 clear hW0
 have q0 := HB0.out.q0
 have q1 := HB0.out.q1
 go_wp2_with fail
 refine (depS_any _ _ _ ps (HB0.out.own.rd.fam).1 HFF.out.2.2.1 hl40).mono ?_
 rintro e w1 ⟨dv, rfl, hod, hb1⟩
 obtain ⟨da, dn, dcap, rfl, hdn, -⟩ := hod.rd.shape
 have hlR := HB0.out.lR
 have HB1 := Hd (HB0.out.grow hb1)
 obtain ⟨dlo, hdlo⟩ : ∃ d, d = W0.heap.size := ⟨_, rfl⟩
 obtain ⟨dhi, hdhi⟩ : ∃ d, d = w1.heap.size := ⟨_, rfl⟩
 have HD := Hd (show Rd true dlo dhi w1 [.slice da dn dcap] (deps ps) by rw [hdlo, hdhi]; exact hod.rd)
 have hdp : p < dlo := by omega
 have hdF : w.heap.size + 1 < dlo := by omega
 have hdh : dhi ≤ w1.heap.size := by omega
 clear hod hb1 q0 q1 HB0 hdlo hdhi
 have q0 := HB1.out.q0
 have q1 := HB1.out.q1
 obtain ⟨n2, hn2⟩ : ∃ n : Nat, n = ps.length / 2 := ⟨_, rfl⟩
 have e2 : (ps.length : Int).tdiv 2 = (n2 : Int) := by rw [Int.tdiv_eq_ediv_of_nonneg omT]; omega
 have hn20 : n2 ≤ 20 := by omega
 clear hn2
 go_wp2_with fail
 refine (l01Below_any _ p HB1.out.cur ((n2 : Int) + 1) omT omT).mono ?_
 rintro e w2 ⟨k0, rfl, ⟨hk0, hk1⟩, hC2, hO2⟩
 obtain ⟨K, rfl⟩ := Int.eq_ofNat_of_zero_le hk0
 have HB2 := Hd (HB1.out.drew hO2 hC2)
 have HD2 := Hd (HD.out.keep (offzn hO2 (.inl hdp) hdh))
 have hdh2 : dhi ≤ w2.heap.size := Nat.le_trans hdh hO2.size
 clear hC2 hO2 q0 q1 e2 HB1 HD hdh hk0
 have hK : K ≤ 20 := by omega
 clear hk1
 go_wp2
 go_loopw [6, 7, 8, 9, 10] (fun s6 _ _ _ _ wl => ∃ (k : Nat) (a b : Value) (us : List Uni), s6 = .int .i64 k ∧ k ≤ 20 ∧ Hid (WedBox p lo w.heap.size w (ps, us) a b wl) ∧ Hid (famB (ps, us) = true) ∧ Hid (Rd true dlo dhi wl [.slice da dn dcap] (deps ps)) ∧ dhi ≤ wl.heap.size) (fun s6 _ _ _ _ _ => (intOf s6).toNat)
 case atStart => exact ⟨K, _, _, [], rfl, hK, HB2, Hd hF, HD2, hdh2⟩
 case round =>
  clear HB2 HD2 hdh2
  obtain ⟨wl, hwl⟩ : ∃ x : World, x = wr := ⟨_, rfl⟩
  subst hwl
  obtain ⟨k, a, b, us, rfl, hk20, HB, HU, HD, hdh⟩ := hrel
  obtain ⟨aa, an, ac, ba, bn, bc, rfl, rfl⟩ := shapeFam HB.out.own.rd
  obtain ⟨_, _, _, e1, e2, -⟩ := (HB.out.own.rd.fam).1.shape
  simp only [Value.slice.injEq] at e1
  obtain ⟨rfl, rfl, rfl⟩ := e1
  obtain ⟨_, _, _, e1, e3, -⟩ := (HB.out.own.rd.fam).2.shape
  simp only [Value.slice.injEq] at e1
  obtain ⟨rfl, rfl, rfl⟩ := e1
  dsimp only at e2 e3
  subst e2
  subst e3
  have q0 := HB.out.q0
  have q1 := HB.out.q1
  by_cases hk : 0 < k
  ·have hkI : (0 : Int) < (k : Int) := by omega
   have hwk : wrap64 ((k : Int) - 1) = ((k - 1 : Nat) : Int) := (IntWalk.wrap64_in _ omT).trans omT
   go_wp2_with fail
   refine (l1Some_any _ p HB.out.cur _ _ _ ps (HB.out.own.rdlo (lo := lo) (fun b hS => hS.1)).fam.1 (deps ps) HD.out (deps_len ps) hl40 omT (Nat.le_refl _) hdp hdh 1).mono ?_
   rintro e w3 ⟨r1, rfl, hr1, hC3, hO3⟩
   have HB3 := Hd (HB.out.drew hO3 hC3)
   have HD3 := Hd (HD.out.keep (offzn hO3 (.inl hdp) hdh))
   have hdh3 : dhi ≤ w3.heap.size := Nat.le_trans hdh hO3.size
   clear hC3 hO3 q0 q1 HB HD hdh
   have q0 := HB3.out.q0
   have q1 := HB3.out.q1
   go_wp2_with fail
   refine (l1Some_any _ p HB3.out.cur _ _ _ ps (HB3.out.own.rdlo (lo := lo) (fun b hS => hS.1)).fam.1 (deps ps) HD3.out (deps_len ps) hl40 omT (Nat.le_refl _) hdp hdh3 2).mono ?_
   rintro e w4 ⟨r2, rfl, hr2, hC4, hO4⟩
   have HB4 := Hd (HB3.out.drew hO4 hC4)
   have HD4 := Hd (HD3.out.keep (offzn hO4 (.inl hdp) hdh3))
   have hdh4 : dhi ≤ w4.heap.size := Nat.le_trans hdh3 hO4.size
   clear hC4 hO4 q0 q1 HB3 HD3 hdh3
   have HR1 := Hd (show r1 = -1 ∨ ∃ m : Nat, r1 = m ∧ m < ps.length by
    rcases hr1.out with h | ⟨m, _, _, _, _, _, h1, h2, -⟩
    ·exact .inl h
    ·exact .inr ⟨m, h1, (List.getElem?_eq_some_iff.1 h2).1⟩)
   have HR2 := Hd (show r2 = -1 ∨ ∃ m : Nat, r2 = m ∧ m < ps.length by
    rcases hr2.out with h | ⟨m, _, _, _, _, _, h1, h2, -⟩
    ·exact .inl h
    ·exact .inr ⟨m, h1, (List.getElem?_eq_some_iff.1 h2).1⟩)
   clear hr1 hr2
   by_cases hn1 : r1 < 0
   ·clear HR1 HR2
    go_wp2
    go_roundw
    case rel => exact ⟨k - 1, _, _, us, by first | rfl | go_num, by omega, HB4, HU, HD4, hdh4⟩
    case measure => simp [intOf]; omega
   by_cases hn2 : r2 < 0
   ·clear HR1 HR2
    go_wp2
    go_roundw
    case rel => exact ⟨k - 1, _, _, us, by first | rfl | go_num, by omega, HB4, HU, HD4, hdh4⟩
    case measure => simp [intOf]; omega
   obtain ⟨m, rfl, hml⟩ := HR1.out.resolve_left omT
   obtain ⟨wo, rfl, hwl2⟩ := HR2.out.resolve_left omT
   clear HR1 HR2
   obtain ⟨bx, ofx, xnm, xsx, xfa, xmo, xbo, xdi, hao, hxx, -, -, -, -, x4, -, -, -, -, -, gx, -, hbp, -, hbx, -⟩ := ((HB4.out.own.rdlo (lo := lo) (fun b hS => hS.1)).fam).1.per_at hml
   obtain ⟨_, _, ynm, ysx, yfa, ymo, ybo, ydi, hao2, hyy, -, -, -, -, y4, -, -, -, -, -, gy, -⟩ := (HB4.out.own.rd.fam).1.per_at hwl2
   subst hao
   simp only [Option.some.injEq, Addr.mk.injEq, and_true] at hao2
   obtain ⟨rfl, rfl⟩ := hao2
   have hxb : 0 ≤ xbo ∧ xbo ≤ 9999 := (HFF.out.2.2.1.at hml hxx.out).2.1
   have hyb : 0 ≤ ybo ∧ ybo ≤ 9999 := (HFF.out.2.2.1.at hwl2 hyy.out).2.1
   have hmI : (m : Int) < (ps.length : Int) := by omega
   have hwI : (wo : Int) < (ps.length : Int) := by omega
   clear hxx hyy gx gy
   obtain ⟨mx, hmx⟩ : ∃ mx, max xbo ybo = mx := ⟨_, rfl⟩
   have hmx2 : 0 ≤ mx ∧ mx ≤ 9999 := by omega
   have q0 := HB4.out.q0
   have hC4 := HB4.out.cur
   have hpF := HB4.out.pF
   have hlR4 := HB4.out.lR
   go_upto_region 8 with fail
   go_cut [9] (fun s9 wx => ∃ (U : Nat) (fr : Int), s9 = .pointer (some ⟨U, 0, none⟩) ∧ w4.heap.size ≤ U ∧ (0 ≤ fr ∧ fr ≤ 10029) ∧ Hid (UB U m wo fr (-1) wx) ∧ Hid (OffF [p] w4 wx) ∧ Hid (CurOk p wx))
   case first =>
    refine wp_region_held_drew (S := (fun w' => w'.cell? ⟨w.heap.size, 0, none⟩ = some (.slice (some ⟨bx, ofx, none⟩) ps.length ac) ∧ w'.cell? ⟨bx, ofx + m * 6 + 4, none⟩ = some (.int .i64 xbo) ∧ w'.cell? ⟨bx, ofx + wo * 6 + 4, none⟩ = some (.int .i64 ybo))) krT ?_ (fun hHeld => ?_)
    ·exact kpT
    refine tkA 0 ?_
    try simp only [cD]
    refine tkA 1 ?_
    try simp only [cD]
    refine tkA 2 ?_
    try simp only [cD]
    refine tkA 4 ?_
    try simp only [cD]
    refine tkA 8 ?_
    try simp only [cD]
    refine tkA 10 ?_
    try simp only [cD]
    refine tkA 15 ?_
    try simp only [cD]
    refine tkA 3 ?_
    try simp only [cD]
    refine tkA 9 ?_
    try simp only [cD]
    refine tkA 5 ?_
    try simp only [cD]
    refine tkA 11 ?_
    try simp only [cD]
    refine tkA 6 ?_
    try simp only [cD]
    refine tkA 12 ?_
    try simp only [cD]
    refine tkA 7 ?_
    try simp only [cD]
    refine tkA 13 ?_
    try simp only [cD]
    refine tkA 14 ?_
    try simp only [cD]
    refine rdy [16, 20] ?_
    refine rdR (fun K hK => ?_) ?_
    ·go_simp
     refine hK.out _ _ kpT fun hHeld => ?_
     clear hK K
     try simp only [cD]
     refine rdy [17, 20] ?_
     refine rdR (fun K hK => ?_) ?_
     ·go_simp
      refine (l01Int_any _ p (hC4.grow ?b1) _ [0, 1, 16, 20, 30] (Rd.ints_of (B := w4.heap.size) (by first | (simp; done) | (simp; omega)) (by simp [I64]) (by simp [maxLen]) ?c1) spT spT (.inl omT) (by first | (simp; done) | (simp; omega))).mono ?_
      case b1 => exact bwT
      case c1 =>
       intro j u hj
       match j, hj with
       | 0, hj => simp at hj; subst hj; simp [go_sem]
       | 1, hj => simp at hj; subst hj; simp [go_sem]
       | 2, hj => simp at hj; subst hj; simp [go_sem]
       | 3, hj => simp at hj; subst hj; simp [go_sem]
       | 4, hj => simp at hj; subst hj; simp [go_sem]
      rintro e wy ⟨c, rfl, hc, hCy, hOy⟩
      have hc2 : 0 ≤ c ∧ c ≤ 30 := by simp at hc; omega
      have hOf := Hd (show OffF [p] w4 wy from (OffF.below (OffF.refl [p] w4) bwT).trans hOy)
      have sy := hOf.out.size
      have hS17 := aI (offq hOf.out (show w.heap.size ≠ p by omega) omT q0) (aI (offq hOf.out (show bx ≠ p by omega) hbx x4) (offq hOf.out (show bx ≠ p by omega) hbx y4))
      have hw3 : IntKind.i64.wrap (mx + c) = mx + c := IntWalk.i64_in _ omT
      clear hc hOy
      refine hK.out _ _ kpT fun hHeld => ?_
      clear hK K
      try simp only [cD]
      refine tkA 18 ?_
      try simp only [cD]
      refine tkA 19 ?_
      try simp only [cD]
      refine rd1 20 fun K hK => ?_
      go_simp
      refine hK.out _ _ kpT fun hHeld => ?_
      clear hK K
      try simp only [cD]
      refine rd1 21 fun K hK => ?_
      go_simp
      refine hK.out _ _ kpT fun hHeld => ?_
      clear hK K
      try simp only [cD]
      refine wdT ?_
      clear hHeld
      go_wp2_with fail
      go_meet
      exact ⟨wy.heap.size, mx + c, rfl, sy, by omega, Hd (UB.new _ _ _ _ _ _), Hd (hOf.out.belowA bwT), Hd (hCy.below bwT)⟩
     refine rdR (fun K hK => ?_) ?_
     ·go_simp
      refine hK.out _ _ kpT fun hHeld => ?_
      clear hK K
      try simp only [cD]
      refine rd1 17 fun K hK => ?_
      go_simp
      refine (l01Int_any _ p (hC4.grow ?b1) _ [0, 1, 16, 20, 30] (Rd.ints_of (B := w4.heap.size) (by first | (simp; done) | (simp; omega)) (by simp [I64]) (by simp [maxLen]) ?c1) spT spT (.inl omT) (by first | (simp; done) | (simp; omega))).mono ?_
      case b1 => exact bwT
      case c1 =>
       intro j u hj
       match j, hj with
       | 0, hj => simp at hj; subst hj; simp [go_sem]
       | 1, hj => simp at hj; subst hj; simp [go_sem]
       | 2, hj => simp at hj; subst hj; simp [go_sem]
       | 3, hj => simp at hj; subst hj; simp [go_sem]
       | 4, hj => simp at hj; subst hj; simp [go_sem]
      rintro e wy ⟨c, rfl, hc, hCy, hOy⟩
      have hc2 : 0 ≤ c ∧ c ≤ 30 := by simp at hc; omega
      have hOf := Hd (show OffF [p] w4 wy from (OffF.below (OffF.refl [p] w4) bwT).trans hOy)
      have sy := hOf.out.size
      have hS17 := aI (offq hOf.out (show w.heap.size ≠ p by omega) omT q0) (aI (offq hOf.out (show bx ≠ p by omega) hbx x4) (offq hOf.out (show bx ≠ p by omega) hbx y4))
      have hw3 : IntKind.i64.wrap (mx + c) = mx + c := IntWalk.i64_in _ omT
      have u0 : wy.cell? ⟨w4.heap.size + 1, 0, none⟩ = some (.int .i64 0) := offq hOy omT (by first | (simp; done) | (simp; omega)) sgT
      have u1 : wy.cell? ⟨w4.heap.size + 1, 1, none⟩ = some (.int .i64 0) := offq hOy omT (by first | (simp; done) | (simp; omega)) sgT
      have u2 : wy.cell? ⟨w4.heap.size + 1, 2, none⟩ = some (.int .i64 0) := offq hOy omT (by first | (simp; done) | (simp; omega)) sgT
      have u3 : wy.cell? ⟨w4.heap.size + 1, 3, none⟩ = some (.int .i64 0) := offq hOy omT (by first | (simp; done) | (simp; omega)) sgT
      have uf : ∀ o, wy.frozen? ⟨w4.heap.size + 1, o, none⟩ = false := offfr hOy omT (by first | (simp; done) | (simp; omega)) sgT
      have ul : w4.heap.size + 1 < wy.heap.size := ltL (by first | (simp; done) | (simp; omega)) hOy.size
      clear hc hOy
      refine hK.out _ _ kpT fun hHeld => ?_
      clear hK K
      try simp only [cD]
      refine tkA 18 ?_
      try simp only [cD]
      refine tkA 19 ?_
      try simp only [cD]
      refine rd1 21 fun K hK => ?_
      go_simp
      refine hK.out _ _ kpT fun hHeld => ?_
      clear hK K
      try simp only [cD]
      refine wdT ?_
      clear hHeld
      go_wp2_with fail
      go_meet
      exact ⟨w4.heap.size + 1, mx + c, rfl, by omega, by omega, Hd (UB.all u0 u1 u2 u3 uf ul _ _ _ _), Hd (hOf.out.belowA bwT), Hd (hCy.below bwT)⟩
     exact AllReadyH.nil
    refine rdR (fun K hK => ?_) ?_
    ·go_simp
     refine hK.out _ _ kpT fun hHeld => ?_
     clear hK K
     try simp only [cD]
     refine rd1 16 fun K hK => ?_
     go_simp
     refine hK.out _ _ kpT fun hHeld => ?_
     clear hK K
     try simp only [cD]
     refine rd1 17 fun K hK => ?_
     go_simp
     refine (l01Int_any _ p (hC4.grow ?b1) _ [0, 1, 16, 20, 30] (Rd.ints_of (B := w4.heap.size + 1) (by first | (simp; done) | (simp; omega)) (by simp [I64]) (by simp [maxLen]) ?c1) spT spT (.inl omT) (by first | (simp; done) | (simp; omega))).mono ?_
     case b1 => exact bwT
     case c1 =>
      intro j u hj
      match j, hj with
      | 0, hj => simp at hj; subst hj; simp [go_sem]
      | 1, hj => simp at hj; subst hj; simp [go_sem]
      | 2, hj => simp at hj; subst hj; simp [go_sem]
      | 3, hj => simp at hj; subst hj; simp [go_sem]
      | 4, hj => simp at hj; subst hj; simp [go_sem]
     rintro e wy ⟨c, rfl, hc, hCy, hOy⟩
     have hc2 : 0 ≤ c ∧ c ≤ 30 := by simp at hc; omega
     have hOf := Hd (show OffF [p] w4 wy from (OffF.below (OffF.refl [p] w4) bwT).trans hOy)
     have sy := hOf.out.size
     have hS17 := aI (offq hOf.out (show w.heap.size ≠ p by omega) omT q0) (aI (offq hOf.out (show bx ≠ p by omega) hbx x4) (offq hOf.out (show bx ≠ p by omega) hbx y4))
     have hw3 : IntKind.i64.wrap (mx + c) = mx + c := IntWalk.i64_in _ omT
     have u0 : wy.cell? ⟨w4.heap.size, 0, none⟩ = some (.int .i64 0) := offq hOy omT (by first | (simp; done) | (simp; omega)) sgT
     have u1 : wy.cell? ⟨w4.heap.size, 1, none⟩ = some (.int .i64 0) := offq hOy omT (by first | (simp; done) | (simp; omega)) sgT
     have u2 : wy.cell? ⟨w4.heap.size, 2, none⟩ = some (.int .i64 0) := offq hOy omT (by first | (simp; done) | (simp; omega)) sgT
     have u3 : wy.cell? ⟨w4.heap.size, 3, none⟩ = some (.int .i64 0) := offq hOy omT (by first | (simp; done) | (simp; omega)) sgT
     have uf : ∀ o, wy.frozen? ⟨w4.heap.size, o, none⟩ = false := offfr hOy omT (by first | (simp; done) | (simp; omega)) sgT
     have ul : w4.heap.size < wy.heap.size := ltL (by first | (simp; done) | (simp; omega)) hOy.size
     clear hc hOy
     refine hK.out _ _ kpT fun hHeld => ?_
     clear hK K
     try simp only [cD]
     refine tkA 18 ?_
     try simp only [cD]
     refine tkA 19 ?_
     try simp only [cD]
     refine rd1 21 fun K hK => ?_
     go_simp
     refine hK.out _ _ kpT fun hHeld => ?_
     clear hK K
     try simp only [cD]
     refine wdT ?_
     clear hHeld
     go_wp2_with fail
     go_meet
     exact ⟨w4.heap.size, mx + c, rfl, Nat.le_refl _, by omega, Hd (UB.all u0 u1 u2 u3 uf ul _ _ _ _), Hd (hOf.out.belowA bwT), Hd (hCy.below bwT)⟩
    exact AllReadyH.nil
   case rest =>
    obtain ⟨w5, hw5⟩ : ∃ W : World, W = wc := ⟨_, rfl⟩
    subst hw5
    obtain ⟨U, fr, rfl, hU4, hfr, HUB, HOF, HCU⟩ := hcut
    clear x4 y4 hmx q0
    go_wp2_with fail
    refine (l01Once_any _ p HCU.out 4 omT omT).mono ?_
    rintro e w6 ⟨o6, rfl, hC6, hO6⟩
    have HUB6 := Hd (HUB.out.drew hO6 omT)
    have HOF6 := Hd (HOF.out.trans hO6)
    have HC6 := Hd hC6
    clear hC6 hO6 HUB HOF HCU
    go_upto_if 59 with fail
    go_cut [9] (fun s9 wx => s9 = .pointer (some ⟨U, 0, none⟩) ∧ ∃ tl : Int, I64 tl ∧ Hid (UB U m wo fr tl wx) ∧ Hid (OffF [p] w4 wx) ∧ Hid (CurOk p wx))
    case first =>
     cases o6
     ·go_wp2_with fail
      go_meet
      exact ⟨rfl, -1, by unfold I64; omega, HUB6, HOF6, HC6⟩
     ·have c2 := HUB6.out.c2
      have lU := HUB6.out.lU
      have hC6 := HC6.out
      go_upto_region 10 with fail
      refine wp_region_held_drew (S := (fun w' => w'.cell? ⟨U, 2, none⟩ = some (.int .i64 fr))) krT ?_ (fun hHeld => ?_)
      ·exact kpT
      refine tkA 0 ?_
      try simp only [cD]
      refine tkA 2 ?_
      try simp only [cD]
      refine tkA 1 ?_
      try simp only [cD]
      refine rd1 3 fun K hK => ?_
      go_simp
      refine hK.out _ _ kpT fun hHeld => ?_
      clear hK K
      try simp only [cD]
      refine rd1 4 fun K hK => ?_
      go_simp
      refine (l01Int_any _ p (hC6.grow ?b1) _ [0, 1, 9] (Rd.ints_of (B := w6.heap.size) (by first | (simp; done) | (simp; omega)) (by simp [I64]) (by simp [maxLen]) ?c1) spT spT (.inl omT) (by first | (simp; done) | (simp; omega))).mono ?_
      case b1 => exact bwT
      case c1 =>
       intro j u hj
       match j, hj with
       | 0, hj => simp at hj; subst hj; simp [go_sem]
       | 1, hj => simp at hj; subst hj; simp [go_sem]
       | 2, hj => simp at hj; subst hj; simp [go_sem]
      rintro e wy ⟨c, rfl, hc, hCy, hOy⟩
      have hc2 : 0 ≤ c ∧ c ≤ 9 := by simp at hc; omega
      have hOf : OffF [p] w6 wy := (OffF.below (OffF.refl [p] w6) bwT).trans hOy
      have HUBy := Hd (HUB6.out.drew hOf omT)
      have HOFy := Hd (HOF6.out.trans hOf)
      have hS4 := HUBy.out.c2
      have c3 := HUBy.out.c3
      have fU := HUBy.out.fU
      have lU2 := HUBy.out.lU
      have hw5 : IntKind.i64.wrap (fr + c) = fr + c := IntWalk.i64_in _ omT
      clear hc hOy hOf
      refine hK.out _ _ kpT fun hHeld => ?_
      clear hK K
      try simp only [cD]
      refine tkA 5 ?_
      try simp only [cD]
      refine tkA 6 ?_
      try simp only [cD]
      refine rd1 7 fun K hK => ?_
      go_simp
      refine hK.out _ _ kpT fun hHeld => ?_
      clear hK K
      try simp only [cD]
      refine wdT ?_
      clear hHeld
      go_wp2_with fail
      go_meet
      exact ⟨rfl, fr + c, by unfold I64; omega, Hd (HUBy.out.put3 _), Hd (HOFy.out.belowA bwT), Hd (hCy.below bwT)⟩
    case rest =>
     obtain ⟨w7, hw7⟩ : ∃ W : World, W = wc := ⟨_, rfl⟩
     subst hw7
     obtain ⟨rfl, tl, htl, HUB7, HOF7, HC7⟩ := hcut
     clear HUB6 HOF6 HC6
     have HB7 := Hd (HB4.out.drew HOF7.out HC7.out)
     have s47 := HOF7.out.size
     have q0 := HB7.out.q0
     have q1 := HB7.out.q1
     have HUF := Hd (famB_facts HU.out)
     have hu60 : us.length ≤ 60 := HUF.out.2.1
     go_wp2_with fail
     refine (l1Copy_any _ _ _ (ps, us) HB7.out.own.rd HUF.out.1 HUF.out.2.1).mono ?_
     rintro e w8 ⟨ga, gb, mid, rfl, hGa, hmid, hmid0, hGb, hb8⟩
     obtain ⟨gaa, gac, rfl, -, -⟩ := hGa.len
     obtain ⟨gba, gbc, rfl, -, -⟩ := hGb.len
     dsimp only at hGa hGb
     have s78 := hb8.size
     obtain ⟨G, hG⟩ : ∃ G, G = w8.heap.size := ⟨_, rfl⟩
     obtain ⟨WG, hWG⟩ : ∃ W : World, W = w8.alloc (.cells #[.slice gaa ps.length gac, .slice gba us.length gbc] 37) := ⟨_, rfl⟩
     have g0 : WG.cell? ⟨G, 0, none⟩ = some (.slice gaa ps.length gac) := by rw [hWG, hG]; simp [go_sem]
     have g1 : WG.cell? ⟨G, 1, none⟩ = some (.slice gba us.length gbc) := by rw [hWG, hG]; simp [go_sem]
     have gf : ∀ o, WG.frozen? ⟨G, o, none⟩ = false := fun o => by rw [hWG, hG]; simp [go_sem]
     have lG : G < WG.heap.size := by rw [hWG, hG]; simp
     have HGT := Hd (show WG.heap[G]? = some (.cells #[.slice gaa ps.length gac, .slice gba us.length gbc] 37) by rw [hWG, hG]; exact heap_alloc_new w8 _)
     have hbG : Below w8.heap.size w8 WG := by rw [hWG]; exact (Below.refl _ _).alloc (Nat.le_refl _) _
     have hb7G : Below w7.heap.size w7 WG := hb8.trans (hbG.mono s78)
     have HGA := Hd (hGa.below hbG)
     have HGB := Hd ((hGb.below hbG).mono (hi' := G) omT)
     have HUBG := Hd (HUB7.out.far (hb7G.block U HUB7.out.lU) hb7G.size)
     have hmG : mid ≤ G := by omega
     have lU7 := HUB7.out.lU
     have h7G : w7.heap.size ≤ G := by omega
     go_upto_region 12 with fail
     rw [← hWG, ← hG]
     clear hWG hG hbG hGa hGb hb8 q0 q1 s78
     have c0 := HUBG.out.c0
     have c1 := HUBG.out.c1
     have c2 := HUBG.out.c2
     have c3 := HUBG.out.c3
     go_wp2_with (at_builtin; refine wpList_push rfl rfl slUnion (by show (0 : Nat) < 4; omega) ((HGB.out.mono (hi' := WG.heap.size) omT).below bwT) rfl (ad := ⟨WG.heap.size, 0, none⟩) rfl (cs := [.int .i64 m, .int .i64 wo, .int .i64 fr, .int .i64 tl]) (y := (((m : Int), (wo : Int), fr, tl) : Uni)) (lx := WG.heap.size) (hx' := WG.heap.size) (cells_uni _ _ _ _ _ _) (It.flat (z := true) (w0 := WG) (fp := []) (repUni_mk (by unfold I64; omega) (by unfold I64; omega) (by unfold I64; omega) htl)) omT (.inl (Nat.le_refl _)) mxT omT soT ?_)
     intro v9 w9 hG9 hg9 hb9
     obtain ⟨va9, vc9, rfl, -, -⟩ := hG9.len
     have hgg : WG.grownBy w9 (Value.slice gba us.length gbc).ownBlock := (World.grownBy_alloc WG _ _).trans hg9
     have hb9' : Below mid WG w9 := Below.trans bwT hb9
     have hown : ∀ b, b ≠ G → True := fun _ _ => trivial
     have kG : w9.heap[G]? = WG.heap[G]? := hgg.block G lG (fun e => by have := gl_own HGB.out e.symm; omega)
     have kU : w9.heap[U]? = WG.heap[U]? := hgg.block U HUBG.out.lU (fun e => by have := gl_lo HGB.out e.symm; omega)
     have g0 := cell_far kG g0
     have g1 := cell_far kG g1
     have gf := frz_far kG gf
     have s9 := hgg.size
     have e9 : (us ++ [(((m : Int), (wo : Int), fr, tl) : Uni)]).length = us.length + 1 := by simp
     rw [e9] at hG9 ⊢
     obtain ⟨W9, hW9⟩ : ∃ W : World, W = w9.setCell ⟨G, 1, none⟩ (.slice va9 (us.length + 1) vc9) := ⟨_, rfl⟩
     have k9 : ∀ b, b ≠ G → W9.heap[b]? = w9.heap[b]? := by rw [hW9]; exact keep_set
     have hb79 : Below w7.heap.size w7 W9 := (hb7G.trans (hb9'.mono hmid0)).trans (by rw [hW9]; exact bwT)
     have HGR := Hd (show RdS (fun b => lo ≤ b ∧ b ≠ w.heap.size ∧ b ≠ w.heap.size + 1) W9 [.slice gaa ps.length gac, .slice va9 (us.length + 1) vc9] (ps, us ++ [(((m : Int), (wo : Int), fr, tl) : Uni)]) by
      have ra : Rd true w7.heap.size mid W9 [.slice gaa ps.length gac] ps := (((HGA.out.rd (l0 := w7.heap.size) (Nat.le_refl _) (Nat.le_refl _)).keep (fun b h1 h2 => hb9'.block b h2)).keep (fun b h1 h2 => k9 b omT))
      have rb : RdS (fun b => mid ≤ b ∧ b ≠ G) w9 [.slice va9 (us.length + 1) vc9] (us ++ [(((m : Int), (wo : Int), fr, tl) : Uni)]) := by
       exact gl_uni hG9 ⟨_, kG.trans HGT.out⟩
      have rb9 : RdS (fun b => mid ≤ b ∧ b ≠ G) W9 [.slice va9 (us.length + 1) vc9] (us ++ [(((m : Int), (wo : Int), fr, tl) : Uni)]) := rb.keep (fun b _ hS => k9 b hS.2)
      obtain ⟨f1, a1, a2⟩ := ra
      obtain ⟨f2, b1, b2⟩ := rb9
      refine ⟨f1 ++ f2, ⟨[_], [_], f1, f2, rfl, rfl, Rep.weak a1, b1⟩, fun b hb => ?_⟩
      rcases List.mem_append.1 hb with hb | hb
      ·exact ⟨Rep.lt a1 b hb, by have := a2 b hb; omega⟩
      ·have := b2 b hb; exact ⟨this.1, by have := this.2; omega⟩)
     have HOF9 := Hd (OffF.below HOF7.out hb79)
     have HC9 := Hd (HC7.out.grow hb79)
     have g0 : W9.cell? ⟨G, 0, none⟩ = some (.slice gaa ps.length gac) := by rw [hW9]; exact cell_there g0 omT
     have g1' : W9.cell? ⟨G, 1, none⟩ = some (.slice va9 (us.length + 1) vc9) := by rw [hW9]; exact cell_here g1
     have lG9 : G < W9.heap.size := by rw [hW9]; simp; omega
     go_upto_region 13 with fail
     rw [← hW9]
     clear hW9 g1 kG kU hgg hg9 hb9 hb9' hb79 hb7G hG9 HGA HGB HUBG HUB7 HB7 c0 c1 c2 c3 k9 hown
     obtain ⟨r, hr⟩ : ∃ r, r = famB (ps, us ++ [(((m : Int), (wo : Int), fr, tl) : Uni)]) := ⟨_, rfl⟩
     have HR := Hd hr
     clear hr
     go_wp2_with fail
     refine (isFamS_b _ _ _ (ps, us ++ [(((m : Int), (wo : Int), fr, tl) : Uni)]) HGR.out.rd r HR.out).mono ?_
     rintro e wA ⟨rfl, hbA⟩
     have HBA := Hd (HB4.out.drew (OffF.below HOF9.out hbA) (HC9.out.grow hbA))
     have HDA := Hd (HD4.out.keep (offzn (OffF.below HOF9.out hbA) (.inl hdp) hdh4))
     have hdhA : dhi ≤ wA.heap.size := Nat.le_trans hdh4 (Nat.le_trans HOF9.out.size hbA.size)
     have HGRA := Hd (HGR.out.below hbA)
     have g0 := oldc hbA lG9 g0
     have g1 := oldc hbA lG9 g1'
     clear hbA g1' HGR HOF9 HC9
     cases r
     ·go_wp2
      go_roundw
      case rel => exact ⟨k - 1, _, _, us, by first | rfl | go_num, by omega, HBA, HU, HDA, hdhA⟩
      case measure => simp [intOf]; omega
     ·have q0 := HBA.out.q0
      have q1 := HBA.out.q1
      have fF := HBA.out.fF
      have hlA := HBA.out.lR
      have HBZ := Hd (HBA.out.put HGRA.out)
      have HDZ := Hd (HDA.out.keep (w' := (wA.setCell ⟨w.heap.size, 0, none⟩ (.slice gaa ps.length gac)).setCell ⟨w.heap.size, 1, none⟩ (.slice va9 (us.length + 1) vc9)) (fun b h1 h2 => (keep_set b omT).trans (keep_set b omT)))
      go_wp2
      go_roundw
      case rel => exact ⟨k - 1, _, _, us ++ [(((m : Int), (wo : Int), fr, tl) : Uni)], by first | rfl | go_num, by omega, HBZ, Hd HR.out.symm, HDZ, by simp; omega⟩
      case measure => simp [intOf]; omega
  ·obtain rfl : k = 0 := by omega
   have hkI : ¬ (0 : Int) < (0 : Int) := by omega
   have r0 := HB.out.r0
   have r1 := HB.out.r1
   have rf := HB.out.fR
   have hlR := HB.out.lR
   have ne1 : ¬ w.heap.size + 1 = w.heap.size := by omega
   have h0 := HB.out.h0
   go_wp2
   refine bodyPost_ret (v := .agg #[.slice aa ps.length ac, .slice ba us.length bc]) (by simp [results, Tryz.results152, go_sem, *]) rfl ⟨_, _, (ps, us), rfl, ?_, Hd ⟨HU.out, hm⟩, HB.out.cur.below ?b1, HB.out.off.belowA ?b2⟩
   ·exact ((HB.out.own.keep (fun b hl hS => (keep_set b hS.2.2).trans (keep_set b hS.2.2))).rdlo (lo := lo) (fun b hS => hS.1))
   case b1 => exact bwT
   case b2 => exact bwT
end
section
structure FamO (p R F : Nat) (w0 : World) (ps : List Per) (v : Value) (W : World) : Prop where
 q0 : W.cell? ⟨F, 0, none⟩ = some v
 q1 : W.cell? ⟨F, 1, none⟩ = some (.slice none 0 0)
 fF : ∀ o, W.frozen? ⟨F, o, none⟩ = false
 r0 : W.cell? ⟨R, 0, none⟩ = some (.slice none 0 0)
 r1 : W.cell? ⟨R, 1, none⟩ = some (.slice none 0 0)
 fR : ∀ o, W.frozen? ⟨R, o, none⟩ = false
 own : Ow (F + 1) W.heap.size W [v] ps
 cur : CurOk p W
 off : OffF [p] w0 W
 lF : F < W.heap.size
 pR : p < R
 RF : R < F
 h0 : w0.heap.size ≤ R
theorem FamBox.toO {p R F Q : Nat} {w0 W : World} {ps : List Per} {v : Value} (h : FamBox p R F Q w0 ps v W) : FamO p R F w0 ps v W :=
 ⟨h.q0, h.q1, h.fF, h.r0, h.r1, h.fR, h.own.ow (fun b hl hS => ⟨hS.1, hl⟩), h.cur, h.off, h.lF, h.pR, h.RF, h.h0⟩
theorem FamO.drew {p R F : Nat} {w0 W W' : World} {ps : List Per} {v : Value} (h : FamO p R F w0 ps v W) (hO : OffF [p] W W') (hC : CurOk p W') : FamO p R F w0 ps v W' := by
 have h1 := h.pR
 have h2 := h.RF
 have h3 := h.lF
 exact ⟨offq hO omT h3 h.q0, offq hO omT h3 h.q1, offfr hO omT h3 h.fF, offq hO omT omT h.r0, offq hO omT omT h.r1, offfr hO omT omT h.fR,
  (h.own.keep (offzn hO (.inl omT) (Nat.le_refl _))).mono (Nat.le_refl _) hO.size, hC, h.off.trans hO, ltL h3 hO.size, h1, h2, h.h0⟩
theorem FamO.grow {p R F : Nat} {w0 W W' : World} {ps : List Per} {v : Value} (h : FamO p R F w0 ps v W) (hb : Below W.heap.size W W') : FamO p R F w0 ps v W' := h.drew (OffF.below (OffF.refl [p] W) hb) (h.cur.grow hb)
theorem FamO.die {p R F : Nat} {w0 W : World} {ps : List Per} {b off n cap : Nat} {i : Nat} {nm : ByteArray} {sx fa mo bo di d : Int} (h : FamO p R F w0 ps (.slice (some ⟨b, off, none⟩) n cap) W) (hi : i < n) (hx : ps[i]? = some (nm, sx, fa, mo, bo, di)) (hd : I64 d) : FamO p R F w0 (setDie ps i d) (.slice (some ⟨b, off, none⟩) n cap) (W.setCell ⟨b, off + i * 6 + 5, none⟩ (.int .i64 d)) := by
 have h1 := h.pR
 have h2 := h.RF
 have h3 := h.lF
 have h4 := h.h0
 obtain ⟨_, _, _, _, _, _, _, _, e, -, -, -, -, -, -, x5, -, -, -, -, -, -, hbl, -, hbs, -⟩ := h.own.rd.per_at hi
 simp only [Option.some.injEq, Addr.mk.injEq, and_true] at e
 obtain ⟨rfl, rfl⟩ := e
 have hB : Below (F + 1) W (W.setCell ⟨b, off + i * 6 + 5, none⟩ (.int .i64 d)) := bwT
 have kk : ∀ q, q ≠ b → (W.setCell ⟨b, off + i * 6 + 5, none⟩ (.int .i64 d)).heap[q]? = W.heap[q]? := keep_set
 refine ⟨cell_far (kk F omT) h.q0, cell_far (kk F omT) h.q1, frz_far (kk F omT) h.fF, cell_far (kk R omT) h.r0, cell_far (kk R omT) h.r1, frz_far (kk R omT) h.fR, ?_, h.cur.below (hB.mono omT), h.off.belowA (hB.mono omT), by simp; exact h3, h1, h2, h4⟩
 obtain ⟨fp, hr, hz, hn⟩ := h.own
 rw [setDie_at hx]
 refine ⟨fp, ?_, fun q hq => ?_, hn⟩
 ·have := rep_setd hr hn (i := i) (j := 5) (x := (nm, sx, fa, mo, bo, di)) (y := (nm, sx, fa, mo, bo, d)) (u := .int .i64 d) hx (by show 5 < 6; omega) (fun cs f hcf => by
   obtain ⟨rfl, g0, g1, g2, g3, g4, g5, rfl⟩ := repPer_inv hcf
   exact repPer_mk g0 g1 g2 g3 g4 hd)
  simpa [Rep.sz, Nat.add_assoc] using this
 ·have := hz q hq
  simp; exact this
theorem setDie_bo {ps : List Per} {i : Nat} {d lim : Int} (h : ∀ (k : Nat) (x : Per), ps[k]? = some x → 0 ≤ x.2.2.2.2.1 ∧ x.2.2.2.2.1 ≤ lim) {k : Nat} {x : Per} (hx : (setDie ps i d)[k]? = some x) : 0 ≤ x.2.2.2.2.1 ∧ x.2.2.2.2.1 ≤ lim := by
 unfold setDie at hx
 split at hx
 ·rename_i nm sx fa mo bo di hi
  rw [List.getElem?_set] at hx
  split at hx
  ·split at hx
   ·obtain rfl := Option.some.inj hx
    have := h i _ hi
    exact this
   ·cases hx
  ·exact h k x hx
 ·exact h k x hx
end
section
theorem GX.nil {α : Type} [Rep α] (S : Nat → Prop) (w : World) (E : TypeId) : GX (α := α) S w E (.slice none 0 0) [] :=
 ⟨[], [], by simpa using World.ownsRow_nil w 0 E (Rep.sz α), trivial, by simp, by simp [Value.ownBlock], List.nodup_nil⟩
def MF (ps : List Per) : Prop := Grown ps ∧ ∀ (i : Nat) (x : Per), ps[i]? = some x → x.2.2.2.2.2 = -1 ∧ 0 ≤ x.2.2.2.2.1 ∧ x.2.2.2.2.1 ≤ 11 + 30 * (i : Int)
def Sm (ps : List Per) (sex r : Int) : Prop := r = -1 ∨ ∃ (k : Nat) (nm : ByteArray) (fa mo bo di : Int), r = k ∧ ps[k]? = some (nm, sex, fa, mo, bo, di) ∧ (deps ps).getD k 0 < 10
theorem Sm.i64 {ps : List Per} {sex r : Int} (h : Sm ps sex r) (hl : ps.length ≤ 40) : I64 r := by
 unfold I64
 rcases h with rfl | ⟨k, nm, fa, mo, bo, di, rfl, h1, -⟩
 ·omega
 ·have := (List.getElem?_eq_some_iff.1 h1).1; omega
theorem Sm.may {ps : List Per} {sex r bo : Int} (h : Sm ps sex r) (hM : MF ps) (hb : ∀ (k : Nat) (x : Per), r = k → ps[k]? = some x → x.2.2.2.2.1 < bo) : MayUp ps r sex bo := by
 rcases h with h | ⟨k, nm, fa, mo, b, di, h0, h1, h2⟩
 ·exact .inl h
 ·have h3 := hM.2 k _ h1
  dsimp only at h3
  obtain ⟨rfl, -, -⟩ := h3
  exact .inr ⟨k, nm, fa, mo, b, h0, h1, hb k _ h0 h1, h2⟩
theorem Sm.at {ps : List Per} {sex r : Int} (h : Sm ps sex r) (h0 : 0 ≤ r) : ∃ k : Nat, r = k ∧ k < ps.length := by
 rcases h with rfl | ⟨k, nm, fa, mo, bo, di, rfl, h1, -⟩
 ·omega
 ·exact ⟨k, rfl, (List.getElem?_eq_some_iff.1 h1).1⟩
theorem mem_parX {fa mo y : Int} (h : y ∈ parX fa mo) : (y = fa ∨ y = mo) ∧ 0 ≤ y := by
 unfold parX at h
 rcases List.mem_append.1 h with h | h
 ·split at h
  ·rw [List.mem_singleton] at h; exact ⟨.inl h, by omega⟩
  ·cases h
 ·split at h
  ·rw [List.mem_singleton] at h; exact ⟨.inr h, by omega⟩
  ·cases h
theorem parX_in {fa mo y : Int} (h : y = fa ∨ y = mo) (h0 : 0 ≤ y) : y ∈ parX fa mo := by
 unfold parX
 rcases h with rfl | rfl
 ·rw [if_pos h0]; simp
 ·rw [if_pos h0]; simp
theorem MF.add {ps : List Per} (h : MF ps) (hl : ps.length < 40) {sx fa mo bo : Int} (hs : sx = 1 ∨ sx = 2) (hf : Sm ps 1 fa) (hm : Sm ps 2 mo) (h0 : 0 ≤ bo) (h1 : bo ≤ 11 + 30 * (ps.length : Int)) (hb : ∀ y ∈ parX fa mo, ∃ (k : Nat) (x : Per), y = k ∧ ps[k]? = some x ∧ x.2.2.2.2.1 < bo) : MF (ps ++ [(nmOf ps.length, sx, fa, mo, bo, -1)]) := by
 have key : ∀ r, r = fa ∨ r = mo → ∀ (k : Nat) (x : Per), r = k → ps[k]? = some x → x.2.2.2.2.1 < bo := by
  intro r hr k x hk hx
  obtain ⟨k', x', h1, h2, h3⟩ := hb r (parX_in hr omT)
  obtain rfl : k = k' := by omega
  rw [hx] at h2
  rw [Option.some.inj h2]; exact h3
 refine ⟨h.1.add hl hs ⟨h0, by omega⟩ (hf.may h (key fa (.inl rfl))) (hm.may h (key mo (.inr rfl))), fun i x hx => ?_⟩
 by_cases e : i < ps.length
 ·rw [List.getElem?_append_left e] at hx; exact h.2 i x hx
 ·rw [List.getElem?_append_right omT] at hx
  by_cases e2 : i = ps.length
  ·subst e2; rw [Nat.sub_self] at hx; simp at hx; subst hx; exact ⟨rfl, h0, h1⟩
  ·rw [show i - ps.length = (i - ps.length - 1) + 1 by omega] at hx; simp at hx
theorem l01Int_lit (W : World) (p : Nat) (hC : CurOk p W) (E : TypeId) (xs : List Int) (h : ∀ x ∈ xs, I64 x) (hl : 0 < xs.length) (hl2 : xs.length ≤ 256) :
  Calls Tryz.prog 147 #[.pointer (some ⟨p, 0, none⟩), .slice (some ⟨W.heap.size, 0, none⟩) xs.length xs.length] (W.alloc (.cells (xs.map (Value.int .i64)).toArray E)) (PostCI p xs (W.alloc (.cells (xs.map (Value.int .i64)).toArray E))) :=
 l01Int_any _ p (hC.grow bwT) _ xs (Ow.ints_lit W E xs h mxT).rd hl hl2 (.inl hC.lt) spT
set_option maxRecDepth 20000 in
theorem l1Family_any (w : World) (p : Nat) (h : CurOk p w) (most : Nat) (h18 : most ≤ 18) :
  Calls Tryz.prog 109 #[.pointer (some ⟨p, 0, none⟩), .int .i64 most] w (PostFam p most w) := by
 have hp := h.lt
 obtain ⟨W0, hW0⟩ : ∃ W0, W0 = ((w.alloc (.cells #[.slice none 0 0, .slice none 0 0] 37)).alloc (.cells #[.slice none 0 0, .slice none 0 0] 37)) := ⟨_, rfl⟩
 have HB0 := Hd (show FamBox p w.heap.size (w.heap.size + 1) 0 w [] (.slice none 0 0) W0 by
  have hb : Below w.heap.size w W0 := by rw [hW0]; exact bwT
  have hb1 : Below (w.heap.size + 1) (w.alloc (.cells #[.slice none 0 0, .slice none 0 0] 37)) W0 := by rw [hW0]; exact bwT
  refine ⟨by rw [hW0]; simp [go_sem], by rw [hW0]; simp [go_sem], by rw [hW0]; simp [go_sem], oldc hb1 (Nat.lt_succ_self _) sgT, oldc hb1 (Nat.lt_succ_self _) sgT, fun o => (hb1.frozen (p := ⟨w.heap.size, o, none⟩) (Nat.lt_succ_self _)).trans sgT,
   GX.nil _ _ _, h.grow hb, OffF.below (OffF.refl [p] w) hb, by rw [hW0]; simp, hp, Nat.lt_succ_self _, Nat.le_refl _⟩)
 clear h
 go_enter Tryz.func109, Tryz.ntmps109
 go_upto_region 2 with fail
 rw [← hW0]
 clear hW0
 go_wp2_with fail
 refine (l01Int_lit W0 p HB0.out.cur 3 [1, 7, 20, 25] (by simp [I64]) spT spT).mono ?_
 rintro e w1 ⟨st, rfl, hst, hC1, hO1⟩
 have hst1 : 1 ≤ st ∧ st ≤ 25 := by simp at hst; omega
 have HB1 := Hd (HB0.out.drew (((OffF.refl [p] W0).alloc _).trans hO1) hC1)
 clear hst hC1 hO1 HB0
 go_wp2_with fail
 refine (l01Int_lit w1 p HB1.out.cur 3 [3, 5, 9] (by simp [I64]) spT spT).mono ?_
 rintro e w2 ⟨lo, rfl, hlo, hC2, hO2⟩
 have hlo1 : 3 ≤ lo ∧ lo ≤ 9 := by simp at hlo; omega
 have HB2 := Hd (HB1.out.drew (((OffF.refl [p] w1).alloc _).trans hO2) hC2)
 clear hlo hC2 hO2 HB1
 have hwm : wrap64 ((most : Int) + 1) = ((most + 1 : Nat) : Int) := (IntWalk.wrap64_in _ omT).trans omT
 go_wp2_with fail
 refine (l01Below_any _ p HB2.out.cur ((most + 1 : Nat) : Int) omT omT).mono ?_
 rintro e w3 ⟨k0, rfl, ⟨hk0, hk1⟩, hC3, hO3⟩
 obtain ⟨K, rfl⟩ := Int.eq_ofNat_of_zero_le hk0
 have HB3 := Hd (HB2.out.drew hO3 hC3)
 have hKm : K ≤ most := by omega
 clear hC3 hO3 HB2 hwm hk0 hk1
 go_wp2
 go_loopw [8, 9, 10, 12] (fun s8 _ _ _ wl => ∃ (k : Nat) (ps : List Per) (v : Value), s8 = .int .i64 k ∧ k + ps.length ≤ most ∧ Hid (FamBox p w.heap.size (w.heap.size + 1) 0 w ps v wl) ∧ Hid (MF ps)) (fun s8 _ _ _ _ => (intOf s8).toNat)
 case atStart => exact ⟨K, [], _, rfl, by simpa using hKm, HB3, Hd ⟨Grown.nil, fun i x hx => by simp at hx⟩⟩
 case round =>
  clear HB3
  obtain ⟨wl, hwl⟩ : ∃ x : World, x = wr := ⟨_, rfl⟩
  subst hwl
  obtain ⟨k, ps, v, rfl, hkp, HB, HM⟩ := hrel
  obtain ⟨va, vcap, rfl, -, -⟩ := HB.out.own.len
  have q0 := HB.out.q0
  have q1 := HB.out.q1
  by_cases hk : 0 < k
  ·have hkI : (0 : Int) < (k : Int) := by omega
   have hwk : wrap64 ((k : Int) - 1) = ((k - 1 : Nat) : Int) := (IntWalk.wrap64_in _ omT).trans omT
   have hlp : ps.length < 18 := by omega
   go_wp2_with fail
   refine (depS_any _ _ _ ps HB.out.own.rd HM.out.1.ppl HM.out.1.len).mono ?_
   rintro e w4 ⟨dv, rfl, hod, hb4⟩
   have hp4 : Below wl.heap.size wl w4 := hb4
   have HB4 := Hd (HB.out.grow hp4)
   obtain ⟨da, dn, dcap, rfl, hdn, -⟩ := hod.rd.shape
   have hpF : p < w.heap.size + 1 := by omega
   have hlF := HB.out.lF
   have HD := Hd (show Rd true (w.heap.size + 2) w4.heap.size w4 [.slice da dn dcap] (deps ps) from hod.rd.mono omT (Nat.le_refl _))
   clear hod hb4 hp4 q0 q1
   have q0 := HB4.out.q0
   have q1 := HB4.out.q1
   obtain ⟨NM, hNM⟩ : ∃ NM, NM = nmOf ps.length := ⟨_, rfl⟩
   have HNM := Hd hNM
   have HNS := Hd (show NM.size ≤ maxLen by rw [hNM]; have e : (nmOf ps.length).size = 2 := rfl; rw [e]; unfold maxLen; omega)
   clear hNM
   go_wp2_with fail
   refine (l1Called_any _ ps.length omT).mono ?_
   rw [← HNM.out]
   rintro e w5 ⟨rfl, hb5⟩
   have HB5 := Hd (HB4.out.grow hb5)
   have HD5 := Hd ((HD.out.below hb5).mono (Nat.le_refl _) hb5.size)
   clear hb5 q0 q1 HD HB4
   go_wp2_with fail
   refine (l01Below_any _ p HB5.out.cur 2 omT omT).mono ?_
   rintro e w6 ⟨r, rfl, ⟨hr0, hr1⟩, hC6, hO6⟩
   have HB6 := Hd (HB5.out.drew hO6 hC6)
   have HD6 := Hd ((HD5.out.keep (offzn hO6 (.inl omT) (Nat.le_refl _))).mono (Nat.le_refl _) hO6.size)
   obtain ⟨sx, hsx⟩ : ∃ sx, sx = 1 + r := ⟨_, rfl⟩
   have hsx2 : sx = 1 ∨ sx = 2 := by omega
   have hwr : wrap64 (1 + r) = 1 + r := IntWalk.wrap64_in _ omT
   clear hC6 hO6 HB5 HD5
   obtain ⟨Q, hQ⟩ : ∃ Q, Q = w6.heap.size := ⟨_, rfl⟩
   obtain ⟨WQ, hWQ⟩ : ∃ W : World, W = w6.alloc (.cells #[.string NM, .int .i64 (1 + r), .int .i64 (-1), .int .i64 (-1), .int .i64 0, .int .i64 (-1)] 100) := ⟨_, rfl⟩
   have HBQ := Hd (show FamBox p w.heap.size (w.heap.size + 1) Q w ps (.slice va ps.length vcap) WQ by rw [hWQ, hQ]; exact HB6.out.opens _)
   have HQ := Hd (show QB Q NM sx (-1) (-1) 0 WQ by rw [hWQ, hQ, hsx]; exact QB.new _ _ _ _ _ _ _)
   have hFQ : w.heap.size + 1 < Q := by rw [hQ]; exact HB6.out.lF
   have HDQ := Hd (show Rd true (w.heap.size + 2) Q WQ [.slice da dn dcap] (deps ps) by rw [hWQ, hQ]; exact HD6.out.below bwT)
   clear HB6 HD6
   go_upto_region 9 with fail
   rw [← hWQ, ← hQ]
   clear hWQ hQ hwr HB hsx
   go_wp2_with fail
   refine (l01Once_any _ p HBQ.out.cur lo omT omT).mono ?_
   rintro e w7 ⟨o7, rfl, hC7, hO7⟩
   have HB7 := Hd (HBQ.out.drew hO7 hC7)
   have HQ7 := Hd (HQ.out.drew hO7 omT)
   have HD7 := Hd (HDQ.out.keep (offzn hO7 (.inl omT) (Nat.le_of_lt HQ.out.lQ)))
   clear hC7 hO7 HBQ HQ HDQ
   go_upto_if 45 with fail
   go_cut [9] (fun s9 wx => s9 = .slice da dn dcap ∧ ∃ r : Int, Hid (Sm ps 1 r) ∧ Hid (FamBox p w.heap.size (w.heap.size + 1) Q w ps (.slice va ps.length vcap) wx) ∧ Hid (QB Q NM sx r (-1) 0 wx) ∧ Hid (Rd true (w.heap.size + 2) Q wx [.slice da dn dcap] (deps ps)))
   case first =>
    cases o7
    ·have q0 := HB7.out.q0
     have q1 := HB7.out.q1
     have c2 := HQ7.out.c2
     have c3 := HQ7.out.c3
     have fq := HQ7.out.fQ
     go_wp2_with fail
     refine (l1Some_any _ p HB7.out.cur _ _ _ ps (HB7.out.own.ow (lo := w.heap.size + 2) (hi := w7.heap.size) (fun b hl hS => ⟨hS.1, hl⟩)).rd (deps ps) HD7.out (deps_len ps) HM.out.1.len omT (Nat.le_refl _) omT (Nat.le_of_lt HQ7.out.lQ) 1).mono ?_
     rintro e wy ⟨r, rfl, hr, hCy, hOy⟩
     have HBy := Hd (HB7.out.drew hOy hCy)
     have HQy := Hd (HQ7.out.drew hOy omT)
     have HDy := Hd (HD7.out.keep (offzn hOy (.inl omT) (Nat.le_of_lt HQ7.out.lQ)))
     have HSm := Hd (show Sm ps 1 r from hr.out)
     have c2 := HQy.out.c2
     have c3 := HQy.out.c3
     have fq := HQy.out.fQ
     have lq := HQy.out.lQ
     clear hr hCy hOy q0 q1
     go_wp2_with fail
     go_meet
     exact ⟨rfl, r, HSm, Hd (HBy.out.setQ hFQ _ _), Hd (HQy.out.put2 r), Hd (HDy.out.keep (fun b h1 h2 => keep_set b omT))⟩
    ·go_wp2_with fail
     go_meet
     exact ⟨rfl, -1, Hd (.inl rfl), HB7, HQ7, HD7⟩
   case rest =>
    obtain ⟨w8, hw8⟩ : ∃ W : World, W = wc := ⟨_, rfl⟩
    subst hw8
    obtain ⟨rfl, fa, HFA, HB8, HQ8, HD8⟩ := hcut
    clear HB7 HQ7 HD7
    go_wp2_with fail
    refine (l01Once_any _ p HB8.out.cur lo omT omT).mono ?_
    rintro e w9 ⟨o9, rfl, hC9, hO9⟩
    have HB9 := Hd (HB8.out.drew hO9 hC9)
    have HQ9 := Hd (HQ8.out.drew hO9 omT)
    have HD9 := Hd (HD8.out.keep (offzn hO9 (.inl omT) (Nat.le_of_lt HQ8.out.lQ)))
    clear hC9 hO9 HB8 HQ8 HD8
    go_upto_if 54 with fail
    go_cut [9] (fun s9 wx => s9 = .slice da dn dcap ∧ ∃ r : Int, Hid (Sm ps 2 r) ∧ Hid (FamBox p w.heap.size (w.heap.size + 1) Q w ps (.slice va ps.length vcap) wx) ∧ Hid (QB Q NM sx fa r 0 wx) ∧ Hid (Rd true (w.heap.size + 2) Q wx [.slice da dn dcap] (deps ps)))
    case first =>
     cases o9
     ·have q0 := HB9.out.q0
      have q1 := HB9.out.q1
      have c2 := HQ9.out.c2
      have c3 := HQ9.out.c3
      have fq := HQ9.out.fQ
      go_wp2_with fail
      refine (l1Some_any _ p HB9.out.cur _ _ _ ps (HB9.out.own.ow (lo := w.heap.size + 2) (hi := w9.heap.size) (fun b hl hS => ⟨hS.1, hl⟩)).rd (deps ps) HD9.out (deps_len ps) HM.out.1.len omT (Nat.le_refl _) omT (Nat.le_of_lt HQ9.out.lQ) 2).mono ?_
      rintro e wy ⟨r, rfl, hr, hCy, hOy⟩
      have HBy := Hd (HB9.out.drew hOy hCy)
      have HQy := Hd (HQ9.out.drew hOy omT)
      have HDy := Hd (HD9.out.keep (offzn hOy (.inl omT) (Nat.le_of_lt HQ9.out.lQ)))
      have HSm := Hd (show Sm ps 2 r from hr.out)
      have c2 := HQy.out.c2
      have c3 := HQy.out.c3
      have fq := HQy.out.fQ
      have lq := HQy.out.lQ
      clear hr hCy hOy q0 q1
      go_wp2_with fail
      go_meet
      exact ⟨rfl, r, HSm, Hd (HBy.out.setQ hFQ _ _), Hd (HQy.out.put3 r), Hd (HDy.out.keep (fun b h1 h2 => keep_set b omT))⟩
     ·go_wp2_with fail
      go_meet
      exact ⟨rfl, -1, Hd (.inl rfl), HB9, HQ9, HD9⟩
    case rest =>
     obtain ⟨wa, hwa⟩ : ∃ W : World, W = wc := ⟨_, rfl⟩
     subst hwa
     obtain ⟨rfl, mo, HMO, HBa, HQa, HDa⟩ := hcut
     clear HB9 HQ9 HD9
     go_wp2_with fail
     refine (l01Below_any _ p HBa.out.cur 12 omT omT).mono ?_
     rintro e wb ⟨b0, rfl, ⟨hb00, hb01⟩, hCb, hOb⟩
     have HBb := Hd (HBa.out.drew hOb hCb)
     have HQb := Hd (HQa.out.drew hOb omT)
     clear hCb hOb HBa HQa HDa
     have c4 := HQb.out.c4
     have fq := HQb.out.fQ
     obtain ⟨WC, hWC⟩ : ∃ W : World, W = wb.setCell ⟨Q, 4, none⟩ (.int .i64 b0) := ⟨_, rfl⟩
     have HBc := Hd (show FamBox p w.heap.size (w.heap.size + 1) Q w ps (.slice va ps.length vcap) WC by rw [hWC]; exact HBb.out.setQ hFQ _ _)
     have HQc := Hd (show QB Q NM sx fa mo b0 WC by rw [hWC]; exact HQb.out.put4 b0)
     go_upto_region 14 with fail
     rw [← hWC]
     clear hWC c4 fq HBb HQb
     have c0 := HQc.out.c0
     have c1 := HQc.out.c1
     have c2 := HQc.out.c2
     have c3 := HQc.out.c3
     have c4 := HQc.out.c4
     have c5 := HQc.out.c5
     go_wp2_with fail
     refine (l1Parents_any _ _ _ [(NM, sx, fa, mo, b0, -1)] (Ow.per1 WC 100 HNS.out (by unfold I64; omega) (HFA.out.i64 HM.out.1.len) (HMO.out.i64 HM.out.1.len) (by unfold I64; omega) (by unfold I64; omega)).rd 0 rfl).mono ?_
     rintro e wd ⟨pv, rfl, hop, hbd⟩
     obtain ⟨pa, pn, pcap, rfl, hpn, -⟩ := hop.rd.shape
     subst hpn
     have hpd : Below WC.heap.size WC wd := Below.trans (show Below WC.heap.size WC _ from bwT) (hbd.mono spT)
     have HBd := Hd (HBc.out.grow hpd)
     have HQd := Hd (HQc.out.grow hpd)
     have hsd := hpd.size
     have lqc := HQc.out.lQ
     have HP := Hd (hop.rd.mono (lo' := WC.heap.size) spT (Nat.le_refl _))
     have hpl : (parX fa mo).length ≤ 2 := by unfold parX; split <;> split <;> simp
     obtain ⟨PX, hPX⟩ : ∃ P, P = parX fa mo := ⟨_, rfl⟩
     rw [← hPX] at HP hpl
     rw [← hPX]
     have HPX := Hd hPX
     clear hop hbd hpd hPX HBc HQc c0 c1 c2 c3 c4 c5
     go_wp2
     go_loopw [12, 68] (fun _ s68 wi => ∃ (j : Nat) (bo : Int), j ≤ PX.length ∧ s68 = .int .i64 j ∧ Hid (FamBox p w.heap.size (w.heap.size + 1) Q w ps (.slice va ps.length vcap) wi) ∧ Hid (QB Q NM sx fa mo bo wi) ∧ Hid (Rd true WC.heap.size wd.heap.size wi [.slice pa PX.length pcap] PX) ∧ wd.heap.size ≤ wi.heap.size ∧ (0 ≤ bo ∧ bo ≤ 11 + 30 * (ps.length : Int)) ∧ Hid (∀ y ∈ PX.take j, ∃ (k : Nat) (x : Per), y = k ∧ ps[k]? = some x ∧ x.2.2.2.2.1 < bo)) (fun _ s68 _ => PX.length - (intOf s68).toNat)
     case atStart => exact ⟨0, b0, Nat.zero_le _, rfl, HBd, HQd, HP, Nat.le_refl _, by omega, Hd (fun y hy => by simp at hy)⟩
     case round =>
      clear HBd HQd HP
      obtain ⟨we, hwe⟩ : ∃ x : World, x = wr := ⟨_, rfl⟩
      subst hwe
      obtain ⟨j, bo, hj, rfl, HBe, HQe, HPe, hse, hbo, HY⟩ := hrel
      have q0 := HBe.out.q0
      have c4 := HQe.out.c4
      have fq := HQe.out.fQ
      have lq := HQe.out.lQ
      have lF := HBe.out.lF
      by_cases hjl : j < PX.length
      ·have hjI : (j : Int) < (PX.length : Int) := by omega
       obtain ⟨bp, ofp, y, rfl, hy, y0, -⟩ := HPe.out.int_at hjl
       obtain ⟨hy1, hy2⟩ := mem_parX (by rw [← HPX.out]; exact List.mem_of_getElem? hy.out)
       obtain ⟨m, rfl, hml⟩ : ∃ m : Nat, y = m ∧ m < ps.length := by
        rcases hy1 with e | e
        ·subst e; exact HFA.out.at hy2
        ·subst e; exact HMO.out.at hy2
       have HYJ := Hd hy.out
       obtain ⟨bx, ofx, xnm, xsx, xfa, xmo, xbo, xdi, rfl, hx, -, -, -, -, x4, -⟩ := HBe.out.own.rd.per_at hml
       have hxb := HM.out.2 m _ hx.out
       dsimp only at hxb
       have HXM := Hd hx.out
       have hmI : (m : Int) < (ps.length : Int) := by omega
       have hbx : bx < we.heap.size := World.block_lt_of_cell? we ⟨bx, _, none⟩ x4
       have hbQ : bx ≠ Q := (HBe.out.own.lt (b := bx) rfl).2.2
       have hbF : w.heap.size + 1 < bx := (HBe.out.own.lt (b := bx) rfl).2.1
       have hw1 : IntKind.i64.wrap (xbo + st) = xbo + st := IntWalk.i64_in _ omT
       clear hy hx hy1 hy2
       go_upto_region 17 with fail
       refine wp_region_held_drew (S := (fun w' => w'.cell? ⟨w.heap.size + 1, 0, none⟩ = some (.slice (some ⟨bx, ofx, none⟩) ps.length vcap) ∧ w'.cell? ⟨bx, ofx + m * 6 + 4, none⟩ = some (.int .i64 xbo))) krT ?_ (fun hHeld => ?_)
       ·exact kpT
       refine tkA 0 ?_
       try simp only [cD]
       refine tkA 2 ?_
       try simp only [cD]
       refine tkA 4 ?_
       try simp only [cD]
       refine tkA 8 ?_
       try simp only [cD]
       refine tkA 10 ?_
       try simp only [cD]
       refine tkA 3 ?_
       try simp only [cD]
       refine tkA 5 ?_
       try simp only [cD]
       refine tkA 6 ?_
       try simp only [cD]
       refine tkA 7 ?_
       try simp only [cD]
       refine tkA 9 ?_
       try simp only [cD]
       refine rdy [1, 11] ?_
       refine rdR (fun K hK => ?_) ?_
       ·go_simp
        refine hK.out _ _ kpT fun hHeld => ?_
        clear hK K
        try simp only [cD]
        refine rd1 11 fun K hK => ?_
        go_simp
        refine (l01Below_any _ p (HBe.out.cur.grow ?b1) 6 omT omT).mono ?_
        case b1 => exact bwT
        rintro e wf ⟨r, rfl, ⟨hr0, hr1⟩, hCf, hOf⟩
        have hOf2 : OffF [p] we wf := (OffF.below (OffF.refl [p] we) bwT).trans hOf
        have HBf := Hd (HBe.out.drew hOf2 hCf)
        have HQf := Hd (HQe.out.drew hOf2 omT)
        have HPf := Hd (HPe.out.keep (offzn hOf2 (.inl omT) hse))
        have hsf := hOf2.size
        have hS11 := aI HBf.out.q0 (offq hOf2 omT hbx x4)
        have c4f := HQf.out.c4
        obtain ⟨z3, hz3⟩ : ∃ z, max bo (xbo + st + r) = z := ⟨_, rfl⟩
        have hz4 : bo ≤ z3 ∧ xbo + st + r ≤ z3 ∧ (z3 = bo ∨ z3 = xbo + st + r) := by omega
        have hw2 : IntKind.i64.wrap (xbo + st + r) = xbo + st + r := IntWalk.i64_in _ omT
        have fqf := HQf.out.fQ
        have lqf := HQf.out.lQ
        have HY2 := Hd (show ∀ y ∈ PX.take (j + 1), ∃ (k : Nat) (x : Per), y = k ∧ ps[k]? = some x ∧ x.2.2.2.2.1 < z3 by
         intro y hy
         rw [take_snoc HYJ.out, List.mem_append] at hy
         rcases hy with hy | hy
         ·obtain ⟨k, x, e1, e2, e3⟩ := HY.out y hy
          exact ⟨k, x, e1, e2, by omega⟩
         ·rw [List.mem_singleton] at hy
          exact ⟨m, _, hy, HXM.out, by show xbo < z3; omega⟩)
        have hz5 : 0 ≤ z3 ∧ z3 ≤ 11 + 30 * (ps.length : Int) := by omega
        clear hCf hOf
        refine hK.out _ _ kpT fun hHeld => ?_
        clear hK K
        try simp only [cD]
        refine tkA 12 ?_
        try simp only [cD]
        refine tkA 13 ?_
        try simp only [cD]
        refine tkA 14 ?_
        try simp only [cD]
        refine rd1 15 fun K hK => ?_
        go_simp
        refine hK.out _ _ kpT fun hHeld => ?_
        clear hK K
        try simp only [cD]
        refine wdT ?_
        clear hHeld
        go_wp2
        go_roundw
        case rel => exact ⟨j + 1, z3, by omega, by go_num, Hd (HBf.out.setQ hFQ _ _), Hd (HQf.out.put4 z3), Hd (HPf.out.keep (fun b h1 h2 => keep_set b omT)), by simp; omega, hz5, HY2⟩
        case measure => simp [intOf]; omega
       refine rdR (fun K hK => ?_) ?_
       ·go_simp
        refine (l01Below_any _ p (HBe.out.cur.grow ?b1) 6 omT omT).mono ?_
        case b1 => exact bwT
        rintro e wf ⟨r, rfl, ⟨hr0, hr1⟩, hCf, hOf⟩
        have hOf2 : OffF [p] we wf := (OffF.below (OffF.refl [p] we) bwT).trans hOf
        have HBf := Hd (HBe.out.drew hOf2 hCf)
        have HQf := Hd (HQe.out.drew hOf2 omT)
        have HPf := Hd (HPe.out.keep (offzn hOf2 (.inl omT) hse))
        have hsf := hOf2.size
        have hS11 := aI HBf.out.q0 (offq hOf2 omT hbx x4)
        have c4f := HQf.out.c4
        obtain ⟨z3, hz3⟩ : ∃ z, max bo (xbo + st + r) = z := ⟨_, rfl⟩
        have hz4 : bo ≤ z3 ∧ xbo + st + r ≤ z3 ∧ (z3 = bo ∨ z3 = xbo + st + r) := by omega
        have hw2 : IntKind.i64.wrap (xbo + st + r) = xbo + st + r := IntWalk.i64_in _ omT
        have fqf := HQf.out.fQ
        have lqf := HQf.out.lQ
        have HY2 := Hd (show ∀ y ∈ PX.take (j + 1), ∃ (k : Nat) (x : Per), y = k ∧ ps[k]? = some x ∧ x.2.2.2.2.1 < z3 by
         intro y hy
         rw [take_snoc HYJ.out, List.mem_append] at hy
         rcases hy with hy | hy
         ·obtain ⟨k, x, e1, e2, e3⟩ := HY.out y hy
          exact ⟨k, x, e1, e2, by omega⟩
         ·rw [List.mem_singleton] at hy
          exact ⟨m, _, hy, HXM.out, by show xbo < z3; omega⟩)
        have hz5 : 0 ≤ z3 ∧ z3 ≤ 11 + 30 * (ps.length : Int) := by omega
        clear hCf hOf
        refine hK.out _ _ kpT fun hHeld => ?_
        clear hK K
        try simp only [cD]
        refine tkA 12 ?_
        try simp only [cD]
        refine rd1 1 fun K hK => ?_
        go_simp
        refine hK.out _ _ kpT fun hHeld => ?_
        clear hK K
        try simp only [cD]
        refine tkA 13 ?_
        try simp only [cD]
        refine tkA 14 ?_
        try simp only [cD]
        refine rd1 15 fun K hK => ?_
        go_simp
        refine hK.out _ _ kpT fun hHeld => ?_
        clear hK K
        try simp only [cD]
        refine wdT ?_
        clear hHeld
        go_wp2
        go_roundw
        case rel => exact ⟨j + 1, z3, by omega, by go_num, Hd (HBf.out.setQ hFQ _ _), Hd (HQf.out.put4 z3), Hd (HPf.out.keep (fun b h1 h2 => keep_set b omT)), by simp; omega, hz5, HY2⟩
        case measure => simp [intOf]; omega
       exact AllReadyH.nil
      ·obtain rfl : j = PX.length := by omega
       have hjI : ¬ (PX.length : Int) < (PX.length : Int) := by omega
       have HMF := Hd (show MF (ps ++ [(NM, sx, fa, mo, bo, -1)]) by
        rw [HNM.out]
        refine HM.out.add omT hsx2 HFA.out HMO.out hbo.1 hbo.2 ?_
        rw [← HPX.out]
        have := HY.out
        rw [List.take_length] at this
        exact this)
       have c0 := HQe.out.c0
       have c1 := HQe.out.c1
       have c2 := HQe.out.c2
       have c3 := HQe.out.c3
       have c5 := HQe.out.c5
       have hfi := HFA.out.i64 HM.out.1.len
       have hmi := HMO.out.i64 HM.out.1.len
       have HGo := Hd HBe.out.own
       have ff := HBe.out.fF
       go_wp2_with (at_builtin; refine wpList_push_x rfl rfl slPerson (by show (0 : Nat) < 6; omega) rfl (ad := ⟨we.heap.size, 0, none⟩) rfl (cs := [.string NM, .int .i64 sx, .int .i64 fa, .int .i64 mo, .int .i64 bo, .int .i64 (-1)]) (y := ((NM, sx, fa, mo, bo, -1) : Per)) (lx := we.heap.size) (hx' := we.heap.size) (cells_per _ _ _ _ _ _ _ _) (w0 := we) HGo.out (Nat.le_refl _) (fun b hl _ => Below.heap_alloc we _ b hl) (Ow.flat0 (z := true) (w0 := we) (fp := []) (repPer_mk HNS.out (by unfold I64; omega) hfi hmi (by unfold I64; omega) (by unfold I64; omega)) _ _) (fun b h1 h2 => by omega) soT (by unfold maxLen; first | omega | (simp; done) | (simp; omega)) ofT ?_)
       intro v' wf hGf hgf _
       obtain ⟨vb, vbcap, rfl, -, -⟩ := hGf.len
       have hgf2 : we.grownBy wf (Value.slice va ps.length vcap).ownBlock := (World.grownBy_alloc we _ _).trans hgf
       have HBf := Hd (HBe.out.push hFQ hGf hgf2)
       have q0f : wf.cell? ⟨w.heap.size + 1, 0, none⟩ = some (.slice va ps.length vcap) := cell_far (hgf2.block _ lF (fun e => by have := (HBe.out.own.lt e.symm).2.1; omega)) q0
       have ff := frz_far (hgf2.block _ lF (fun e => by have := (HBe.out.own.lt e.symm).2.1; omega)) ff
       have HBf2 := Hd HBf.out.shuts
       have e2 : (ps ++ [((NM, sx, fa, mo, bo, -1) : Per)]).length = ps.length + 1 := by simp
       rw [e2] at HBf2
       clear e2
       clear hGf hgf hgf2 HBf HGo
       go_wp2
       go_roundw
       case rel => exact ⟨k - 1, _, _, by first | rfl | go_num, by simp; omega, HBf2, HMF⟩
       case measure => simp [intOf]; omega
  ·have hkI : ¬ (0 : Int) < (k : Int) := by omega
   obtain rfl : k = 0 := by omega
   have hps : ps.length ≤ 18 := by omega
   have HO0 := Hd (HB.out.toO)
   have HP0 := Hd (show PplTo ps ps.length ∧ depOk ps = true ∧ ∀ (i : Nat) (x : Per), ps[i]? = some x → 0 ≤ x.2.2.2.2.1 ∧ x.2.2.2.2.1 ≤ 560 from ⟨HM.out.1.ppl, HM.out.1.dep, fun i x hx => by have := HM.out.2 i x hx; have := (List.getElem?_eq_some_iff.1 hx).1; omega⟩)
   obtain ⟨n, hn⟩ : ∃ n, n = ps.length := ⟨_, rfl⟩
   rw [← hn] at HO0 q0
   have hn18 : n ≤ 18 := by omega
   have hnm : n ≤ most := by omega
   have HNN := Hd hn
   clear HB HM hn
   go_wp2
   go_loopw [13, 14, 16, 97] (fun _ _ _ s97 wx => ∃ (i : Nat) (qs : List Per), i ≤ n ∧ s97 = .int .i64 i ∧ qs.length = n ∧ Hid (FamO p w.heap.size (w.heap.size + 1) w qs (.slice va n vcap) wx) ∧ Hid (PplTo qs qs.length ∧ depOk qs = true ∧ ∀ (i : Nat) (x : Per), qs[i]? = some x → 0 ≤ x.2.2.2.2.1 ∧ x.2.2.2.2.1 ≤ 560)) (fun _ _ _ s97 _ => n - (intOf s97).toNat)
   case atStart => exact ⟨0, ps, Nat.zero_le _, rfl, HNN.out.symm, HO0, HP0⟩
   case round =>
    clear HO0 HP0 q0 q1
    obtain ⟨wx, hwx⟩ : ∃ x : World, x = wr := ⟨_, rfl⟩
    subst hwx
    obtain ⟨i, qs, hin, rfl, hql, HO, HP⟩ := hrel
    have q0 := HO.out.q0
    have q1 := HO.out.q1
    by_cases hil : i < n
    ·have hiI : (i : Int) < (n : Int) := by omega
     go_wp2_with fail
     refine (l01Once_any _ p HO.out.cur 3 omT omT).mono ?_
     rintro e w4 ⟨o4, rfl, hC4, hO4⟩
     have HO4 := Hd (HO.out.drew hO4 hC4)
     clear hC4 hO4 q0 q1 HO
     cases o4
     ·go_wp2
      go_roundw
      case rel => exact ⟨i + 1, qs, by omega, by go_num, hql, HO4, HP⟩
      case measure => simp [intOf]; omega
     ·obtain ⟨b, off, nm, sx, fa, mo, bo, di, hao, hx, -, -, -, -, x4, x5, hnm, hsx, hfa, hmo, -, -, hbl, -, hbs, hfz⟩ := HO4.out.own.rd.per_at (i := i) hil
      subst hao
      have HX := Hd hx.out
      have hbb := HP.out.2.2 i _ hx.out
      dsimp only at hbb
      have q0 := HO4.out.q0
      have q1 := HO4.out.q1
      clear hx x5 hfz
      go_wp2_with fail
      refine (l1Children_any _ _ _ qs HO4.out.own.rd omT i).mono ?_
      rintro e w5 ⟨mu, M, rfl, hM, hch, hb5⟩
      obtain ⟨ma, mn, mcap, rfl, hmn, -⟩ := hM.shape
      subst hmn
      have HM5 := Hd hM
      have HCH := Hd hch.out
      have HO5 := Hd (HO4.out.grow hb5)
      have hml : M.length ≤ 40 := by have := HCH.out.2.2; omega
      clear hM hch hb5 q0 q1 HO4 x4
      go_wp2
      go_loopw [14, 16, 112] (fun s14 _ s112 wy => ∃ (j : Nat) (A : Int), j ≤ M.length ∧ s112 = .int .i64 j ∧ s14 = .int .i64 A ∧ (bo ≤ A ∧ A ≤ 560) ∧ Hid (∀ y ∈ M.take j, ∀ (k : Nat) (x : Per), y = k → qs[k]? = some x → x.2.2.2.2.1 ≤ A) ∧ Below w5.heap.size w5 wy) (fun _ _ s112 _ => M.length - (intOf s112).toNat)
      case atStart => exact ⟨0, bo, Nat.zero_le _, rfl, rfl, by omega, Hd (fun y hy => by simp at hy), Below.refl _ _⟩
      case round =>
       obtain ⟨wy, hwy⟩ : ∃ x : World, x = wr := ⟨_, rfl⟩
       subst hwy
       obtain ⟨j, A, hj, rfl, rfl, hA, HA, hby⟩ := hrel
       have HOy := Hd (HO5.out.grow hby)
       have HMy := Hd (HM5.out.below hby)
       have q0 := HOy.out.q0
       by_cases hjl : j < M.length
       ·have hjI : (j : Int) < (M.length : Int) := by omega
        obtain ⟨bm, om, y, rfl, hy, y0, -⟩ := HMy.out.int_at hjl
        obtain ⟨m, rfl, hml2⟩ := HCH.out.1 y (List.mem_of_getElem? hy.out)
        obtain ⟨_, _, _, _, _, _, bo2, _, e, hx2, -, -, -, -, z4, -⟩ := HOy.out.own.rd.per_at (i := m) omT
        simp only [Option.some.injEq, Addr.mk.injEq, and_true] at e
        obtain ⟨rfl, rfl⟩ := e
        have hb2 := HP.out.2.2 m _ hx2.out
        dsimp only at hb2
        have HX2 := Hd hx2.out
        have HY := Hd hy.out
        have hmI : (m : Int) < (n : Int) := by omega
        obtain ⟨A2, hA2⟩ : ∃ A2, max A bo2 = A2 := ⟨_, rfl⟩
        have hA3 : A ≤ A2 ∧ bo2 ≤ A2 ∧ A2 ≤ 560 := by omega
        have HA2 := Hd (show ∀ y ∈ M.take (j + 1), ∀ (k : Nat) (x : Per), y = k → qs[k]? = some x → x.2.2.2.2.1 ≤ A2 by
         intro y hy k x hk hx
         rw [take_snoc HY.out, List.mem_append] at hy
         rcases hy with hy | hy
         ·have := HA.out y hy k x hk hx; omega
         ·rw [List.mem_singleton] at hy
          obtain rfl : k = m := by omega
          rw [HX2.out] at hx
          obtain rfl := Option.some.inj hx
          exact hA3.2.1)
        clear hy hx2
        go_wp2
        go_roundw
        case rel => exact ⟨j + 1, A2, by omega, by go_num, rfl, by omega, HA2, hby⟩
        case measure => simp [intOf]; omega
       ·obtain rfl : j = M.length := by omega
        have hjI : ¬ (M.length : Int) < (M.length : Int) := by omega
        have HAL := Hd (show ∀ (k : Nat) (x : Per), qs[k]? = some x → (x.2.2.1 = i ∨ x.2.2.2.1 = i) → x.2.2.2.2.1 ≤ A by
         intro k x hx hq
         have hk := (List.getElem?_eq_some_iff.1 hx).1
         refine HA.out _ ?_ k x rfl hx
         rw [List.take_length]
         exact HCH.out.2.1 k x hk hx hq)
        have hC := HOy.out.cur
        have hpF : p < w.heap.size + 1 := by omega
        clear HA HMy HM5 HO5 hby HCH
        go_upto_region 30 with fail
        refine wp_region_held_drew (S := (fun w' => w'.cell? ⟨w.heap.size + 1, 0, none⟩ = some (.slice (some ⟨b, off, none⟩) n vcap))) krT ?_ (fun hHeld => ?_)
        ·exact kpT
        refine tkA 0 ?_
        try simp only [cD]
        refine tkA 2 ?_
        try simp only [cD]
        refine tkA 3 ?_
        try simp only [cD]
        refine tkA 4 ?_
        try simp only [cD]
        refine tkA 1 ?_
        try simp only [cD]
        refine rd1 5 fun K hK => ?_
        go_simp
        refine hK.out _ _ kpT fun hHeld => ?_
        clear hK K
        try simp only [cD]
        refine rd1 6 fun K hK => ?_
        go_simp
        refine (l01Int_any _ p (hC.grow ?b1) _ [0, 1, 5, 30, 60] (Rd.ints_of (B := wy.heap.size) (by first | (simp; done) | (simp; omega)) (by simp [I64]) (by simp [maxLen]) ?c1) spT spT (.inl (by have := hC.lt; omega)) (by first | (simp; done) | (simp; omega))).mono ?_
        case b1 => exact bwT
        case c1 =>
         intro j u hj
         match j, hj with
         | 0, hj => simp at hj; subst hj; simp [go_sem]
         | 1, hj => simp at hj; subst hj; simp [go_sem]
         | 2, hj => simp at hj; subst hj; simp [go_sem]
         | 3, hj => simp at hj; subst hj; simp [go_sem]
         | 4, hj => simp at hj; subst hj; simp [go_sem]
        rintro e wz ⟨c, rfl, hc, hCz, hOz⟩
        have hc2 : 0 ≤ c ∧ c ≤ 60 := by simp at hc; omega
        have HOz := Hd (HOy.out.drew ((OffF.below (OffF.refl [p] wy) bwT).trans hOz) hCz)
        have hS6 := HOz.out.q0
        obtain ⟨_, _, _, _, _, _, _, _, e, hxz, -, -, -, -, -, z5, -, -, -, -, -, -, hbl2, -, hbz, hfz⟩ := HOz.out.own.rd.per_at (i := i) hil
        simp only [Option.some.injEq, Addr.mk.injEq, and_true] at e
        obtain ⟨rfl, rfl⟩ := e
        have hfz := hfz rfl
        have hwd : IntKind.i64.wrap (A + c) = A + c := IntWalk.i64_in _ omT
        have hneF : ¬ b = w.heap.size + 1 := by omega
        have HOF := Hd (HOz.out.die hil HX.out (d := A + c) (by unfold I64; omega))
        have HPF := Hd (die_ok HP.out.1 HP.out.2.1 HX.out (d := A + c) omT omT (fun k x hx hq => by have := HAL.out k x hx hq; omega))
        clear hc hCz hOz hxz
        refine hK.out _ _ kpT fun hHeld => ?_
        clear hK K
        try simp only [cD]
        refine tkA 7 ?_
        try simp only [cD]
        refine tkA 8 ?_
        try simp only [cD]
        refine tkA 9 ?_
        try simp only [cD]
        refine rd1 10 fun K hK => ?_
        go_simp
        refine hK.out _ _ kpT fun hHeld => ?_
        clear hK K
        try simp only [cD]
        refine wdT ?_
        clear hHeld
        go_wp2
        go_roundw
        case rel => exact ⟨i + 1, setDie qs i (A + c), by omega, by go_num, (setDie_len _ _ _).trans hql, HOF, Hd ⟨HPF.out.1, HPF.out.2, fun k x hx => setDie_bo HP.out.2.2 hx⟩⟩
        case measure => simp [intOf]; omega
    ·obtain rfl : i = n := by omega
     have hiI : ¬ (i : Int) < (i : Int) := by omega
     have HFB := Hd (fam_ppl (show qs.length ≤ 40 by omega) HP.out.1 HP.out.2.1)
     have hpw : p < w.heap.size + 2 := by omega
     go_wp2_with fail
     refine (l1Wed_any _ p HO.out.cur _ qs HO.out.own.rd omT (by have := HO.out.lF; omega) (Nat.le_refl _) HFB.out most omT).mono ?_
     rintro e wz ⟨ra, rb, f, rfl, hrf, hff, hCz, hOz⟩
     have HOz := Hd (HO.out.drew hOz hCz)
     obtain ⟨xa, xn, xc, ya, yn, yc, rfl, rfl⟩ := shapeFam hrf
     have HRF := Hd hrf
     have HFF := Hd hff.out
     clear hrf hff
     have r0 := HOz.out.r0
     have r1 := HOz.out.r1
     have rf := HOz.out.fR
     have lF := HOz.out.lF
     have hR := HOz.out.h0
     go_wp2
     refine bodyPost_ret (v := .agg #[.slice xa xn xc, .slice ya yn yc]) (by simp [results, Tryz.results109, go_sem, *]) rfl ⟨_, _, f, rfl, ?_, HFF, HOz.out.cur.below ?b1, HOz.out.off.belowA ?b2⟩
     ·exact (HRF.out.keep (fun b h1 h2 => (keep_set b omT).trans (keep_set b omT))).mono omT spT
     case b1 => exact bwT
     case b2 => exact bwT
end
section
def Prev (ps : List Per) (k : Nat) (sex bo : Int) (t : Nat) : Prop := ∃ (nm : ByteArray) (fa mo : Int), ps[k]? = some (nm, sex, fa, mo, bo, -1) ∧ (deps ps).getD k 0 ≤ t
theorem Prev.lt {ps : List Per} {k : Nat} {sex bo : Int} {t : Nat} (h : Prev ps k sex bo t) : k < ps.length := by
 obtain ⟨_, _, _, h1, -⟩ := h
 exact (List.getElem?_eq_some_iff.1 h1).1
theorem Prev.snoc {ps : List Per} {k : Nat} {sex bo : Int} {t : Nat} (h : Prev ps k sex bo t) (x : Per) : Prev (ps ++ [x]) k sex bo t := by
 have hk := h.lt
 obtain ⟨nm, fa, mo, h1, h2⟩ := h
 exact ⟨nm, fa, mo, by rw [List.getElem?_append_left hk]; exact h1, by rw [deps_pre ps x hk]; exact h2⟩
def Cp (ps : List Per) (r sex bo : Int) (t : Nat) : Prop := r = -1 ∨ ∃ k : Nat, r = k ∧ Prev ps k sex bo t
theorem Cp.may {ps : List Per} {r sex bo bo' : Int} {t : Nat} (h : Cp ps r sex bo t) (hb : bo < bo') (ht : t ≤ 9) : MayUp ps r sex bo' := by
 rcases h with h | ⟨k, h, nm, fa, mo, h1, h2⟩
 ·exact .inl h
 ·exact .inr ⟨k, nm, fa, mo, bo, h, h1, hb, by omega⟩
theorem Cp.dep {ps : List Per} {r sex bo : Int} {t : Nat} (h : Cp ps r sex bo t) : dep1 (deps ps) r ≤ (t : Int) + 1 := by
 rcases h with rfl | ⟨k, rfl, nm, fa, mo, h1, h2⟩
 ·simp [dep1]; omega
 ·unfold dep1
  rw [if_pos (Int.natCast_nonneg k), Int.toNat_natCast]; omega
theorem Cp.i64 {ps : List Per} {r sex bo : Int} {t : Nat} (h : Cp ps r sex bo t) (hl : ps.length ≤ 40) : I64 r := by
 unfold I64
 rcases h with rfl | ⟨k, rfl, hk⟩
 ·omega
 ·have := hk.lt; omega
theorem Cp.new {ps : List Per} {fa mo bo bo' : Int} {t : Nat} (hf : Cp ps fa 1 bo t) (hm : Cp ps mo 2 bo t) (sx : Int) (nm : ByteArray) : Prev (ps ++ [(nm, sx, fa, mo, bo', -1)]) ps.length sx bo' (t + 1) := by
 refine ⟨nm, fa, mo, by simp, ?_⟩
 rw [deps_new]
 have h1 := hf.dep
 have h2 := hm.dep
 unfold depOf
 dsimp only
 omega
def Gen (ps : List Per) (wide : Nat) (bo : Int) (t : Nat) : Prop := ps.length = 0 ∨ (wide ≤ ps.length ∧ Prev ps (ps.length - wide) 1 bo t ∧ Prev ps (ps.length - wide + 1) 2 bo t)
structure Geni (n wide i : Nat) (bo bo' : Int) (t : Nat) (ps : List Per) : Prop where
 grown : Grown ps
 len : ps.length = n + i
 old : n = 0 ∨ (wide ≤ n ∧ Prev ps (n - wide) 1 bo t ∧ Prev ps (n - wide + 1) 2 bo t)
 one : 1 ≤ i → Prev ps n 1 bo' (t + 1)
 two : 2 ≤ i → Prev ps (n + 1) 2 bo' (t + 1)
theorem Gen.start {ps : List Per} {wide : Nat} {bo bo' : Int} {t : Nat} (h : Gen ps wide bo t) (hg : Grown ps) : Geni ps.length wide 0 bo bo' t ps := ⟨hg, rfl, h, fun h => by omega, fun h => by omega⟩
theorem Geni.fin {n wide : Nat} {bo bo' : Int} {t : Nat} {ps : List Per} (h : Geni n wide wide bo bo' t ps) (hw : 2 ≤ wide) : Gen ps wide bo' (t + 1) ∧ Grown ps := by
 have hl := h.len
 refine ⟨.inr ⟨by omega, ?_, ?_⟩, h.grown⟩
 ·rw [show ps.length - wide = n by omega]; exact h.one omT
 ·rw [show ps.length - wide + 1 = n + 1 by omega]; exact h.two omT
theorem Geni.add {n wide i : Nat} {bo bo' : Int} {t : Nat} {ps : List Per} (h : Geni n wide i bo bo' t ps) (hl : n + i < 40) {sx fa mo : Int} (hs : (i % 2 = 0 ∧ sx = 1) ∨ (i % 2 = 1 ∧ sx = 2)) (hb : bo < bo') (h0 : 0 ≤ bo' ∧ bo' ≤ 9999) (ht : t ≤ 9) (hf : Cp ps fa 1 bo t) (hm : Cp ps mo 2 bo t) : Geni n wide (i + 1) bo bo' t (ps ++ [(nmOf (n + i), sx, fa, mo, bo', -1)]) := by
 have hn := hf.new (bo' := bo') hm sx (nmOf (n + i))
 rw [h.len] at hn
 refine ⟨?_, by rw [List.length_append, h.len]; simp; omega, h.old.imp id (fun g => ⟨g.1, g.2.1.snoc _, g.2.2.snoc _⟩), fun _ => ?_, fun _ => ?_⟩
 ·have := h.grown.add (by rw [h.len]; exact hl) (sx := sx) omT h0 (hf.may hb ht) (hm.may hb ht)
  rw [h.len] at this; exact this
 ·by_cases e : i = 0
  ·subst e
   have : sx = 1 := by omega
   subst this; exact hn
  ·exact (h.one omT).snoc _
 ·by_cases e : i = 1
  ·subst e
   have : sx = 2 := by omega
   subst this; exact hn
  ·exact (h.two omT).snoc _
end
section
theorem GX.nil0 {α : Type} [Rep α] (S : Nat → Prop) (w : World) (E : TypeId) : GX (α := α) S w E (.slice none 0 0) [] :=
 ⟨[], [], by simpa using World.ownsRow_nil w 0 E (Rep.sz α), trivial, by simp, by simp [Value.ownBlock], List.nodup_nil⟩
set_option maxRecDepth 20000 in
theorem l8Close_any (w : World) (p : Nat) (h : CurOk p w) : Calls Tryz.prog 110 #[.pointer (some ⟨p, 0, none⟩)] w (PostFam p 40 w) := by
 have hp := h.lt
 obtain ⟨W0, hW0⟩ : ∃ W0, W0 = ((w.alloc (.cells #[.slice none 0 0, .slice none 0 0] 37)).alloc (.cells #[.slice none 0 0, .slice none 0 0] 37)) := ⟨_, rfl⟩
 have HB0 := Hd (show FamBox p w.heap.size (w.heap.size + 1) 0 w [] (.slice none 0 0) W0 by
  have hb : Below w.heap.size w W0 := by rw [hW0]; exact bwT
  have hb1 : Below (w.heap.size + 1) (w.alloc (.cells #[.slice none 0 0, .slice none 0 0] 37)) W0 := by rw [hW0]; exact bwT
  refine ⟨by rw [hW0]; simp [go_sem], by rw [hW0]; simp [go_sem], by rw [hW0]; simp [go_sem], oldc hb1 (Nat.lt_succ_self _) sgT, oldc hb1 (Nat.lt_succ_self _) sgT, fun o => (hb1.frozen (p := ⟨w.heap.size, o, none⟩) (Nat.lt_succ_self _)).trans sgT,
   GX.nil0 _ _ _, h.grow hb, OffF.below (OffF.refl [p] w) hb, by rw [hW0]; simp, hp, Nat.lt_succ_self _, Nat.le_refl _⟩)
 clear h
 go_enter Tryz.func110, Tryz.ntmps110
 go_upto_region 2 with fail
 rw [← hW0]
 clear hW0
 go_cut [4] (fun s4 wx => ∃ wd : Nat, s4 = .int .i64 wd ∧ (2 ≤ wd ∧ wd ≤ 3) ∧ Hid (FamBox p w.heap.size (w.heap.size + 1) 0 w [] (.slice none 0 0) wx))
 case first =>
  go_wp2_with fail
  refine (l01Below_any _ p HB0.out.cur 2 omT omT).mono ?_
  rintro e w1 ⟨r, rfl, ⟨hr0, hr1⟩, hC1, hO1⟩
  have HB1 := Hd (HB0.out.drew hO1 hC1)
  clear hC1 hO1
  go_wp2_with fail
  go_meet
  exact ⟨(2 + r).toNat, by rw [show (((2 + r).toNat : Nat) : Int) = 2 + r by omega], by omega, HB1⟩
 case rest =>
  obtain ⟨w1, hw1⟩ : ∃ W : World, W = wc := ⟨_, rfl⟩
  subst hw1
  obtain ⟨wd, rfl, hwd, HB1⟩ := hcut
  clear HB0
  go_upto_region 3 with fail
  go_cut [5] (fun s5 wx => ∃ g : Nat, s5 = .int .i64 g ∧ g ≤ 10 ∧ Hid (FamBox p w.heap.size (w.heap.size + 1) 0 w [] (.slice none 0 0) wx))
  case first =>
   go_wp2_with fail
   refine (l01Below_any _ p HB1.out.cur 10 omT omT).mono ?_
   rintro e w2 ⟨r, rfl, ⟨hr0, hr1⟩, hC2, hO2⟩
   have HB2 := Hd (HB1.out.drew hO2 hC2)
   clear hC2 hO2
   go_wp2_with fail
   go_meet
   exact ⟨(r + 1).toNat, by rw [show (((r + 1).toNat : Nat) : Int) = r + 1 by omega], by omega, HB2⟩
  case rest =>
   obtain ⟨w2, hw2⟩ : ∃ W : World, W = wc := ⟨_, rfl⟩
   subst hw2
   obtain ⟨G, rfl, hG10, HB2⟩ := hcut
   clear HB1
   go_wp2
   go_loopw [5, 6, 7, 8] (fun s5 _ _ _ wl => ∃ (g t : Nat) (ps : List Per) (v : Value), s5 = .int .i64 g ∧ g + t ≤ 10 ∧ Hid (FamBox p w.heap.size (w.heap.size + 1) 0 w ps v wl) ∧ Hid (Grown ps ∧ Gen ps wd (25 * (12 - ((g : Int) + 1))) t)) (fun s5 _ _ _ _ => (intOf s5).toNat)
   case atStart => exact ⟨G, 0, [], _, rfl, by omega, HB2, Hd ⟨Grown.nil, .inl rfl⟩⟩
   case round =>
    clear HB2
    obtain ⟨wl, hwl⟩ : ∃ x : World, x = wr := ⟨_, rfl⟩
    subst hwl
    obtain ⟨g, t, ps, v, rfl, hgt, HB, HG⟩ := hrel
    obtain ⟨va, vcap, rfl, -, -⟩ := HB.out.own.len
    have q0 := HB.out.q0
    have q1 := HB.out.q1
    have hl40 := HG.out.1.len
    by_cases hgo : 0 < g ∧ ps.length + wd ≤ 40
    ·have hgI : (0 : Int) < (g : Int) := by omega
     have hlI : (ps.length : Int) + (wd : Int) ≤ 40 := by omega
     have HGI := Hd (Gen.start (bo' := 25 * (12 - (g : Int))) HG.out.2 HG.out.1)
     obtain ⟨n, hn⟩ : ∃ n, n = ps.length := ⟨_, rfl⟩
     rw [← hn] at HGI q0 hlI hgo hl40
     have HB' := Hd (show FamBox p w.heap.size (w.heap.size + 1) 0 w ps (.slice va n vcap) wl by rw [hn]; exact HB.out)
     have HNN := Hd hn
     clear hn HB HG
     go_wp2
     go_loopw [7, 8] (fun s7 _ wi => ∃ (i : Nat) (qs : List Per) (v : Value), s7 = .int .i64 i ∧ i ≤ wd ∧ Hid (FamBox p w.heap.size (w.heap.size + 1) 0 w qs v wi) ∧ Hid (Geni n wd i (25 * (12 - ((g : Int) + 1))) (25 * (12 - (g : Int))) t qs)) (fun s7 _ _ => wd - (intOf s7).toNat)
     case atStart => exact ⟨0, ps, _, rfl, Nat.zero_le _, HB', HGI⟩
     case round =>
      clear HB' HGI q0 q1
      obtain ⟨wi, hwi⟩ : ∃ x : World, x = wr := ⟨_, rfl⟩
      subst hwi
      obtain ⟨i, qs, v, rfl, hiw, HB, HI⟩ := hrel
      obtain ⟨ua, ucap, rfl, -, -⟩ := HB.out.own.len
      have q0 := HB.out.q0
      have hql := HI.out.len
      have HQL := Hd hql
      clear hql
      by_cases hil : i < wd
      ·have hiI : (i : Int) < (wd : Int) := by omega
       have hni : n + i < 40 := by omega
       obtain ⟨NM, hNM⟩ : ∃ NM, NM = nmOf (n + i) := ⟨_, rfl⟩
       have HNM := Hd hNM
       have HNS := Hd (show NM.size ≤ maxLen by rw [hNM]; have e : (nmOf (n + i)).size = 2 := rfl; rw [e]; unfold maxLen; omega)
       have hcal : ∀ W, Calls Tryz.prog 148 #[.int .i64 ((n : Int) + (i : Int))] W (PostV W (.string NM)) := by
        intro W
        have := l1Called_any W (n + i) hni
        rw [← hNM, Int.natCast_add] at this
        exact this
       clear hNM
       obtain ⟨m, hm⟩ : ∃ m : Int, m = ((i % 2 : Nat) : Int) := ⟨_, rfl⟩
       have em : (i : Int).tmod 2 = m := by rw [Int.tmod_eq_emod_of_nonneg omT]; omega
       have hm01 : (i % 2 = 0 ∧ 1 + m = 1) ∨ (i % 2 = 1 ∧ 1 + m = 2) := by omega
       have hm2 : 0 ≤ m ∧ m ≤ 1 := by omega
       clear hm
       go_wp2_with fail
       refine (hcal _).mono ?_
       rintro e w3 ⟨rfl, hb3⟩
       have HB3 := Hd (HB.out.grow hb3)
       clear hb3 q0 HB hcal
       obtain ⟨Q, hQ⟩ : ∃ Q, Q = w3.heap.size := ⟨_, rfl⟩
       obtain ⟨WQ, hWQ⟩ : ∃ W : World, W = w3.alloc (.cells #[.string NM, .int .i64 (1 + m), .int .i64 (-1), .int .i64 (-1), .int .i64 (25 * (12 - (g : Int))), .int .i64 (-1)] 100) := ⟨_, rfl⟩
       have HBQ := Hd (show FamBox p w.heap.size (w.heap.size + 1) Q w qs (.slice ua qs.length ucap) WQ by rw [hWQ, hQ]; exact HB3.out.opens _)
       have HQ := Hd (show QB Q NM (1 + m) (-1) (-1) (25 * (12 - (g : Int))) WQ by rw [hWQ, hQ]; exact QB.new _ _ _ _ _ _ _)
       have hFQ : w.heap.size + 1 < Q := by rw [hQ]; exact HB3.out.lF
       clear HB3
       go_upto_region 11 with fail
       rw [← hWQ, ← hQ]
       clear hWQ hQ
       go_cut [53] (fun s53 wx => ∃ q : Bool, s53 = .bool q ∧ Hid (q = true → 0 < n) ∧ Hid (FamBox p w.heap.size (w.heap.size + 1) Q w qs (.slice ua qs.length ucap) wx) ∧ Hid (QB Q NM (1 + m) (-1) (-1) (25 * (12 - (g : Int))) wx))
       case first =>
        by_cases hn0 : 0 < n
        ·have hnI : (0 : Int) < (n : Int) := by omega
         go_wp2_with fail
         refine (l01Once_any _ p HBQ.out.cur 12 omT omT).mono ?_
         rintro e w4 ⟨o, rfl, hC4, hO4⟩
         have HB4 := Hd (HBQ.out.drew hO4 hC4)
         have HQ4 := Hd (HQ.out.drew hO4 omT)
         have HN0 := Hd hn0
         clear hC4 hO4
         cases o
         ·go_wp2_with fail
          go_meet
          exact ⟨true, rfl, Hd (fun _ => HN0.out), HB4, HQ4⟩
         ·go_wp2_with fail
          go_meet
          exact ⟨false, rfl, Hd (fun h => by cases h), HB4, HQ4⟩
        ·have hnI : ¬ (0 : Int) < (n : Int) := by omega
         go_wp2_with fail
         go_meet
         exact ⟨false, rfl, Hd (fun h => by cases h), HBQ, HQ⟩
       case rest =>
        obtain ⟨wa1, hwa1⟩ : ∃ W : World, W = wc := ⟨_, rfl⟩
        subst hwa1
        obtain ⟨q, rfl, HN0, HBa1, HQa1⟩ := hcut
        clear HBQ HQ
        go_upto_if 53 with fail
        go_cut [7] (fun s7 wx => s7 = .int .i64 i ∧ ∃ r : Int, Hid (Cp qs r 1 (25 * (12 - ((g : Int) + 1))) t) ∧ Hid (FamBox p w.heap.size (w.heap.size + 1) Q w qs (.slice ua qs.length ucap) wx) ∧ Hid (QB Q NM (1 + m) r (-1) (25 * (12 - (g : Int))) wx))
        case first =>
         cases q
         ·clear HN0
          go_wp2_with fail
          go_meet
          exact ⟨rfl, -1, Hd (.inl rfl), HBa1, HQa1⟩
         ·have hn0 := HN0.out rfl
          obtain ⟨hwn, hp1, hp2⟩ := HI.out.old.resolve_left omT
          have HP := Hd (show Cp qs ((n : Int) - (wd : Int)) 1 (25 * (12 - ((g : Int) + 1))) t from .inr ⟨n - wd, by omega, hp1⟩)
          have cc := HQa1.out.c2
          have fq := HQa1.out.fQ
          have lq := HQa1.out.lQ
          clear HN0 hp1 hp2
          go_wp2_with fail
          go_meet
          exact ⟨rfl, (n : Int) - (wd : Int), HP, Hd (HBa1.out.setQ hFQ _ _), Hd (HQa1.out.put2 _)⟩
        case rest =>
         obtain ⟨wb1, hwb1⟩ : ∃ W : World, W = wc := ⟨_, rfl⟩
         subst hwb1
         obtain ⟨rfl, fa, HC1, HBb1, HQb1⟩ := hcut
         clear HBa1 HQa1 HN0
         go_upto_region 13 with fail
         go_cut [64] (fun s64 wx => ∃ q : Bool, s64 = .bool q ∧ Hid (q = true → 0 < n) ∧ Hid (FamBox p w.heap.size (w.heap.size + 1) Q w qs (.slice ua qs.length ucap) wx) ∧ Hid (QB Q NM (1 + m) fa (-1) (25 * (12 - (g : Int))) wx))
         case first =>
          by_cases hn0 : 0 < n
          ·have hnI : (0 : Int) < (n : Int) := by omega
           go_wp2_with fail
           refine (l01Once_any _ p HBb1.out.cur 12 omT omT).mono ?_
           rintro e w4 ⟨o, rfl, hC4, hO4⟩
           have HB4 := Hd (HBb1.out.drew hO4 hC4)
           have HQ4 := Hd (HQb1.out.drew hO4 omT)
           have HN0 := Hd hn0
           clear hC4 hO4
           cases o
           ·go_wp2_with fail
            go_meet
            exact ⟨true, rfl, Hd (fun _ => HN0.out), HB4, HQ4⟩
           ·go_wp2_with fail
            go_meet
            exact ⟨false, rfl, Hd (fun h => by cases h), HB4, HQ4⟩
          ·have hnI : ¬ (0 : Int) < (n : Int) := by omega
           go_wp2_with fail
           go_meet
           exact ⟨false, rfl, Hd (fun h => by cases h), HBb1, HQb1⟩
         case rest =>
          obtain ⟨wa2, hwa2⟩ : ∃ W : World, W = wc := ⟨_, rfl⟩
          subst hwa2
          obtain ⟨q, rfl, HN0, HBa2, HQa2⟩ := hcut
          clear HBb1 HQb1
          go_upto_if 64 with fail
          go_cut [7] (fun s7 wx => s7 = .int .i64 i ∧ ∃ r : Int, Hid (Cp qs r 2 (25 * (12 - ((g : Int) + 1))) t) ∧ Hid (FamBox p w.heap.size (w.heap.size + 1) Q w qs (.slice ua qs.length ucap) wx) ∧ Hid (QB Q NM (1 + m) fa r (25 * (12 - (g : Int))) wx))
          case first =>
           cases q
           ·clear HN0
            go_wp2_with fail
            go_meet
            exact ⟨rfl, -1, Hd (.inl rfl), HBa2, HQa2⟩
           ·have hn0 := HN0.out rfl
            obtain ⟨hwn, hp1, hp2⟩ := HI.out.old.resolve_left omT
            have HP := Hd (show Cp qs ((n : Int) - (wd : Int) + 1) 2 (25 * (12 - ((g : Int) + 1))) t from .inr ⟨n - wd + 1, by omega, hp2⟩)
            have cc := HQa2.out.c3
            have fq := HQa2.out.fQ
            have lq := HQa2.out.lQ
            clear HN0 hp1 hp2
            go_wp2_with fail
            go_meet
            exact ⟨rfl, (n : Int) - (wd : Int) + 1, HP, Hd (HBa2.out.setQ hFQ _ _), Hd (HQa2.out.put3 _)⟩
          case rest =>
           obtain ⟨wb2, hwb2⟩ : ∃ W : World, W = wc := ⟨_, rfl⟩
           subst hwb2
           obtain ⟨rfl, mo, HC2, HBb2, HQb2⟩ := hcut
           clear HBa2 HQa2 HN0
           have hcf := HC1.out.i64 HI.out.grown.len
           have hcm := HC2.out.i64 HI.out.grown.len
           have HGA := Hd (show Geni n wd (i + 1) (25 * (12 - ((g : Int) + 1))) (25 * (12 - (g : Int))) t (qs ++ [(NM, 1 + m, fa, mo, 25 * (12 - (g : Int)), -1)]) by
            rw [HNM.out]
            exact HI.out.add hni hm01 omT omT omT HC1.out HC2.out)
           have q0 := HBb2.out.q0
           have lF := HBb2.out.lF
           have ff := HBb2.out.fF
           have c0 := HQb2.out.c0
           have c1 := HQb2.out.c1
           have c2 := HQb2.out.c2
           have c3 := HQb2.out.c3
           have c4 := HQb2.out.c4
           have c5 := HQb2.out.c5
           have HGo := Hd HBb2.out.own
           have hq40 : qs.length ≤ 40 := HI.out.grown.len
           have hsg : 0 ≤ 25 * (12 - (g : Int)) ∧ 25 * (12 - (g : Int)) ≤ 300 := by omega
           go_wp2_with (at_builtin; refine wpList_push_x rfl rfl slPerson (by show (0 : Nat) < 6; omega) rfl (ad := ⟨wb2.heap.size, 0, none⟩) rfl (cs := [.string NM, .int .i64 (1 + m), .int .i64 fa, .int .i64 mo, .int .i64 (25 * (12 - (g : Int))), .int .i64 (-1)]) (y := ((NM, 1 + m, fa, mo, 25 * (12 - (g : Int)), -1) : Per)) (lx := wb2.heap.size) (hx' := wb2.heap.size) (cells_per _ _ _ _ _ _ _ _) (w0 := wb2) HGo.out (Nat.le_refl _) (fun b hl _ => Below.heap_alloc wb2 _ b hl) (Ow.flat0 (z := true) (w0 := wb2) (fp := []) (repPer_mk HNS.out (by unfold I64; omega) hcf hcm (by unfold I64; omega) (by unfold I64; omega)) _ _) (fun b h1 h2 => by omega) (by have := HQb2.out.lQ; first | (simp; done) | (simp; omega)) (by unfold maxLen; first | omega | (simp; done) | (simp; omega)) ofT ?_)
           intro v' wf hGf hgf _
           obtain ⟨vb, vbcap, rfl, -, -⟩ := hGf.len
           have hgf2 : wb2.grownBy wf (Value.slice ua qs.length ucap).ownBlock := (World.grownBy_alloc wb2 _ _).trans hgf
           have HBf := Hd (HBb2.out.push hFQ hGf hgf2)
           have q0f : wf.cell? ⟨w.heap.size + 1, 0, none⟩ = some (.slice ua qs.length ucap) := cell_far (hgf2.block _ lF (fun e => by have := (HBb2.out.own.lt e.symm).2.1; omega)) q0
           have ff := frz_far (hgf2.block _ lF (fun e => by have := (HBb2.out.own.lt e.symm).2.1; omega)) ff
           have HBf2 := Hd HBf.out.shuts
           have e2 : (qs ++ [((NM, 1 + m, fa, mo, 25 * (12 - (g : Int)), -1) : Per)]).length = qs.length + 1 := by simp
           rw [e2] at HBf2
           clear e2 hGf hgf hgf2 HBf HGo
           go_wp2
           go_roundw
           case rel => exact ⟨i + 1, _, _, by go_num, by omega, HBf2, HGA⟩
           case measure => simp [intOf]; omega
      ·obtain rfl : i = wd := by omega
       have hiI : ¬ (i : Int) < (i : Int) := by omega
       have HFN := Hd (show Grown qs ∧ Gen qs i (25 * (12 - (((g - 1 : Nat) : Int) + 1))) (t + 1) by
        rw [show 25 * (12 - (((g - 1 : Nat) : Int) + 1)) = 25 * (12 - (g : Int)) by omega]
        exact (HI.out.fin omT).symm)
       have hg0 : 0 < g := hgo.1
       have hwk : wrap64 ((g : Int) - 1) = ((g - 1 : Nat) : Int) := (IntWalk.wrap64_in _ omT).trans omT
       go_wp2
       go_roundw
       case rel => exact ⟨g - 1, t + 1, qs, _, by first | rfl | go_num, by omega, HB, HFN⟩
       case measure => simp [intOf]; omega
    ·have r0 := HB.out.r0
     have r1 := HB.out.r1
     have rf := HB.out.fR
     have lF := HB.out.lF
     have h0 := HB.out.h0
     have ne1 : ¬ w.heap.size = w.heap.size + 1 := by omega
     have ne2 : ¬ w.heap.size + 1 = w.heap.size := by omega
     have HFB := Hd (fam_ppl hl40 HG.out.1.ppl HG.out.1.dep)
     have hex : ∀ (Q : Prop), Q → Q := fun _ h => h
     by_cases hg0 : 0 < g
     ·have hgI : (0 : Int) < (g : Int) := by omega
      have hlI : ¬ (ps.length : Int) + (wd : Int) ≤ 40 := by omega
      go_wp2
      refine bodyPost_ret (v := .agg #[.slice va ps.length vcap, .slice none 0 0]) (by simp [results, Tryz.results110, go_sem, *]) rfl ⟨_, _, (ps, []), rfl, ?_, Hd ⟨HFB.out, hl40⟩, HB.out.cur.below ?b1, HB.out.off.belowA ?b2⟩
      ·exact Rd.fam_mk (f := (ps, [])) (((HB.out.own.keep (fun b hl hS => (keep_set b omT).trans (keep_set b omT))).ow (lo := w.heap.size) (hi := wl.heap.size) (fun b hl hS => ⟨by omega, by simpa using hl⟩)).rd.mono (Nat.le_refl _) spT) (((GL.start (α := Uni) true w.heap.size w.heap.size _ _ 131).ow (Nat.le_refl _) (Nat.le_refl _)).rd)
      case b1 => exact bwT
      case b2 => exact bwT
     ·obtain rfl : g = 0 := by omega
      have hgI : ¬ (0 : Int) < ((0 : Nat) : Int) := by omega
      go_wp2
      refine bodyPost_ret (v := .agg #[.slice va ps.length vcap, .slice none 0 0]) (by simp [results, Tryz.results110, go_sem, *]) rfl ⟨_, _, (ps, []), rfl, ?_, Hd ⟨HFB.out, hl40⟩, HB.out.cur.below ?b1, HB.out.off.belowA ?b2⟩
      ·exact Rd.fam_mk (f := (ps, [])) (((HB.out.own.keep (fun b hl hS => (keep_set b omT).trans (keep_set b omT))).ow (lo := w.heap.size) (hi := wl.heap.size) (fun b hl hS => ⟨by omega, by simpa using hl⟩)).rd.mono (Nat.le_refl _) spT) (((GL.start (α := Uni) true w.heap.size w.heap.size _ _ 131).ow (Nat.le_refl _) (Nat.le_refl _)).rd)
      case b1 => exact bwT
      case b2 => exact bwT
end
section
def PostFm (most : Nat) (w : World) (e : Ending) (w' : World) : Prop := ∃ (a b : Value) (f : Fam), e = .returned (.agg #[a, b]) ∧ Rd false w.heap.size w'.heap.size w' [a, b] f ∧ Hid (famB f = true ∧ f.1.length ≤ most) ∧ Below w.heap.size w w'
theorem makeFamily_any {z : Bool} {lo hi : Nat} (w : World) (v : Value) (code : List UInt8) (h : Rd z lo hi w [v] code) (hl : code.length ≤ 1048576) (most : Nat) (h18 : most ≤ 18) :
  Calls Tryz.prog 68 #[v, .int .i64 most] w (PostFm most w) := by
 go_enter Tryz.func68, Tryz.ntmps68
 go_wp2_with fail
 refine (l01New_any _ _ code (h.below bwT) hl).mono ?_
 rintro e w1 ⟨p, rfl, hp, hC, hb1⟩
 have s1 : w.heap.size < w1.heap.size := by have := hb1.size; simp at this; omega
 have hp1 : w.heap.size < p := by simp at hp; omega
 have hB1 : Below w.heap.size w w1 := Below.after bwT hb1 spT
 have r0 : w1.cell? ⟨w.heap.size, 0, none⟩ = some (.slice none 0 0) := oldc hb1 spT sgT
 have r1 : w1.cell? ⟨w.heap.size, 1, none⟩ = some (.slice none 0 0) := oldc hb1 spT sgT
 have rf : ∀ o, w1.frozen? ⟨w.heap.size, o, none⟩ = false := fun o => (hb1.frozen (p := ⟨w.heap.size, o, none⟩) spT).trans sgT
 clear h hb1 hp
 have em : max 0 (min (most : Int) 40) = (most : Int) := by omega
 go_wp2_with fail
 refine (l1Family_any _ p hC most h18).mono ?_
 rintro e w2 ⟨a, b, f, rfl, hrf, hff, -, hF⟩
 have hB2 : Below w.heap.size w w2 := hB1.trans (hF.toBelow omT (fun b hb => by simp at hb; omega))
 have s2 := hF.size
 have r0 := offq hF omT omT r0
 have r1 := offq hF omT omT r1
 have rf := offfr hF omT omT rf
 obtain ⟨xa, xn, xc, ya, yn, yc, rfl, rfl⟩ := shapeFam hrf
 have HRF := Hd hrf
 clear hrf hF hC
 go_wp2
 refine bodyPost_ret (v := .agg #[.slice xa xn xc, .slice ya yn yc]) (by simp [results, Tryz.results68, go_sem, *]) rfl ⟨_, _, f, rfl, ?_, hff, bwT⟩
 exact (HRF.out.keep (fun b h1 h2 => (keep_set b omT).trans (keep_set b omT))).mono omT spT
theorem makeClose_any {z : Bool} {lo hi : Nat} (w : World) (v : Value) (code : List UInt8) (h : Rd z lo hi w [v] code) (hl : code.length ≤ 1048576) :
  Calls Tryz.prog 69 #[v] w (PostFm 40 w) := by
 go_enter Tryz.func69, Tryz.ntmps69
 go_wp2_with fail
 refine (l01New_any _ _ code (h.below bwT) hl).mono ?_
 rintro e w1 ⟨p, rfl, hp, hC, hb1⟩
 have s1 : w.heap.size < w1.heap.size := by have := hb1.size; simp at this; omega
 have hp1 : w.heap.size < p := by simp at hp; omega
 have hB1 : Below w.heap.size w w1 := Below.after bwT hb1 spT
 have r0 : w1.cell? ⟨w.heap.size, 0, none⟩ = some (.slice none 0 0) := oldc hb1 spT sgT
 have r1 : w1.cell? ⟨w.heap.size, 1, none⟩ = some (.slice none 0 0) := oldc hb1 spT sgT
 have rf : ∀ o, w1.frozen? ⟨w.heap.size, o, none⟩ = false := fun o => (hb1.frozen (p := ⟨w.heap.size, o, none⟩) spT).trans sgT
 clear h hb1 hp
 go_wp2_with fail
 refine (l8Close_any _ p hC).mono ?_
 rintro e w2 ⟨a, b, f, rfl, hrf, hff, -, hF⟩
 have hB2 : Below w.heap.size w w2 := hB1.trans (hF.toBelow omT (fun b hb => by simp at hb; omega))
 have s2 := hF.size
 have r0 := offq hF omT omT r0
 have r1 := offq hF omT omT r1
 have rf := offfr hF omT omT rf
 obtain ⟨xa, xn, xc, ya, yn, yc, rfl, rfl⟩ := shapeFam hrf
 have HRF := Hd hrf
 clear hrf hF hC
 go_wp2
 refine bodyPost_ret (v := .agg #[.slice xa xn xc, .slice ya yn yc]) (by simp [results, Tryz.results69, go_sem, *]) rfl ⟨_, _, f, rfl, ?_, hff, bwT⟩
 exact (HRF.out.keep (fun b h1 h2 => (keep_set b omT).trans (keep_set b omT))).mono omT spT
end
section
def PostCw (w : World) (e : Ending) (w' : World) : Prop := ∃ (a b : Value) (f : Fam), e = .returned (.agg #[a, b]) ∧ Rd false w.heap.size w'.heap.size w' [a, b] f ∧ Hid (famB f = true ∧ 0 < f.1.length ∧ f.1.length ≤ 40) ∧ Below w.heap.size w w'
def aaP : Per := (⟨#[97, 97]⟩, 1, -1, -1, 0, -1)
theorem fam_aa : famB ([aaP], []) = true := by decide +kernel
theorem fam_nil {f : Fam} (h : famB f = true) (h0 : f.1.length = 0) : f.2 = [] := by
 obtain ⟨-, -, -, h1⟩ := famB_facts h
 cases e : f.2 with
 | nil => rfl
 | cons u l =>
   obtain ⟨m, wo, fr, tl⟩ := u
   have := (uniOk_facts (h1 0 (by rw [e]; simp)) (m := m) (wo := wo) (fr := fr) (tl := tl) (by rw [e]; rfl)).1
   omega
set_option maxRecDepth 20000 in
theorem crowd_any {z : Bool} {lo hi : Nat} (w : World) (v : Value) (code : List UInt8) (h : Rd z lo hi w [v] code) (hl : code.length ≤ 1048576) (most : Nat) (h18 : most ≤ 18) :
  Calls Tryz.prog 27 #[v, .int .i64 most] w (PostCw w) := by
 have HC := Hd h
 clear h
 go_enter Tryz.func27, Tryz.ntmps27
 go_wp2_with fail
 refine (makeFamily_any _ _ code (HC.out.below bwT) hl most h18).mono ?_
 rintro e w1 ⟨a, b, f, rfl, hrf, hff, hb1⟩
 have s1 : w.heap.size < w1.heap.size := by have := hb1.size; simp at this; omega
 have hB1 : Below w.heap.size w w1 := Below.after bwT hb1 spT
 have r0 : w1.cell? ⟨w.heap.size, 0, none⟩ = some (.slice none 0 0) := oldc hb1 spT sgT
 have r1 : w1.cell? ⟨w.heap.size, 1, none⟩ = some (.slice none 0 0) := oldc hb1 spT sgT
 have rf : ∀ o, w1.frozen? ⟨w.heap.size, o, none⟩ = false := fun o => (hb1.frozen (p := ⟨w.heap.size, o, none⟩) spT).trans sgT
 obtain ⟨xa, xn, xc, ya, yn, yc, rfl, rfl⟩ := shapeFam hrf
 obtain ⟨_, _, _, e1, e2, -⟩ := (hrf.fam).1.shape
 simp only [Value.slice.injEq] at e1
 obtain ⟨rfl, rfl, rfl⟩ := e1
 subst e2
 obtain ⟨F, hF⟩ : ∃ F, F = w1.heap.size := ⟨_, rfl⟩
 have HR1 := Hd (show Rd false (w.heap.size + 1) F w1 [.slice xa f.1.length xc, .slice ya yn yc] f by rw [hF]; simpa using hrf)
 have HFF := Hd (show famB f = true ∧ f.1.length ≤ 40 from ⟨hff.out.1, by have := hff.out.2; omega⟩)
 obtain ⟨WA, hWA⟩ : ∃ W : World, W = w1.alloc (.cells #[.slice xa f.1.length xc, .slice ya yn yc] 37) := ⟨_, rfl⟩
 have hbA : Below w1.heap.size w1 WA := by rw [hWA]; exact (Below.refl _ _).alloc (Nat.le_refl _) _
 have q0 : WA.cell? ⟨F, 0, none⟩ = some (.slice xa f.1.length xc) := by rw [hWA, hF]; simp [go_sem]
 have q1 : WA.cell? ⟨F, 1, none⟩ = some (.slice ya yn yc) := by rw [hWA, hF]; simp [go_sem]
 have qf : ∀ o, WA.frozen? ⟨F, o, none⟩ = false := fun o => by rw [hWA, hF]; simp [go_sem]
 have lF : F < WA.heap.size := by rw [hWA, hF]; simp
 have r0 := oldc hbA s1 r0
 have r1 := oldc hbA s1 r1
 have rf : ∀ o, WA.frozen? ⟨w.heap.size, o, none⟩ = false := fun o => (hbA.frozen (p := ⟨w.heap.size, o, none⟩) s1).trans (rf o)
 have HRA := Hd (HR1.out.below hbA)
 have hBA : Below w.heap.size w WA := hB1.trans (hbA.mono hB1.size)
 have hRF : w.heap.size < F := by omega
 have sA := hBA.size
 go_upto_region 2 with fail
 rw [← hWA, ← hF]
 clear hWA hF hrf hff hb1 hbA hB1 HR1
 go_wp2_with fail
 refine (at_any _ _ code (HC.out.below hBA) hl 9 omT omT).mono ?_
 rintro e w2 ⟨x, rfl, hx, hb2⟩
 have u4 : x.tmod 4 = x % 4 := Int.tmod_eq_emod_of_nonneg hx.1
 have s2 := hb2.size
 have q0 := oldc hb2 lF q0
 have q1 := oldc hb2 lF q1
 have qf : ∀ o, w2.frozen? ⟨F, o, none⟩ = false := fun o => (hb2.frozen (p := ⟨F, o, none⟩) lF).trans (qf o)
 have r0 := oldc hb2 omT r0
 have r1 := oldc hb2 omT r1
 have rf : ∀ o, w2.frozen? ⟨w.heap.size, o, none⟩ = false := fun o => (hb2.frozen (p := ⟨w.heap.size, o, none⟩) (by show w.heap.size < _; omega)).trans (rf o)
 have HR2 := Hd (HRA.out.below hb2)
 have hB2 : Below w.heap.size w w2 := hBA.trans (hb2.mono sA)
 have lF2 : F < w2.heap.size := by omega
 have neF : ¬ F = w.heap.size := by omega
 have neR : ¬ w.heap.size = F := by omega
 clear hb2 HRA hBA sA lF
 by_cases hx4 : x % 4 = 0
 ·go_wp2_with fail
  refine (makeClose_any _ _ code (HC.out.below hB2) hl).mono ?_
  rintro e w3 ⟨a', b', g, rfl, hrg, hgg, hb3⟩
  obtain ⟨za, zn, zc, ta, tn, tc, rfl, rfl⟩ := shapeFam hrg
  obtain ⟨_, _, _, e1, e2, -⟩ := (hrg.fam).1.shape
  simp only [Value.slice.injEq] at e1
  obtain ⟨rfl, rfl, rfl⟩ := e1
  subst e2
  have HG := Hd (show famB g = true ∧ g.1.length ≤ 40 from hgg.out)
  have s3 := hb3.size
  have q0 := oldc hb3 lF2 q0
  have q1 := oldc hb3 lF2 q1
  have qf : ∀ o, w3.frozen? ⟨F, o, none⟩ = false := fun o => (hb3.frozen (p := ⟨F, o, none⟩) lF2).trans (qf o)
  have r0 := oldc hb3 omT r0
  have r1 := oldc hb3 omT r1
  have rf : ∀ o, w3.frozen? ⟨w.heap.size, o, none⟩ = false := fun o => (hb3.frozen (p := ⟨w.heap.size, o, none⟩) (by show w.heap.size < _; omega)).trans (rf o)
  have hB3 : Below w.heap.size w w3 := hB2.trans (hb3.mono hB2.size)
  obtain ⟨W4, hW4⟩ : ∃ W : World, W = (w3.setCell ⟨F, 0, none⟩ (.slice za g.1.length zc)).setCell ⟨F, 1, none⟩ (.slice ta tn tc) := ⟨_, rfl⟩
  have kk : ∀ b, b ≠ F → W4.heap[b]? = w3.heap[b]? := fun b hb => by rw [hW4]; exact (keep_set b hb).trans (keep_set b hb)
  have a0 : (w3.setCell ⟨F, 0, none⟩ (.slice za g.1.length zc)).cell? ⟨F, 0, none⟩ = some (.slice za g.1.length zc) := cell_here q0
  have a1 : (w3.setCell ⟨F, 0, none⟩ (.slice za g.1.length zc)).cell? ⟨F, 1, none⟩ = some (.slice ya yn yc) := cell_there q1 omT
  have p0 : W4.cell? ⟨F, 0, none⟩ = some (.slice za g.1.length zc) := by rw [hW4]; exact cell_there a0 omT
  have p1 : W4.cell? ⟨F, 1, none⟩ = some (.slice ta tn tc) := by rw [hW4]; exact cell_here a1
  have pf : ∀ o, W4.frozen? ⟨F, o, none⟩ = false := fun o => by rw [hW4]; exact frozen_setCell _ _ _ _ _ (frozen_setCell _ _ _ _ _ (qf o))
  have s4 : w3.heap.size ≤ W4.heap.size := by rw [hW4]; simp
  have lF4 : F < W4.heap.size := by omega
  have hB4 : Below w.heap.size w W4 := by rw [hW4]; exact bwT
  have r0 := cell_far (kk _ neR) r0
  have r1 := cell_far (kk _ neR) r1
  have rf := frz_far (kk _ neR) rf
  have HR4 := Hd (hrg.keep (fun b h1 h2 => kk b omT))
  go_upto_region 4 with fail
  rw [← hW4]
  clear hW4 a0 a1 q0 q1 qf hrg hgg hb3 HR2 kk HFF
  by_cases hz : g.1.length = 0
  ·have hzI : (g.1.length : Int) = 0 := by omega
   have HE := Hd (fam_nil HG.out.1 hz)
   clear hz
   have hbP : Below W4.heap.size W4 (W4.alloc (.cells #[.string ⟨#[97, 97]⟩, .int .i64 1, .int .i64 (-1), .int .i64 (-1), .int .i64 0, .int .i64 (-1)] 100)) := (Below.refl _ _).alloc (Nat.le_refl _) _
   have n0 := oldc hbP lF4 p0
   have n1 := oldc hbP lF4 p1
   have nf : ∀ o, (W4.alloc (.cells #[.string ⟨#[97, 97]⟩, .int .i64 1, .int .i64 (-1), .int .i64 (-1), .int .i64 0, .int .i64 (-1)] 100)).frozen? ⟨F, o, none⟩ = false := fun o => (hbP.frozen (p := ⟨F, o, none⟩) lF4).trans (pf o)
   have hRW : w.heap.size < W4.heap.size := by omega
   have r0 := cell_far (keep_set (W := W4.alloc (.cells #[.string ⟨#[97, 97]⟩, .int .i64 1, .int .i64 (-1), .int .i64 (-1), .int .i64 0, .int .i64 (-1)] 100)) (Q := F) (j := 0) (u := .slice (some ⟨W4.heap.size, 0, none⟩) 1 1) _ neR) (oldc hbP hRW r0)
   have r1 := cell_far (keep_set (W := W4.alloc (.cells #[.string ⟨#[97, 97]⟩, .int .i64 1, .int .i64 (-1), .int .i64 (-1), .int .i64 0, .int .i64 (-1)] 100)) (Q := F) (j := 0) (u := .slice (some ⟨W4.heap.size, 0, none⟩) 1 1) _ neR) (oldc hbP hRW r1)
   have rf := frz_far (keep_set (W := W4.alloc (.cells #[.string ⟨#[97, 97]⟩, .int .i64 1, .int .i64 (-1), .int .i64 (-1), .int .i64 0, .int .i64 (-1)] 100)) (Q := F) (j := 0) (u := .slice (some ⟨W4.heap.size, 0, none⟩) 1 1) _ neR) (fun o => (hbP.frozen (p := ⟨w.heap.size, o, none⟩) hRW).trans (rf o))
   have m0 : ((W4.alloc (.cells #[.string ⟨#[97, 97]⟩, .int .i64 1, .int .i64 (-1), .int .i64 (-1), .int .i64 0, .int .i64 (-1)] 100)).setCell ⟨F, 0, none⟩ (.slice (some ⟨W4.heap.size, 0, none⟩) 1 1)).cell? ⟨F, 0, none⟩ = some (.slice (some ⟨W4.heap.size, 0, none⟩) 1 1) := cell_here n0
   have m1 : ((W4.alloc (.cells #[.string ⟨#[97, 97]⟩, .int .i64 1, .int .i64 (-1), .int .i64 (-1), .int .i64 0, .int .i64 (-1)] 100)).setCell ⟨F, 0, none⟩ (.slice (some ⟨W4.heap.size, 0, none⟩) 1 1)).cell? ⟨F, 1, none⟩ = some (.slice ta tn tc) := cell_there n1 omT
   clear hbP
   go_upto_region 6 with fail
   go_wp2
   refine bodyPost_ret (v := .agg #[.slice (some ⟨W4.heap.size, 0, none⟩) 1 1, .slice ta tn tc]) (by simp [results, Tryz.results27, go_sem, *]) rfl ⟨_, _, (([aaP], g.2) : Fam), rfl, ?_, Hd ⟨by rw [HE.out]; exact fam_aa, by simp, by simp⟩, bwT⟩
   have hp := (Ow.per1 (((W4.setCell ⟨F, 0, none⟩ (.slice (some ⟨W4.heap.size, 0, none⟩) 1 1)).setCell ⟨w.heap.size, 0, none⟩ (.slice (some ⟨W4.heap.size, 0, none⟩) 1 1)).setCell ⟨w.heap.size, 1, none⟩ (.slice ta tn tc)) 100 (nm := ⟨#[97, 97]⟩) (sx := 1) (fa := -1) (mo := -1) (bo := 0) (di := -1) (by unfold maxLen; decide) (by unfold I64; omega) (by unfold I64; omega) (by unfold I64; omega) (by unfold I64; omega) (by unfold I64; omega)).rd
   rw [show (((W4.setCell ⟨F, 0, none⟩ (.slice (some ⟨W4.heap.size, 0, none⟩) 1 1)).setCell ⟨w.heap.size, 0, none⟩ (.slice (some ⟨W4.heap.size, 0, none⟩) 1 1)).setCell ⟨w.heap.size, 1, none⟩ (.slice ta tn tc)).heap.size = W4.heap.size by simp] at hp
   have hu := ((HR4.out.fam).2.keep (w' := (((W4.setCell ⟨F, 0, none⟩ (.slice (some ⟨W4.heap.size, 0, none⟩) 1 1)).setCell ⟨w.heap.size, 0, none⟩ (.slice (some ⟨W4.heap.size, 0, none⟩) 1 1)).setCell ⟨w.heap.size, 1, none⟩ (.slice ta tn tc))) (fun b h1 h2 => (keep_set b omT).trans ((keep_set b omT).trans (keep_set b omT)))).below ((Below.refl _ _).alloc (Nat.le_refl _) (.cells #[.string ⟨#[97, 97]⟩, .int .i64 1, .int .i64 (-1), .int .i64 (-1), .int .i64 0, .int .i64 (-1)] 100))
   exact Rd.fam_mk (f := (([aaP], g.2) : Fam)) (hp.mono omT spT) (hu.mono omT soT)
  ·have hzI : ¬ (g.1.length : Int) = 0 := by omega
   have HZ := Hd (show 0 < g.1.length by omega)
   clear hz
   go_wp2
   refine bodyPost_ret (v := .agg #[.slice za g.1.length zc, .slice ta tn tc]) (by simp [results, Tryz.results27, go_sem, *]) rfl ⟨_, _, g, rfl, ?_, Hd ⟨HG.out.1, HZ.out, HG.out.2⟩, bwT⟩
   exact (HR4.out.keep (fun b h1 h2 => (keep_set b omT).trans (keep_set b omT))).mono omT soT
 ·skip
  by_cases hz : f.1.length = 0
  ·have hzI : (f.1.length : Int) = 0 := by omega
   have HE := Hd (fam_nil HFF.out.1 hz)
   clear hz
   have hbP : Below w2.heap.size w2 (w2.alloc (.cells #[.string ⟨#[97, 97]⟩, .int .i64 1, .int .i64 (-1), .int .i64 (-1), .int .i64 0, .int .i64 (-1)] 100)) := (Below.refl _ _).alloc (Nat.le_refl _) _
   have n0 := oldc hbP lF2 q0
   have n1 := oldc hbP lF2 q1
   have nf : ∀ o, (w2.alloc (.cells #[.string ⟨#[97, 97]⟩, .int .i64 1, .int .i64 (-1), .int .i64 (-1), .int .i64 0, .int .i64 (-1)] 100)).frozen? ⟨F, o, none⟩ = false := fun o => (hbP.frozen (p := ⟨F, o, none⟩) lF2).trans (qf o)
   have hRW : w.heap.size < w2.heap.size := by omega
   have r0 := cell_far (keep_set (W := w2.alloc (.cells #[.string ⟨#[97, 97]⟩, .int .i64 1, .int .i64 (-1), .int .i64 (-1), .int .i64 0, .int .i64 (-1)] 100)) (Q := F) (j := 0) (u := .slice (some ⟨w2.heap.size, 0, none⟩) 1 1) _ neR) (oldc hbP hRW r0)
   have r1 := cell_far (keep_set (W := w2.alloc (.cells #[.string ⟨#[97, 97]⟩, .int .i64 1, .int .i64 (-1), .int .i64 (-1), .int .i64 0, .int .i64 (-1)] 100)) (Q := F) (j := 0) (u := .slice (some ⟨w2.heap.size, 0, none⟩) 1 1) _ neR) (oldc hbP hRW r1)
   have rf := frz_far (keep_set (W := w2.alloc (.cells #[.string ⟨#[97, 97]⟩, .int .i64 1, .int .i64 (-1), .int .i64 (-1), .int .i64 0, .int .i64 (-1)] 100)) (Q := F) (j := 0) (u := .slice (some ⟨w2.heap.size, 0, none⟩) 1 1) _ neR) (fun o => (hbP.frozen (p := ⟨w.heap.size, o, none⟩) hRW).trans (rf o))
   have m0 : ((w2.alloc (.cells #[.string ⟨#[97, 97]⟩, .int .i64 1, .int .i64 (-1), .int .i64 (-1), .int .i64 0, .int .i64 (-1)] 100)).setCell ⟨F, 0, none⟩ (.slice (some ⟨w2.heap.size, 0, none⟩) 1 1)).cell? ⟨F, 0, none⟩ = some (.slice (some ⟨w2.heap.size, 0, none⟩) 1 1) := cell_here n0
   have m1 : ((w2.alloc (.cells #[.string ⟨#[97, 97]⟩, .int .i64 1, .int .i64 (-1), .int .i64 (-1), .int .i64 0, .int .i64 (-1)] 100)).setCell ⟨F, 0, none⟩ (.slice (some ⟨w2.heap.size, 0, none⟩) 1 1)).cell? ⟨F, 1, none⟩ = some (.slice ya yn yc) := cell_there n1 omT
   clear hbP
   go_upto_region 6 with fail
   go_wp2
   refine bodyPost_ret (v := .agg #[.slice (some ⟨w2.heap.size, 0, none⟩) 1 1, .slice ya yn yc]) (by simp [results, Tryz.results27, go_sem, *]) rfl ⟨_, _, (([aaP], f.2) : Fam), rfl, ?_, Hd ⟨by rw [HE.out]; exact fam_aa, by simp, by simp⟩, bwT⟩
   have hp := (Ow.per1 (((w2.setCell ⟨F, 0, none⟩ (.slice (some ⟨w2.heap.size, 0, none⟩) 1 1)).setCell ⟨w.heap.size, 0, none⟩ (.slice (some ⟨w2.heap.size, 0, none⟩) 1 1)).setCell ⟨w.heap.size, 1, none⟩ (.slice ya yn yc)) 100 (nm := ⟨#[97, 97]⟩) (sx := 1) (fa := -1) (mo := -1) (bo := 0) (di := -1) (by unfold maxLen; decide) (by unfold I64; omega) (by unfold I64; omega) (by unfold I64; omega) (by unfold I64; omega) (by unfold I64; omega)).rd
   rw [show (((w2.setCell ⟨F, 0, none⟩ (.slice (some ⟨w2.heap.size, 0, none⟩) 1 1)).setCell ⟨w.heap.size, 0, none⟩ (.slice (some ⟨w2.heap.size, 0, none⟩) 1 1)).setCell ⟨w.heap.size, 1, none⟩ (.slice ya yn yc)).heap.size = w2.heap.size by simp] at hp
   have hu := ((HR2.out.fam).2.keep (w' := (((w2.setCell ⟨F, 0, none⟩ (.slice (some ⟨w2.heap.size, 0, none⟩) 1 1)).setCell ⟨w.heap.size, 0, none⟩ (.slice (some ⟨w2.heap.size, 0, none⟩) 1 1)).setCell ⟨w.heap.size, 1, none⟩ (.slice ya yn yc))) (fun b h1 h2 => (keep_set b omT).trans ((keep_set b omT).trans (keep_set b omT)))).below ((Below.refl _ _).alloc (Nat.le_refl _) (.cells #[.string ⟨#[97, 97]⟩, .int .i64 1, .int .i64 (-1), .int .i64 (-1), .int .i64 0, .int .i64 (-1)] 100))
   exact Rd.fam_mk (f := (([aaP], f.2) : Fam)) (hp.mono omT spT) (hu.mono omT soT)
  ·have hzI : ¬ (f.1.length : Int) = 0 := by omega
   have HZ := Hd (show 0 < f.1.length by omega)
   clear hz
   go_wp2
   refine bodyPost_ret (v := .agg #[.slice xa f.1.length xc, .slice ya yn yc]) (by simp [results, Tryz.results27, go_sem, *]) rfl ⟨_, _, f, rfl, ?_, Hd ⟨HFF.out.1, HZ.out, HFF.out.2⟩, bwT⟩
   exact (HR2.out.keep (fun b h1 h2 => (keep_set b omT).trans (keep_set b omT))).mono omT soT
end
section
theorem hasL_b {z : Bool} {lo hi : Nat} (w : World) (u : Value) (xs : List Int) (h : Rd z lo hi w [u] xs) (x : Int) (r : Bool) (hr : r = decide (x ∈ xs)) :
  Calls Tryz.prog 32 #[u, .int .i64 x] w (PostB w r) := by
 obtain ⟨ao, n, cap, rfl, hn, hnc, hcm, -⟩ := h.shape
 subst hn
 unfold maxLen at hcm
 have hle : xs.length ≤ 9223372036854775807 := by omega
 clear hcm hnc
 have HH := Hd h
 have HR := Hd hr
 clear h hr
 go_enter Tryz.func32, Tryz.ntmps32
 go_wp2
 go_loopw [4, 6, 9] (fun _ _ s9 wi => ∃ i : Nat, i ≤ xs.length ∧ s9 = .int .i64 i ∧ Hid (x ∉ xs.take i) ∧ Below w.heap.size w wi) (fun _ _ s9 _ => xs.length - (intOf s9).toNat)
 case atStart => exact ⟨0, Nat.zero_le _, rfl, Hd spT, Below.refl _ _⟩
 case round =>
  obtain ⟨wi, hwi⟩ : ∃ y : World, y = wr := ⟨_, rfl⟩
  subst hwi
  obtain ⟨i, hi, rfl, HN, hb⟩ := hrel
  by_cases hlt : i < xs.length
  ·have hiI : (i : Int) < (xs.length : Int) := by omega
   obtain ⟨b, off, y, rfl, hy, y0, -⟩ := (HH.out.below hb).int_at hlt
   have HY := Hd hy.out
   clear hy
   by_cases hxy : x = y
   ·have HF := Hd (show r = true by rw [HR.out]; exact decide_eq_true (by rw [hxy]; exact List.mem_of_getElem? HY.out))
    have e1 : (x == y) = true := by simpa using hxy
    clear hxy
    go_wp2
    go_ret
    exact ⟨ret_bool HF.out.symm, hb⟩
   ·have HN2 := Hd (show x ∉ xs.take (i + 1) by
     rw [take_snoc HY.out, List.mem_append, List.mem_singleton]
     rintro (h | h)
     ·exact HN.out h
     ·exact hxy h)
    have e1 : (x == y) = false := by simpa using hxy
    clear hxy
    go_wp2
    go_roundw
    case rel => exact ⟨i + 1, by omega, by go_num, HN2, hb⟩
    case measure => simp [intOf]; omega
  ·obtain rfl : i = xs.length := by omega
   have hiI : ¬ (xs.length : Int) < (xs.length : Int) := by omega
   have HF := Hd (show r = false by rw [HR.out]; exact decide_eq_false (by have := HN.out; rwa [List.take_length] at this))
   go_wp2
   go_ret
   exact ⟨ret_bool HF.out.symm, hb⟩
theorem who_any {z z' : Bool} {lo hi lo' hi' : Nat} (w : World) (u : Value) (code : List UInt8) (hc : Rd z lo hi w [u] code) (hl : code.length ≤ 1048576) (i : Int) (h0 : 0 ≤ i) (h1 : i ≤ 1000000) (v v2 : Value) (f : Fam) (h : Rd z' lo' hi' w [v, v2] f) (hp : 0 < f.1.length) (hl40 : f.1.length ≤ 40) :
  Calls Tryz.prog 30 #[u, .int .i64 i, .agg #[v, v2]] w (PostR w 0 ((f.1.length : Int) - 1)) := by
 obtain ⟨ao, n, cap, rfl, hn, -⟩ := (h.fam).1.shape
 subst hn
 have HC := Hd hc
 have hpI : ¬ (f.1.length : Int) = 0 := by omega
 have hpE : ¬ f.1 = [] := fun e => by rw [e] at hp; exact absurd hp spT
 have q0 : (w.alloc (.cells #[.slice ao f.1.length cap, v2] 37)).cell? ⟨w.heap.size, 0, none⟩ = some (.slice ao f.1.length cap) := by simp [go_sem]
 obtain ⟨W0, hW0⟩ : ∃ W : World, W = w.alloc (.cells #[.slice ao f.1.length cap, v2] 37) := ⟨_, rfl⟩
 rw [← hW0] at q0
 have hB0 : Below w.heap.size w W0 := by rw [hW0]; exact bwT
 have lF : w.heap.size < W0.heap.size := by rw [hW0]; simp
 clear h hc
 go_enter Tryz.func30, Tryz.ntmps30
 go_upto_region 1 with fail
 rw [← hW0]
 clear hW0
 refine wp_region_held_drew (S := (fun w' => w'.cell? ⟨w.heap.size, 0, none⟩ = some (.slice ao f.1.length cap))) krT ?_ (fun hHeld => ?_)
 ·exact kpT
 refine tkA 0 ?_
 try simp only [cD]
 refine tkA 1 ?_
 try simp only [cD]
 refine tkA 3 ?_
 try simp only [cD]
 refine tkA 4 ?_
 try simp only [cD]
 refine tkA 5 ?_
 try simp only [cD]
 refine rd1 2 fun K hK => ?_
 go_simp
 refine (at_any _ _ code (HC.out.below (hB0.trans ?b0)) hl i h0 h1).mono ?_
 case b0 => exact bwT
 rintro e w1 ⟨x, rfl, hx, hb1⟩
 have hp1 : Below W0.heap.size W0 w1 := Below.trans (show Below W0.heap.size W0 _ from bwT) (hb1.mono szT)
 have hS2 := oldc hp1 lF q0
 have hB1 : Below w.heap.size w w1 := hB0.trans (hp1.mono hB0.size)
 have um : x.tmod (f.1.length : Int) = x % (f.1.length : Int) := Int.tmod_eq_emod_of_nonneg hx.1
 have hm0 := Int.emod_nonneg x hpI
 have hm1 := Int.emod_lt_of_pos x (show 0 < (f.1.length : Int) by omega)
 clear hb1 hp1
 refine hK.out _ _ kpT fun hHeld => ?_
 clear hK K
 try simp only [cD]
 refine tkA 6 ?_
 try simp only [cD]
 refine tkA 7 ?_
 try simp only [cD]
 refine wdT ?_
 clear hHeld
 go_wp2
 go_ret
 exact ⟨_, rfl, ⟨hm0, by omega⟩, hB1⟩
end
end Go.Proofs.YtcbhdmmohdnjbaaGreat
