/- Texts laid one behind the other (merge.py): Mkc, MkfE. -/
import Derived.Test.YtefbbbhidnnchaaZ14F
import Derived.Test.YtefbbbhidnnchaaMkfU
namespace Go.Proofs.Ytefbbbhidnnchaa
set_option linter.unusedVariables false
set_option linter.unusedSimpArgs false
open Go.RowKit

/-! ### Mkc -/
section

/-- Person k may be a parent of the next generation. -/
def Prev (ps : List Per) (k : Nat) (sex bo : Int) (t : Nat) : Prop := ∃ (nm : ByteArray) (fa mo : Int), ps[k]? = some (nm, sex, fa, mo, bo, -1) ∧ (deps ps).getD k 0 ≤ t
theorem Prev.lt {ps : List Per} {k : Nat} {sex bo : Int} {t : Nat} (h : Prev ps k sex bo t) : k < ps.length := by
  obtain ⟨_, _, _, h1, -⟩ := h
  exact (List.getElem?_eq_some_iff.1 h1).1
theorem Prev.snoc {ps : List Per} {k : Nat} {sex bo : Int} {t : Nat} (h : Prev ps k sex bo t) (x : Per) : Prev (ps ++ [x]) k sex bo t := by
  have hk := h.lt
  obtain ⟨nm, fa, mo, h1, h2⟩ := h
  exact ⟨nm, fa, mo, by rw [List.getElem?_append_left hk]; exact h1, by rw [deps_pre ps x hk]; exact h2⟩
/-- What is drawn as a parent: none, or the one of the last generation. -/
def Cp (ps : List Per) (r sex bo : Int) (t : Nat) : Prop := r = -1 ∨ ∃ k : Nat, r = k ∧ Prev ps k sex bo t
theorem Cp.may {ps : List Per} {r sex bo bo' : Int} {t : Nat} (h : Cp ps r sex bo t) (hb : bo < bo') (ht : t ≤ 9) : MayUp ps r sex bo' := by
  rcases h with h | ⟨k, h, nm, fa, mo, h1, h2⟩
  · exact .inl h
  · exact .inr ⟨k, nm, fa, mo, bo, h, h1, hb, by omega⟩
theorem Cp.dep {ps : List Per} {r sex bo : Int} {t : Nat} (h : Cp ps r sex bo t) : dep1 (deps ps) r ≤ (t : Int) + 1 := by
  rcases h with rfl | ⟨k, rfl, nm, fa, mo, h1, h2⟩
  · simp [dep1]; omega
  · unfold dep1
    rw [if_pos (Int.natCast_nonneg k), Int.toNat_natCast]; omega
theorem Cp.i64 {ps : List Per} {r sex bo : Int} {t : Nat} (h : Cp ps r sex bo t) (hl : ps.length ≤ 40) : I64 r := by
  unfold I64
  rcases h with rfl | ⟨k, rfl, hk⟩
  · omega
  · have := hk.lt; omega
theorem Cp.new {ps : List Per} {fa mo bo bo' : Int} {t : Nat} (hf : Cp ps fa 1 bo t) (hm : Cp ps mo 2 bo t) (sx : Int) (nm : ByteArray) : Prev (ps ++ [(nm, sx, fa, mo, bo', -1)]) ps.length sx bo' (t + 1) := by
  refine ⟨nm, fa, mo, by simp, ?_⟩
  rw [deps_new]
  have h1 := hf.dep
  have h2 := hm.dep
  unfold depOf
  dsimp only
  omega
/-- Between the generations: none yet, or the last one has its two first persons. -/
def Gen (ps : List Per) (wide : Nat) (bo : Int) (t : Nat) : Prop := ps.length = 0 ∨ (wide ≤ ps.length ∧ Prev ps (ps.length - wide) 1 bo t ∧ Prev ps (ps.length - wide + 1) 2 bo t)
/-- Within a generation of i persons so far, behind n older ones. -/
structure Geni (n wide i : Nat) (bo bo' : Int) (t : Nat) (ps : List Per) : Prop where
  grown : Grown ps
  len : ps.length = n + i
  old : n = 0 ∨ (wide ≤ n ∧ Prev ps (n - wide) 1 bo t ∧ Prev ps (n - wide + 1) 2 bo t)
  one : 1 ≤ i → Prev ps n 1 bo' (t + 1)
  two : 2 ≤ i → Prev ps (n + 1) 2 bo' (t + 1)
theorem Gen.start {ps : List Per} {wide : Nat} {bo bo' : Int} {t : Nat} (h : Gen ps wide bo t) (hg : Grown ps) : Geni ps.length wide 0 bo bo' t ps := ⟨hg, rfl, h, fun h => by omega, fun h => by omega⟩
theorem Geni.fin {n wide : Nat} {bo bo' : Int} {t : Nat} {ps : List Per} (h : Geni n wide wide bo bo' t ps) (hw : 2 ≤ wide) : Gen ps wide bo' (t + 1) ∧ Grown ps := by
  have hl := h.len
  refine ⟨.inr ⟨by omega, ?_, ?_⟩, h.grown⟩
  · rw [show ps.length - wide = n by omega]; exact h.one (by omega)
  · rw [show ps.length - wide + 1 = n + 1 by omega]; exact h.two (by omega)
theorem Geni.add {n wide i : Nat} {bo bo' : Int} {t : Nat} {ps : List Per} (h : Geni n wide i bo bo' t ps) (hl : n + i < 40) {sx fa mo : Int} (hs : (i % 2 = 0 ∧ sx = 1) ∨ (i % 2 = 1 ∧ sx = 2)) (hb : bo < bo') (h0 : 0 ≤ bo' ∧ bo' ≤ 9999) (ht : t ≤ 9) (hf : Cp ps fa 1 bo t) (hm : Cp ps mo 2 bo t) : Geni n wide (i + 1) bo bo' t (ps ++ [(nmOf (n + i), sx, fa, mo, bo', -1)]) := by
  have hn := hf.new (bo' := bo') hm sx (nmOf (n + i))
  rw [h.len] at hn
  refine ⟨?_, by rw [List.length_append, h.len]; simp; omega, h.old.imp id (fun g => ⟨g.1, g.2.1.snoc _, g.2.2.snoc _⟩), fun _ => ?_, fun _ => ?_⟩
  · have := h.grown.add (by rw [h.len]; exact hl) (sx := sx) (by omega) h0 (hf.may hb ht) (hm.may hb ht)
    rw [h.len] at this; exact this
  · by_cases e : i = 0
    · subst e
      have : sx = 1 := by omega
      subst this; exact hn
    · exact (h.one (by omega)).snoc _
  · by_cases e : i = 1
    · subst e
      have : sx = 2 := by omega
      subst this; exact hn
    · exact (h.two (by omega)).snoc _

end

/-! ### MkfE -/
section

theorem GX.nil0 {α : Type} [Rep α] (S : Nat → Prop) (w : World) (E : TypeId) : GX (α := α) S w E (.slice none 0 0) [] :=
  ⟨[], [], by simpa using World.ownsRow_nil w 0 E (Rep.sz α), trivial, by simp, by simp [Value.ownBlock], List.nodup_nil⟩
set_option maxRecDepth 20000 in
set_option maxHeartbeats 16000000 in
theorem l8Close_any (w : World) (p : Nat) (h : CurOk p w) : Calls Try.prog 59 #[.pointer (some ⟨p, 0, none⟩)] w (PostFam p 40 w) := by
  have hp := h.lt
  obtain ⟨W0, hW0⟩ : ∃ W0, W0 = ((w.alloc (.cells #[.slice none 0 0, .slice none 0 0] 26)).alloc (.cells #[.slice none 0 0, .slice none 0 0] 26)) := ⟨_, rfl⟩
  have HB0 := Lib.hid (show FamBox p w.heap.size (w.heap.size + 1) 0 w [] (.slice none 0 0) W0 by
    have hb : Below w.heap.size w W0 := by rw [hW0]; exact bwT
    have hb1 : Below (w.heap.size + 1) (w.alloc (.cells #[.slice none 0 0, .slice none 0 0] 26)) W0 := by rw [hW0]; exact bwT
    refine ⟨by rw [hW0]; simp [go_sem], by rw [hW0]; simp [go_sem], by rw [hW0]; simp [go_sem], oldc hb1 (Nat.lt_succ_self _) (by simp [go_sem]), oldc hb1 (Nat.lt_succ_self _) (by simp [go_sem]), fun o => (hb1.frozen (p := ⟨w.heap.size, o, none⟩) (Nat.lt_succ_self _)).trans (by simp [go_sem]),
      GX.nil0 _ _ _, h.grow hb, OffF.below (OffF.refl [p] w) hb, by rw [hW0]; simp, hp, Nat.lt_succ_self _, Nat.le_refl _⟩)
  clear h
  go_enter Try.func59, Try.ntmps59
  go_upto_region 2 with fail
  rw [← hW0]
  clear hW0
  go_cut [4] (fun s4 wx => ∃ wd : Nat, s4 = .int .i64 wd ∧ (2 ≤ wd ∧ wd ≤ 3) ∧ Hid (FamBox p w.heap.size (w.heap.size + 1) 0 w [] (.slice none 0 0) wx))
  case first =>
    go_wp2_with fail
    refine (l01Below_any _ p HB0.out.cur 2 (by omega) (by omega)).mono ?_
    rintro e w1 ⟨r, rfl, ⟨hr0, hr1⟩, hC1, hO1⟩
    have HB1 := Lib.hid (HB0.out.drew hO1 hC1)
    clear hC1 hO1
    go_wp2_with fail
    go_meet
    exact ⟨(2 + r).toNat, by rw [show (((2 + r).toNat : Nat) : Int) = 2 + r by omega], by omega, HB1⟩
  case rest =>
    obtain ⟨w1, hw1⟩ : ∃ W : World, W = wc := ⟨_, rfl⟩
    subst hw1
    obtain ⟨wd, rfl, hwd, HB1⟩ := hcut
    clear HB0
    go_upto_region 3 with fail
    go_cut [5] (fun s5 wx => ∃ g : Nat, s5 = .int .i64 g ∧ g ≤ 10 ∧ Hid (FamBox p w.heap.size (w.heap.size + 1) 0 w [] (.slice none 0 0) wx))
    case first =>
      go_wp2_with fail
      refine (l01Below_any _ p HB1.out.cur 10 (by omega) (by omega)).mono ?_
      rintro e w2 ⟨r, rfl, ⟨hr0, hr1⟩, hC2, hO2⟩
      have HB2 := Lib.hid (HB1.out.drew hO2 hC2)
      clear hC2 hO2
      go_wp2_with fail
      go_meet
      exact ⟨(r + 1).toNat, by rw [show (((r + 1).toNat : Nat) : Int) = r + 1 by omega], by omega, HB2⟩
    case rest =>
      obtain ⟨w2, hw2⟩ : ∃ W : World, W = wc := ⟨_, rfl⟩
      subst hw2
      obtain ⟨G, rfl, hG10, HB2⟩ := hcut
      clear HB1
      go_wp2
      go_loopw [5, 6, 7, 8] (fun s5 _ _ _ wl => ∃ (g t : Nat) (ps : List Per) (v : Value), s5 = .int .i64 g ∧ g + t ≤ 10 ∧ Hid (FamBox p w.heap.size (w.heap.size + 1) 0 w ps v wl) ∧ Hid (Grown ps ∧ Gen ps wd (25 * (12 - ((g : Int) + 1))) t)) (fun s5 _ _ _ _ => (intOf s5).toNat)
      case atStart => exact ⟨G, 0, [], _, rfl, by omega, HB2, Lib.hid ⟨Grown.nil, .inl rfl⟩⟩
      case round =>
        clear HB2
        obtain ⟨wl, hwl⟩ : ∃ x : World, x = wr := ⟨_, rfl⟩
        subst hwl
        obtain ⟨g, t, ps, v, rfl, hgt, HB, HG⟩ := hrel
        obtain ⟨va, vcap, rfl, -, -⟩ := HB.out.own.len
        have q0 := HB.out.q0
        have q1 := HB.out.q1
        have hl40 := HG.out.1.len
        by_cases hgo : 0 < g ∧ ps.length + wd ≤ 40
        · have hgI : (0 : Int) < (g : Int) := by omega
          have hlI : (ps.length : Int) + (wd : Int) ≤ 40 := by omega
          have HGI := Lib.hid (Gen.start (bo' := 25 * (12 - (g : Int))) HG.out.2 HG.out.1)
          obtain ⟨n, hn⟩ : ∃ n, n = ps.length := ⟨_, rfl⟩
          rw [← hn] at HGI q0 hlI hgo hl40
          have HB' := Lib.hid (show FamBox p w.heap.size (w.heap.size + 1) 0 w ps (.slice va n vcap) wl by rw [hn]; exact HB.out)
          have HNN := Lib.hid hn
          clear hn HB HG
          go_wp2
          go_loopw [7, 8] (fun s7 _ wi => ∃ (i : Nat) (qs : List Per) (v : Value), s7 = .int .i64 i ∧ i ≤ wd ∧ Hid (FamBox p w.heap.size (w.heap.size + 1) 0 w qs v wi) ∧ Hid (Geni n wd i (25 * (12 - ((g : Int) + 1))) (25 * (12 - (g : Int))) t qs)) (fun s7 _ _ => wd - (intOf s7).toNat)
          case atStart => exact ⟨0, ps, _, rfl, Nat.zero_le _, HB', HGI⟩
          case round =>
            clear HB' HGI q0 q1
            obtain ⟨wi, hwi⟩ : ∃ x : World, x = wr := ⟨_, rfl⟩
            subst hwi
            obtain ⟨i, qs, v, rfl, hiw, HB, HI⟩ := hrel
            obtain ⟨ua, ucap, rfl, -, -⟩ := HB.out.own.len
            have q0 := HB.out.q0
            have hql := HI.out.len
            have HQL := Lib.hid hql
            clear hql
            by_cases hil : i < wd
            · have hiI : (i : Int) < (wd : Int) := by omega
              have hni : n + i < 40 := by omega
              obtain ⟨NM, hNM⟩ : ∃ NM, NM = nmOf (n + i) := ⟨_, rfl⟩
              have HNM := Lib.hid hNM
              have HNS := Lib.hid (show NM.size ≤ maxLen by rw [hNM]; have e : (nmOf (n + i)).size = 2 := rfl; rw [e]; unfold maxLen; omega)
              have hcal : ∀ W, Calls Try.prog 93 #[.int .i64 ((n : Int) + (i : Int))] W (PostV W (.string NM)) := by
                intro W
                have := l1Called_any W (n + i) hni
                rw [← hNM, Int.natCast_add] at this
                exact this
              clear hNM
              obtain ⟨m, hm⟩ : ∃ m : Int, m = ((i % 2 : Nat) : Int) := ⟨_, rfl⟩
              have em : (i : Int).tmod 2 = m := by rw [Int.tmod_eq_emod_of_nonneg (by omega)]; omega
              have hm01 : (i % 2 = 0 ∧ 1 + m = 1) ∨ (i % 2 = 1 ∧ 1 + m = 2) := by omega
              have hm2 : 0 ≤ m ∧ m ≤ 1 := by omega
              clear hm
              go_wp2_with fail
              refine (hcal _).mono ?_
              rintro e w3 ⟨rfl, hb3⟩
              have HB3 := Lib.hid (HB.out.grow hb3)
              clear hb3 q0 HB hcal
              obtain ⟨Q, hQ⟩ : ∃ Q, Q = w3.heap.size := ⟨_, rfl⟩
              obtain ⟨WQ, hWQ⟩ : ∃ W : World, W = w3.alloc (.cells #[.string NM, .int .i64 (1 + m), .int .i64 (-1), .int .i64 (-1), .int .i64 (25 * (12 - (g : Int))), .int .i64 (-1)] 56) := ⟨_, rfl⟩
              have HBQ := Lib.hid (show FamBox p w.heap.size (w.heap.size + 1) Q w qs (.slice ua qs.length ucap) WQ by rw [hWQ, hQ]; exact HB3.out.opens _)
              have HQ := Lib.hid (show QB Q NM (1 + m) (-1) (-1) (25 * (12 - (g : Int))) WQ by rw [hWQ, hQ]; exact QB.new _ _ _ _ _ _ _)
              have hFQ : w.heap.size + 1 < Q := by rw [hQ]; exact HB3.out.lF
              clear HB3
              go_upto_region 11 with fail
              rw [← hWQ, ← hQ]
              clear hWQ hQ
              go_cut [53] (fun s53 wx => ∃ q : Bool, s53 = .bool q ∧ Hid (q = true → 0 < n) ∧ Hid (FamBox p w.heap.size (w.heap.size + 1) Q w qs (.slice ua qs.length ucap) wx) ∧ Hid (QB Q NM (1 + m) (-1) (-1) (25 * (12 - (g : Int))) wx))
              case first =>
                by_cases hn0 : 0 < n
                · have hnI : (0 : Int) < (n : Int) := by omega
                  go_wp2_with fail
                  refine (l01Once_any _ p HBQ.out.cur 12 (by omega) (by omega)).mono ?_
                  rintro e w4 ⟨o, rfl, hC4, hO4⟩
                  have HB4 := Lib.hid (HBQ.out.drew hO4 hC4)
                  have HQ4 := Lib.hid (HQ.out.drew hO4 (by omega))
                  have HN0 := Lib.hid hn0
                  clear hC4 hO4
                  cases o
                  · go_wp2_with fail
                    go_meet
                    exact ⟨true, rfl, Lib.hid (fun _ => HN0.out), HB4, HQ4⟩
                  · go_wp2_with fail
                    go_meet
                    exact ⟨false, rfl, Lib.hid (fun h => by cases h), HB4, HQ4⟩
                · have hnI : ¬ (0 : Int) < (n : Int) := by omega
                  go_wp2_with fail
                  go_meet
                  exact ⟨false, rfl, Lib.hid (fun h => by cases h), HBQ, HQ⟩
              case rest =>
                obtain ⟨wa1, hwa1⟩ : ∃ W : World, W = wc := ⟨_, rfl⟩
                subst hwa1
                obtain ⟨q, rfl, HN0, HBa1, HQa1⟩ := hcut
                clear HBQ HQ
                go_upto_if 53 with fail
                go_cut [7] (fun s7 wx => s7 = .int .i64 i ∧ ∃ r : Int, Hid (Cp qs r 1 (25 * (12 - ((g : Int) + 1))) t) ∧ Hid (FamBox p w.heap.size (w.heap.size + 1) Q w qs (.slice ua qs.length ucap) wx) ∧ Hid (QB Q NM (1 + m) r (-1) (25 * (12 - (g : Int))) wx))
                case first =>
                  cases q
                  · clear HN0
                    go_wp2_with fail
                    go_meet
                    exact ⟨rfl, -1, Lib.hid (.inl rfl), HBa1, HQa1⟩
                  · have hn0 := HN0.out rfl
                    obtain ⟨hwn, hp1, hp2⟩ := HI.out.old.resolve_left (by omega)
                    have HP := Lib.hid (show Cp qs ((n : Int) - (wd : Int)) 1 (25 * (12 - ((g : Int) + 1))) t from .inr ⟨n - wd, by omega, hp1⟩)
                    have cc := HQa1.out.c2
                    have fq := HQa1.out.fQ
                    have lq := HQa1.out.lQ
                    clear HN0 hp1 hp2
                    go_wp2_with fail
                    go_meet
                    exact ⟨rfl, (n : Int) - (wd : Int), HP, Lib.hid (HBa1.out.setQ hFQ _ _), Lib.hid (HQa1.out.put2 _)⟩
                case rest =>
                  obtain ⟨wb1, hwb1⟩ : ∃ W : World, W = wc := ⟨_, rfl⟩
                  subst hwb1
                  obtain ⟨rfl, fa, HC1, HBb1, HQb1⟩ := hcut
                  clear HBa1 HQa1 HN0
                  go_upto_region 13 with fail
                  go_cut [64] (fun s64 wx => ∃ q : Bool, s64 = .bool q ∧ Hid (q = true → 0 < n) ∧ Hid (FamBox p w.heap.size (w.heap.size + 1) Q w qs (.slice ua qs.length ucap) wx) ∧ Hid (QB Q NM (1 + m) fa (-1) (25 * (12 - (g : Int))) wx))
                  case first =>
                    by_cases hn0 : 0 < n
                    · have hnI : (0 : Int) < (n : Int) := by omega
                      go_wp2_with fail
                      refine (l01Once_any _ p HBb1.out.cur 12 (by omega) (by omega)).mono ?_
                      rintro e w4 ⟨o, rfl, hC4, hO4⟩
                      have HB4 := Lib.hid (HBb1.out.drew hO4 hC4)
                      have HQ4 := Lib.hid (HQb1.out.drew hO4 (by omega))
                      have HN0 := Lib.hid hn0
                      clear hC4 hO4
                      cases o
                      · go_wp2_with fail
                        go_meet
                        exact ⟨true, rfl, Lib.hid (fun _ => HN0.out), HB4, HQ4⟩
                      · go_wp2_with fail
                        go_meet
                        exact ⟨false, rfl, Lib.hid (fun h => by cases h), HB4, HQ4⟩
                    · have hnI : ¬ (0 : Int) < (n : Int) := by omega
                      go_wp2_with fail
                      go_meet
                      exact ⟨false, rfl, Lib.hid (fun h => by cases h), HBb1, HQb1⟩
                  case rest =>
                    obtain ⟨wa2, hwa2⟩ : ∃ W : World, W = wc := ⟨_, rfl⟩
                    subst hwa2
                    obtain ⟨q, rfl, HN0, HBa2, HQa2⟩ := hcut
                    clear HBb1 HQb1
                    go_upto_if 64 with fail
                    go_cut [7] (fun s7 wx => s7 = .int .i64 i ∧ ∃ r : Int, Hid (Cp qs r 2 (25 * (12 - ((g : Int) + 1))) t) ∧ Hid (FamBox p w.heap.size (w.heap.size + 1) Q w qs (.slice ua qs.length ucap) wx) ∧ Hid (QB Q NM (1 + m) fa r (25 * (12 - (g : Int))) wx))
                    case first =>
                      cases q
                      · clear HN0
                        go_wp2_with fail
                        go_meet
                        exact ⟨rfl, -1, Lib.hid (.inl rfl), HBa2, HQa2⟩
                      · have hn0 := HN0.out rfl
                        obtain ⟨hwn, hp1, hp2⟩ := HI.out.old.resolve_left (by omega)
                        have HP := Lib.hid (show Cp qs ((n : Int) - (wd : Int) + 1) 2 (25 * (12 - ((g : Int) + 1))) t from .inr ⟨n - wd + 1, by omega, hp2⟩)
                        have cc := HQa2.out.c3
                        have fq := HQa2.out.fQ
                        have lq := HQa2.out.lQ
                        clear HN0 hp1 hp2
                        go_wp2_with fail
                        go_meet
                        exact ⟨rfl, (n : Int) - (wd : Int) + 1, HP, Lib.hid (HBa2.out.setQ hFQ _ _), Lib.hid (HQa2.out.put3 _)⟩
                    case rest =>
                      obtain ⟨wb2, hwb2⟩ : ∃ W : World, W = wc := ⟨_, rfl⟩
                      subst hwb2
                      obtain ⟨rfl, mo, HC2, HBb2, HQb2⟩ := hcut
                      clear HBa2 HQa2 HN0
                      have hcf := HC1.out.i64 HI.out.grown.len
                      have hcm := HC2.out.i64 HI.out.grown.len
                      have HGA := Lib.hid (show Geni n wd (i + 1) (25 * (12 - ((g : Int) + 1))) (25 * (12 - (g : Int))) t (qs ++ [(NM, 1 + m, fa, mo, 25 * (12 - (g : Int)), -1)]) by
                        rw [HNM.out]
                        exact HI.out.add hni hm01 (by omega) (by omega) (by omega) HC1.out HC2.out)
                      have q0 := HBb2.out.q0
                      have lF := HBb2.out.lF
                      have ff := HBb2.out.fF
                      have c0 := HQb2.out.c0
                      have c1 := HQb2.out.c1
                      have c2 := HQb2.out.c2
                      have c3 := HQb2.out.c3
                      have c4 := HQb2.out.c4
                      have c5 := HQb2.out.c5
                      have HGo := Lib.hid HBb2.out.own
                      have hq40 : qs.length ≤ 40 := HI.out.grown.len
                      have hsg : 0 ≤ 25 * (12 - (g : Int)) ∧ 25 * (12 - (g : Int)) ≤ 300 := by omega
                      go_wp2_with (at_builtin; refine wpList_push_x rfl rfl slPerson (by show (0 : Nat) < 6; omega) rfl (ad := ⟨wb2.heap.size, 0, none⟩) rfl (cs := [.string NM, .int .i64 (1 + m), .int .i64 fa, .int .i64 mo, .int .i64 (25 * (12 - (g : Int))), .int .i64 (-1)]) (y := ((NM, 1 + m, fa, mo, 25 * (12 - (g : Int)), -1) : Per)) (lx := wb2.heap.size) (hx' := wb2.heap.size) (cells_per _ _ _ _ _ _ _ _) (w0 := wb2) HGo.out (Nat.le_refl _) (fun b hl _ => Below.heap_alloc wb2 _ b hl) (Ow.flat0 (z := true) (w0 := wb2) (fp := []) (repPer_mk HNS.out (by unfold I64; omega) hcf hcm (by unfold I64; omega) (by unfold I64; omega)) _ _) (fun b h1 h2 => by omega) (by have := HQb2.out.lQ; first | (simp; done) | (simp; omega)) (by unfold maxLen; first | omega | (simp; done) | (simp; omega)) (by first | omega | (simp; done) | (simp; omega)) ?_)
                      intro v' wf hGf hgf _
                      obtain ⟨vb, vbcap, rfl, -, -⟩ := hGf.len
                      have hgf2 : wb2.grownBy wf (Value.slice ua qs.length ucap).ownBlock := (World.grownBy_alloc wb2 _ _).trans hgf
                      have HBf := Lib.hid (HBb2.out.push hFQ hGf hgf2)
                      have q0f : wf.cell? ⟨w.heap.size + 1, 0, none⟩ = some (.slice ua qs.length ucap) := cell_far (hgf2.block _ lF (fun e => by have := (HBb2.out.own.lt e.symm).2.1; omega)) q0
                      have ff := frz_far (hgf2.block _ lF (fun e => by have := (HBb2.out.own.lt e.symm).2.1; omega)) ff
                      have HBf2 := Lib.hid HBf.out.shuts
                      have e2 : (qs ++ [((NM, 1 + m, fa, mo, 25 * (12 - (g : Int)), -1) : Per)]).length = qs.length + 1 := by simp
                      rw [e2] at HBf2
                      clear e2 hGf hgf hgf2 HBf HGo
                      go_wp2
                      go_roundw
                      case rel => exact ⟨i + 1, _, _, by go_num, by omega, HBf2, HGA⟩
                      case measure => simp [intOf]; omega
            · obtain rfl : i = wd := by omega
              have hiI : ¬ (i : Int) < (i : Int) := by omega
              have HFN := Lib.hid (show Grown qs ∧ Gen qs i (25 * (12 - (((g - 1 : Nat) : Int) + 1))) (t + 1) by
                rw [show 25 * (12 - (((g - 1 : Nat) : Int) + 1)) = 25 * (12 - (g : Int)) by omega]
                exact (HI.out.fin (by omega)).symm)
              have hg0 : 0 < g := hgo.1
              have hwk : wrap64 ((g : Int) - 1) = ((g - 1 : Nat) : Int) := (IntWalk.wrap64_in _ (by omega)).trans (by omega)
              go_wp2
              go_roundw
              case rel => exact ⟨g - 1, t + 1, qs, _, by first | rfl | go_num, by omega, HB, HFN⟩
              case measure => simp [intOf]; omega
        · have r0 := HB.out.r0
          have r1 := HB.out.r1
          have rf := HB.out.fR
          have lF := HB.out.lF
          have h0 := HB.out.h0
          have ne1 : ¬ w.heap.size = w.heap.size + 1 := by omega
          have ne2 : ¬ w.heap.size + 1 = w.heap.size := by omega
          have HFB := Lib.hid (fam_ppl hl40 HG.out.1.ppl HG.out.1.dep)
          have hex : ∀ (Q : Prop), Q → Q := fun _ h => h
          by_cases hg0 : 0 < g
          · have hgI : (0 : Int) < (g : Int) := by omega
            have hlI : ¬ (ps.length : Int) + (wd : Int) ≤ 40 := by omega
            go_wp2
            refine bodyPost_ret (v := .agg #[.slice va ps.length vcap, .slice none 0 0]) (by simp [results, Try.results59, go_sem, *]) rfl ⟨_, _, (ps, []), rfl, ?_, Lib.hid ⟨HFB.out, hl40⟩, HB.out.cur.below ?b1, HB.out.off.belowA ?b2⟩
            · exact Rd.fam_mk (f := (ps, [])) (((HB.out.own.keep (fun b hl hS => (keep_set b (by omega)).trans (keep_set b (by omega)))).ow (lo := w.heap.size) (hi := wl.heap.size) (fun b hl hS => ⟨by omega, by simpa using hl⟩)).rd.mono (Nat.le_refl _) (by simp)) (((GL.start (α := Uni) true w.heap.size w.heap.size _ _ 65).ow (Nat.le_refl _) (Nat.le_refl _)).rd)
            case b1 => exact bwT
            case b2 => exact bwT
          · obtain rfl : g = 0 := by omega
            have hgI : ¬ (0 : Int) < ((0 : Nat) : Int) := by omega
            go_wp2
            refine bodyPost_ret (v := .agg #[.slice va ps.length vcap, .slice none 0 0]) (by simp [results, Try.results59, go_sem, *]) rfl ⟨_, _, (ps, []), rfl, ?_, Lib.hid ⟨HFB.out, hl40⟩, HB.out.cur.below ?b1, HB.out.off.belowA ?b2⟩
            · exact Rd.fam_mk (f := (ps, [])) (((HB.out.own.keep (fun b hl hS => (keep_set b (by omega)).trans (keep_set b (by omega)))).ow (lo := w.heap.size) (hi := wl.heap.size) (fun b hl hS => ⟨by omega, by simpa using hl⟩)).rd.mono (Nat.le_refl _) (by simp)) (((GL.start (α := Uni) true w.heap.size w.heap.size _ _ 65).ow (Nat.le_refl _) (Nat.le_refl _)).rd)
            case b1 => exact bwT
            case b2 => exact bwT

end

end Go.Proofs.Ytefbbbhidnnchaa
