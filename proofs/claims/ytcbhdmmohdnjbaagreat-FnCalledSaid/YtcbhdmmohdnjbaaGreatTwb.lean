/- Contracts: hasText, TermsBetween of both programs. Written by twb_gen.py. -/
import Derived.Test.YtcbhdmmohdnjbaaGreatTbtI
import Derived.Test.YtcbhdmmohdnjbaaGreatTbtS
import Derived.Test.YtcbhdmmohdnjbaaGreatTrmC
import Derived.Test.YtcbhdmmohdnjbaaGreatTwoS
namespace Go.Proofs.YtcbhdmmohdnjbaaGreat
set_option linter.unusedVariables false
set_option linter.unusedSimpArgs false
open Go.RowKit
set_option maxHeartbeats 100000000
def termsAdd (y : Trm) (o : List ByteArray) (t : Kin) : List ByteArray := match termOf y t with
 | some s => if s ∈ o then o else o ++ [s]
 | none => o
def termsB (y : Trm) (l : List Kin) : List ByteArray := l.foldl (termsAdd y) []
def twX (f : Fam) (y : Trm) (a b n : Int) : List ByteArray := if isTerm y = true then termsB y (tbX f a b n) else []
theorem termsAdd_none {y : Trm} {t : Kin} (o : List ByteArray) (h : false = (termOf y t).isSome) : termsAdd y o t = o := by
 unfold termsAdd
 cases e : termOf y t with
 | none => rfl
 | some s => rw [e] at h; cases h
theorem termsAdd_some {y : Trm} {t : Kin} {q : ByteArray} (o : List ByteArray) (h : true = (termOf y t).isSome) (hq : q = tmText (termOf y t)) : termsAdd y o t = if q ∈ o then o else o ++ [q] := by
 unfold termsAdd
 cases e : termOf y t with
 | none => rw [e] at h; cases h
 | some s => rw [e] at hq; rw [show q = s from hq]
theorem termsB_snoc (y : Trm) (l : List Kin) (t : Kin) : termsB y (l ++ [t]) = termsAdd y (termsB y l) t := by
 unfold termsB; rw [List.foldl_append]; rfl
theorem termsAdd_len (y : Trm) (o : List ByteArray) (t : Kin) : (termsAdd y o t).length ≤ o.length + 1 := by
 unfold termsAdd
 split
 ·split
  ·omega
  ·simp
 ·omega
theorem foldl_len (y : Trm) : ∀ (l : List Kin) (o : List ByteArray), (l.foldl (termsAdd y) o).length ≤ o.length + l.length
 | [], _ => by simp
 | t :: l, o => by
   have h1 := foldl_len y l (termsAdd y o t)
   have h2 := termsAdd_len y o t
   rw [List.foldl_cons, List.length_cons]; omega
theorem termsB_len (y : Trm) (l : List Kin) : (termsB y l).length ≤ l.length := by
 have := foldl_len y l []
 unfold termsB
 simpa using this
theorem tbX_len (f : Fam) (a b n : Int) : (tbX f a b n).length ≤ 600 := by
 unfold tbX
 split
 ·unfold typesB
  exact Nat.le_trans (List.length_filter_le _ _) (typesX_len _ n)
 ·simp
theorem twX_len (f : Fam) (y : Trm) (a b n : Int) : (twX f y a b n).length ≤ 600 := by
 unfold twX
 split
 ·exact Nat.le_trans (termsB_len _ _) (tbX_len f a b n)
 ·simp
theorem tbX_kin {f : Fam} {a b n : Int} {t : Kin} (h : t ∈ tbX f a b n) : isKin t = true := by
 unfold tbX at h
 split at h
 ·unfold typesB at h
  exact (typesX_ok (List.mem_filter.1 h).1).1
 ·cases h
theorem termTI_q {z z1 : Bool} {lo hi lo1 hi1 : Nat} (w : World) (y1 y2 a b : Value) (rs : List Rul) (es : List Ent) (t : Kin) (h : Rd z lo hi w [y1, y2] ((rs, es) : Trm)) (h' : Rd z1 lo1 hi1 w [a, b] t) (hr : allRules rs) (ht : isKin t = true) (X : ByteArray) (hX : X = tmText (termOf (rs, es) t)) (r : Bool) (hrr : r = (termOf (rs, es) t).isSome) :
  Calls Tryz.prog 53 #[.agg #[y1, y2], .agg #[a, b]] w (PostV w (.tuple #[.string X, .bool r])) := by
 subst hX hrr
 exact termI_any w y1 y2 a b rs es t h h' hr ht _ rfl
theorem GLZ.ow {α : Type} [FlatRep α] {K : Nat} {w : World} {E : TypeId} {v : Value} {xs : List α} (h : GLZ K w E v xs) {l0 : Nat} (h0 : l0 ≤ K) : Ow l0 w.heap.size w [v] xs := by
 rcases h with h | ⟨rfl, a, rfl, ha⟩
 ·exact h.ow h0 h0
 ·exact ⟨[], ⟨_, rfl, _, 0, 0, rfl, rfl, Nat.le_refl _, by simp [maxLen], (fun h => by cases h), .inl ⟨rfl, rfl⟩⟩, (fun _ h => by cases h), List.nodup_nil⟩
theorem hasText_b {z : Bool} {lo hi : Nat} (w : World) (u : Value) (xs : List ByteArray) (h : Rd z lo hi w [u] xs) (s : ByteArray) (r : Bool) (hr : r = decide (s ∈ xs)) :
  Calls Tryz.prog 54 #[u, .string s] w (PostB w r) := by
 obtain ⟨oa, on, oc, rfl, hon, hnc, hcm, -⟩ := h.shape
 subst hon
 unfold maxLen at hcm
 have hle : xs.length ≤ 9223372036854775807 := by omega
 have HH := Hd h
 have HR := Hd hr
 clear h hr
 go_enter Tryz.func54, Tryz.ntmps54
 go_wp2
 go_loopw [4, 6, 9] (fun _ _ s9 wl => ∃ k : Nat, k ≤ xs.length ∧ s9 = .int .i64 k ∧ Hid (¬ s ∈ xs.take k) ∧ Below w.heap.size w wl) (fun _ _ s9 _ => xs.length - (intOf s9).toNat)
 case atStart => exact ⟨0, Nat.zero_le _, rfl, Hd spT, Below.refl _ _⟩
 case round =>
  obtain ⟨wb, hwb⟩ : ∃ wm : World, wm = wr := ⟨_, rfl⟩
  subst hwb
  obtain ⟨k, hk, rfl, HN, hbb⟩ := hrel
  by_cases hkl : k < xs.length
  ·have hkI : (k : Int) < (xs.length : Int) := by omega
   obtain ⟨bx, ofx, x, hoa, hx, x0, -⟩ := (HH.out.below hbb).str_at (i := k) hkl
   subst hoa
   by_cases e : x = s
   ·have HT := Hd (show r = true by rw [HR.out, decide_eq_true_eq, ← e]; exact List.mem_of_getElem? hx.out)
    have e1 : (x.toList == s.toList) = true := by rw [text_eq]; exact decide_eq_true e
    clear hx HN e
    go_wp2
    go_ret
    exact ⟨ret_bool HT.out.symm, hbb⟩
   ·have HN2 := Hd (show ¬ s ∈ xs.take (k + 1) by
     rw [take_snoc hx.out, List.mem_append, List.mem_singleton]
     exact fun h => h.elim HN.out fun h => e h.symm)
    have e1 : (x.toList == s.toList) = false := by rw [text_eq]; exact decide_eq_false e
    clear hx HN e
    go_wp2
    go_roundw
    case rel => exact ⟨k + 1, by omega, by go_num, HN2, hbb⟩
    case measure => simp [intOf]; omega
  ·obtain rfl : k = xs.length := by omega
   have hkI : ¬ (xs.length : Int) < (xs.length : Int) := by omega
   have HT := Hd (show r = false by
    have h := HN.out
    rw [List.take_length] at h
    rw [HR.out, decide_eq_false h])
   clear HN
   go_wp2
   go_ret
   exact ⟨ret_bool HT.out.symm, hbb⟩
set_option maxRecDepth 20000 in
theorem termsBtI_any {z z1 : Bool} {lo hi lo1 hi1 : Nat} (w : World) (v v2 y1 y2 : Value) (f : Fam) (y : Trm) (h : Rd z lo hi w [v, v2] f) (h' : Rd z1 lo1 hi1 w [y1, y2] y) (a b : Int) (ba : I64 a) (bb : I64 b) (n : Int) :
  Calls Tryz.prog 16 #[.agg #[v, v2], .agg #[y1, y2], .int .i64 a, .int .i64 b, .int .i64 n] w (PostOw w (twX f y a b n)) := by
 obtain ⟨ao, an, cap, rfl, hn, -⟩ := h.fam.1.shape
 subst hn
 obtain ⟨bo, bn, dap, rfl, hn2, -⟩ := h.fam.2.shape
 subst hn2
 obtain ⟨rs, es⟩ := y
 obtain ⟨hy1, hy2⟩ := h'.two rfl
 dsimp only at hy1 hy2
 obtain ⟨ra, rn, rcap, rfl, -⟩ := hy1.shape
 obtain ⟨ea, en, ecap, rfl, -⟩ := hy2.shape
 have HH := Hd h
 have HY := Hd h'
 obtain ⟨X, hX⟩ : ∃ X, X = twX f (rs, es) a b n := ⟨_, rfl⟩
 rw [← hX]
 obtain ⟨r1, hlet_r1⟩ : ∃ r, r = isTerm (rs, es) := ⟨_, rfl⟩
 have H1 := Hd hlet_r1
 clear hlet_r1
 have HX := Hd (show X = if r1 = true then termsB (rs, es) (tbX f a b n) else [] by rw [hX, H1.out]; rfl)
 clear h h' hy1 hy2 hX
 go_enter Tryz.func16, Tryz.ntmps16
 go_wp2_with fail
 refine (isTermI_b _ _ _ rs es (HY.out.below bwT) r1 H1.out).mono ?_
 rintro e1 w1 ⟨rfl, hbw1⟩
 have hpw1 : Below w.heap.size w w1 := Below.after bwT hbw1 szT
 have sw1 := hpw1.size
 have hBw1 : Below w.heap.size w w1 := hpw1
 have l_f : w.heap.size < w1.heap.size := by have := hbw1.size; simp at this; omega
 have q_f0 : w1.cell? ⟨w.heap.size, 0, none⟩ = some (.slice ao f.1.length cap) := oldc hbw1 ltT sgT
 have q_f1 : w1.cell? ⟨w.heap.size, 1, none⟩ = some (.slice bo f.2.length dap) := oldc hbw1 ltT sgT
 have l_y : w.heap.size + 1 < w1.heap.size := by have := hbw1.size; simp at this; omega
 have q_y0 : w1.cell? ⟨w.heap.size + 1, 0, none⟩ = some (.slice ra rn rcap) := oldc hbw1 ltT sgT
 have q_y1 : w1.cell? ⟨w.heap.size + 1, 1, none⟩ = some (.slice ea en ecap) := oldc hbw1 ltT sgT
 clear hbw1 hpw1
 cases r1
 ·obtain rfl : X = [] := by rw [HX.out]; rfl
  clear HX H1 HY HH
  go_wp2
  go_ret
  exact ⟨_, rfl, Ow.nil _ _ _, hBw1⟩
 have HXT := Hd (show X = termsB (rs, es) (tbX f a b n) by rw [HX.out]; rfl)
 have HRS := Hd (show allRules rs from (areRules_facts (isTerm_facts H1.out.symm).1).2.1)
 go_wp2_with fail
 refine (typesBtI_any _ _ _ f (HH.out.below bwT) a b ba bb n).mono ?_
 rintro e2 w2 ⟨ut, rfl, ho, hbw2⟩
 have hpw2 : Below w1.heap.size w1 w2 := Below.after bwT hbw2 szT
 have sw2 := hpw2.size
 have hBw2 : Below w.heap.size w w2 := Below.trans hBw1 (Below.mono hpw2 hBw1.size)
 have q_f0 := oldc hpw2 l_f q_f0
 have q_f1 := oldc hpw2 l_f q_f1
 have q_y0 := oldc hpw2 l_y q_y0
 have q_y1 := oldc hpw2 l_y q_y1
 have l_f := ltL l_f sw2
 have l_y := ltL l_y sw2
 clear hbw2 hpw2
 obtain ⟨T, hT⟩ : ∃ T, T = tbX f a b n := ⟨_, rfl⟩
 rw [← hT] at ho
 have HF := Hd (show X = termsB (rs, es) T by rw [HXT.out, hT])
 have HKN := Hd (show ∀ t ∈ T, isKin t = true from fun t ht => by rw [hT] at ht; exact tbX_kin ht)
 have hTL : T.length ≤ 600 := by rw [hT]; exact tbX_len f a b n
 obtain ⟨tao, tn, tcap, rfl, htn, htc, htm, -⟩ := ho.rd.shape
 subst htn
 have hrd := Hd ho.rd
 obtain ⟨W0, hW0⟩ : ∃ W0 : World, W0 = w2 := ⟨_, rfl⟩
 subst hW0
 have hB0 : Below w.heap.size w W0 := hBw2
 have s0 := hB0.size
 have qa_y0 := q_y0
 have qa_y1 := q_y1
 have la_y : w.heap.size + 1 < W0.heap.size := l_y
 have HT1 := H1
 clear HX
 clear HXT hT ho q_y0 q_y1 l_y H1 q_f0 q_f1 l_f
 go_wp2
 go_loopw [11, 13, 14, 15, 25] (fun s11 _ _ _ s25 wl => ∃ k : Nat, k ≤ T.length ∧ s25 = .int .i64 k ∧ Hid (GLZ (α := ByteArray) W0.heap.size wl 9 s11 (termsB (rs, es) (T.take k))) ∧ Below W0.heap.size W0 wl) (fun _ _ _ _ s25 _ => T.length - (intOf s25).toNat)
 case atStart => exact ⟨0, Nat.zero_le _, rfl, Hd GLZ.start, Below.refl _ _⟩
 case round =>
  obtain ⟨wb, hwb⟩ : ∃ wm : World, wm = wr := ⟨_, rfl⟩
  subst hwb
  obtain ⟨k, hi1, rfl, hG, hbb⟩ := hrel
  have sB := hbb.size
  have hBb : Below w.heap.size w wb := hB0.trans (hbb.mono s0)
  have q_y0 := oldc hbb la_y qa_y0
  have q_y1 := oldc hbb la_y qa_y1
  have l_y := ltL la_y sB
  by_cases hli : k < T.length
  ·have hIi : (k : Int) < (T.length : Int) := by omega
   obtain ⟨tb, toff, t, tv, rfl, ht, c0, c1, -, hct, hrt, -, -, tlt⟩ := hrd.out.kin_at hli
   obtain ⟨te, tl⟩ := t
   obtain ⟨sao, sn, scap, rfl, hsn, -⟩ := hct.shape
   have k0 := oldc hbb tlt c0
   have k1 := oldc hbb tlt c1
   dsimp only at k0
   have HRT := Hd hrt
   have HS1 := Hd (take_snoc ht.out)
   have HK := Hd (HKN.out (te, tl) (List.mem_of_getElem? ht.out))
   obtain ⟨q, hlet_q⟩ : ∃ r, r = tmText (termOf (rs, es) (te, tl)) := ⟨_, rfl⟩
   have HQ := Hd hlet_q
   clear hlet_q
   obtain ⟨r2, hlet_r2⟩ : ∃ r, r = (termOf (rs, es) (te, tl)).isSome := ⟨_, rfl⟩
   have HR2 := Hd hlet_r2
   clear hlet_r2
   have HQL := Hd (show q.size ≤ maxLen by rw [HQ.out]; exact tmText_le HT1.out (te, tl))
   obtain ⟨O, hO⟩ : ∃ O, O = termsB (rs, es) (T.take k) := ⟨_, rfl⟩
   rw [← hO] at hG
   have HOL := Hd (show O.length ≤ 600 by
    rw [hO]
    have h1 := termsB_len (rs, es) (T.take k)
    have h2 : (T.take k).length ≤ T.length := by rw [List.length_take]; omega
    omega)
   have HNX := Hd (show termsB (rs, es) (T.take (k + 1)) = termsAdd (rs, es) O (te, tl) by rw [HS1.out, termsB_snoc, hO])
   have hbA : Below W0.heap.size W0 (wb.alloc (.cells #[.int .i64 te, .slice sao sn scap] 68)) := hbb.alloc sB _
   have hbw : Below w.heap.size w (wb.alloc (.cells #[.int .i64 te, .slice sao sn scap] 68)) := hBb.alloc omT _
   have hGA := Hd (hG.out.below (show Below wb.heap.size wb (wb.alloc (.cells #[.int .i64 te, .slice sao sn scap] 68)) from bwT))
   clear ht c0 c1 hct hrt hG hO HS1
   go_wp2_with fail
   refine (termTI_q _ _ _ _ _ rs es (te, tl) (HY.out.below hbw) (HRT.out.below hbA) HRS.out HK.out q HQ.out r2 HR2.out).mono ?_
   rintro e w1 ⟨rfl, hb1⟩
   have s1 := hb1.size
   simp only [World.size_alloc] at s1
   have hbb1 : Below W0.heap.size W0 w1 := hbA.trans (hb1.mono hbA.size)
   have hG1 := Hd (hGA.out.below hb1)
   clear hb1 hGA
   cases r2
   ·have HN := Hd (show GLZ (α := ByteArray) W0.heap.size w1 9 _ (termsB (rs, es) (T.take (k + 1))) by rw [HNX.out, termsAdd_none _ HR2.out]; exact hG1.out)
    clear hG1 HNX HR2 HQ
    go_wp2
    go_roundw
    case rel => exact ⟨k + 1, by omega, by go_num, HN, hbb1⟩
    case measure => simp [intOf]; omega
   obtain ⟨c, hc⟩ : ∃ c, c = decide (q ∈ O) := ⟨_, rfl⟩
   have HC := Hd hc
   have HNX1 := Hd (show termsB (rs, es) (T.take (k + 1)) = if q ∈ O then O else O ++ [q] by rw [HNX.out]; exact termsAdd_some O HR2.out HQ.out)
   clear hc HNX HR2 HQ
   go_wp2_with fail
   refine (hasText_b _ _ O hG1.out.rd q c HC.out).mono ?_
   rintro e w2 ⟨rfl, hb2⟩
   have hbb2 : Below W0.heap.size W0 w2 := hbb1.trans (hb2.mono omT)
   have sz2 := hb2.size
   have hG2 := Hd (hG1.out.below hb2)
   clear hG1 hb2
   cases c
   ·have HNX2 := Hd (show termsB (rs, es) (T.take (k + 1)) = O ++ [q] by rw [HNX1.out, if_neg (of_decide_eq_false HC.out.symm)])
    clear HNX1 HC
    go_wp2_with (at_builtin; refine wpList_push_z rfl rfl slStr (by show (0 : Nat) < 1; omega) (hG2.out.below ?k5) rfl (ad := ⟨w2.heap.size, 0, none⟩) rfl (cs := [.string q]) (y := q) (fun j c hj => by match j, hj with | 0, hj => simp at hj; subst hj; simp [Addr.add, go_sem]) ⟨rfl, HQL.out, rfl⟩ (by have := HOL.out; unfold maxLen; omega) (by have := HOL.out; omega) ?k6 ?_)
    case k5 => exact bwT
    case k6 => exact szT
    intro g3 cap3 w3 hG3 hg3 hb3 hat3
    have HN3 := Hd (show GLZ (α := ByteArray) W0.heap.size w3 9 _ (termsB (rs, es) (T.take (k + 1))) by rw [HNX2.out]; exact hG3)
    have hbb3 : Below W0.heap.size W0 w3 := hbb2.trans (Below.trans (show Below W0.heap.size w2 _ from bwT) hb3)
    clear hG3 hG2 hg3 hb3 hat3
    go_wp2
    go_roundw
    case rel => exact ⟨k + 1, by omega, by go_num, HN3, hbb3⟩
    case measure => simp [intOf]; omega
   ·have HN := Hd (show GLZ (α := ByteArray) W0.heap.size w2 9 _ (termsB (rs, es) (T.take (k + 1))) by rw [HNX1.out, if_pos (of_decide_eq_true HC.out.symm)]; exact hG2.out)
    clear hG2 HNX1 HC
    go_wp2
    go_roundw
    case rel => exact ⟨k + 1, by omega, by go_num, HN, hbb2⟩
    case measure => simp [intOf]; omega
  ·obtain rfl : k = T.length := by omega
   have nI : ¬ (T.length : Int) < (T.length : Int) := by omega
   have hG2 := Hd (show GLZ (α := ByteArray) W0.heap.size wb 9 _ X by
    have h := hG.out
    rw [List.take_length, ← HF.out] at h
    exact h)
   obtain ⟨xa, xc, rfl, -, -⟩ := hG2.out.len
   clear hG
   go_wp2
   go_ret
   exact ⟨_, rfl, hG2.out.ow s0, hBb⟩
end Go.Proofs.YtcbhdmmohdnjbaaGreat
