/- Contracts of IsRelation, ComposeRelations, RelationFor and RelativesOf (impl), of valid relations, families and types. -/
import Derived.Test.YtefbbbhidnnchaaLedI
import Derived.Test.YtefbbbhidnnchaaZ14H
import Derived.Test.YtefbbbhidnnchaaZ14N
namespace Go.Proofs.Ytefbbbhidnnchaa
set_option linter.unusedVariables false
set_option linter.unusedSimpArgs false
open Go.RowKit

def RowOk (n : Nat) (row : List Int) : Prop := ∀ (j : Nat) (x : Int), row[j]? = some x → (0 ≤ x ∧ x < n) ∧ ∀ (p : Nat) (y : Int), j = p + 1 → row[p]? = some y → y < x
theorem rowTo_ok (R : Nat → Nat → Bool) (a n : Nat) : ∀ k, k ≤ n → RowOk n (rowTo R a k)
  | 0, _ => fun j x h => by simp [rowTo] at h
  | k + 1, hk => by
    have ih := rowTo_ok R a n k (by omega)
    cases e : R a k with
    | false => rw [rowTo_out e]; exact ih
    | true =>
      rw [rowTo_in e]
      intro j x h
      by_cases hj : j < (rowTo R a k).length
      · rw [List.getElem?_append_left hj] at h
        have h2 := ih j x h
        refine ⟨h2.1, fun p y hp hy => h2.2 p y hp ?_⟩
        rwa [List.getElem?_append_left (by omega)] at hy
      · have hj2 := (List.getElem?_eq_some_iff.1 h).1
        rw [List.length_append, List.length_singleton] at hj2
        obtain rfl : j = (rowTo R a k).length := by omega
        rw [List.getElem?_append_right (Nat.le_refl _), Nat.sub_self] at h
        obtain rfl : (k : Int) = x := by simpa using h
        refine ⟨by omega, fun p y hp hy => ?_⟩
        rw [List.getElem?_append_left (by omega)] at hy
        obtain ⟨b, h1, -, h2⟩ := mem_rowTo.1 (List.mem_of_getElem? hy)
        omega
theorem relTo_ok (R : Nat → Nat → Bool) (n : Nat) : ∀ (i : Nat) (row : List Int), (relTo R n n)[i]? = some row → RowOk n row := fun i row h => by
  have hi := (List.getElem?_eq_some_iff.1 h).1
  rw [relTo_len] at hi
  rw [relTo_at hi] at h
  obtain rfl := Option.some.inj h
  exact rowTo_ok R i n n (Nat.le_refl _)
theorem contains_rowTo {S : Nat → Nat → Bool} {b c n : Nat} (hc : c < n) : (rowTo S b n).contains (c : Int) = S b c := by
  cases e : S b c with
  | true => exact List.contains_iff_mem.2 (mem_rowTo.2 ⟨c, hc, e, rfl⟩)
  | false =>
    by_cases h : (rowTo S b n).contains (c : Int) = true
    · obtain ⟨d, _, h2, h3⟩ := mem_rowTo.1 (List.contains_iff_mem.1 h)
      obtain rfl : c = d := by omega
      rw [e] at h2; cases h2
    · simpa using h
def cmpB (R S : Nat → Nat → Bool) (n a c : Nat) : Bool := (rowTo R a n).any fun x => S x.toNat c
def egoR (f : Fam) (e : Int) (a b : Nat) : Bool := decide (a = b) && (decide (e = 0) || (match f.1[a]? with | some x => decide (x.2.1 = e) | none => false))
def relF (f : Fam) (e : Int) (l : List Stp) : Nat → Nat → Bool := l.foldl (fun R s => cmpB R (ledB f s) f.1.length) (egoR f e)
theorem relF_snoc {f : Fam} {e : Int} {l : List Stp} {i : Nat} {s : Stp} (h : l[i]? = some s) : relF f e (l.take (i + 1)) = cmpB (relF f e (l.take i)) (ledB f s) f.1.length := by
  unfold relF; rw [take_snoc h, List.foldl_append]; rfl
set_option maxRecDepth 20000 in
set_option maxHeartbeats 8000000 in
theorem isRel_t {z : Bool} {lo hi : Nat} (w : World) (n : Nat) (hn : n ≤ 40) (u : Value) (L : List (List Int)) (h : Rd z lo hi w [u] L) (hl : L.length = n) (hv : ∀ (i : Nat) (row : List Int), L[i]? = some row → RowOk n row) :
    Calls Try.prog 112 #[.agg #[.int .i64 n, u]] w (PostB w true) := by
  obtain ⟨ao, k, cap, rfl, hk, -⟩ := h.shape
  subst hk
  obtain ⟨N, hN⟩ : ∃ N, N = L.length := ⟨_, rfl⟩
  rw [← hN] at h hl ⊢
  subst hl
  have HH := Lib.hid h
  have HV := Lib.hid hv
  have HN := Lib.hid hN
  clear h hv hN
  obtain ⟨W1, hW1⟩ : ∃ W : World, W = w.alloc (.cells #[.int .i64 N, .slice ao N cap] 89) := ⟨_, rfl⟩
  have hb1 : Below w.heap.size w W1 := by rw [hW1]; exact bwT
  have q0 : W1.cell? ⟨w.heap.size, 0, none⟩ = some (.int .i64 N) := by rw [hW1]; simp [go_sem]
  have q1 : W1.cell? ⟨w.heap.size, 1, none⟩ = some (.slice ao N cap) := by rw [hW1]; simp [go_sem]
  have lF : w.heap.size < W1.heap.size := by rw [hW1]; simp
  have HH1 := Lib.hid (HH.out.below hb1)
  go_enter Try.func112, Try.ntmps112
  go_upto_region 1 with fail
  rw [← hW1]
  clear hW1 HH
  go_wp2
  go_loopw [4, 5, 6, 26, 32] (fun _ _ _ s26 _ wl => ∃ i : Nat, i ≤ N ∧ s26 = .int .i64 i ∧ Below W1.heap.size W1 wl) (fun _ _ _ s26 _ _ => N - (intOf s26).toNat)
  case atStart => exact ⟨0, Nat.zero_le _, rfl, Below.refl _ _⟩
  case round =>
    obtain ⟨wo, hwo⟩ : ∃ y : World, y = wr := ⟨_, rfl⟩
    subst hwo
    obtain ⟨i, hi, rfl, hbo⟩ := hrel
    have r0 := oldc hbo lF q0
    have r1 := oldc hbo lF q1
    have lO := Nat.lt_of_lt_of_le lF hbo.size
    have hBo : Below w.heap.size w wo := hb1.trans (hbo.mono hb1.size)
    by_cases hlt : i < N
    · have hI : (i : Int) < (N : Int) := by omega
      obtain ⟨gb, gof, row, gv, rfl, hg, g0, hgr, -, -, -⟩ := (HH1.out.below hbo).ints_at hlt
      obtain ⟨ra, rn, rc, rfl, hrn, hrnc, hrcm, -⟩ := hgr.shape
      subst hrn
      unfold maxLen at hrcm
      have hrl : row.length ≤ 9223372036854775807 := by omega
      have HRO := Lib.hid (HV.out i row hg.out)
      have HG := Lib.hid hgr
      clear hgr hg hrnc hrcm
      go_wp2
      go_loopw [5, 6, 32] (fun _ _ s32 wl => ∃ j : Nat, j ≤ row.length ∧ s32 = .int .i64 j ∧ Below wo.heap.size wo wl) (fun _ _ s32 _ => row.length - (intOf s32).toNat)
      case atStart => exact ⟨0, Nat.zero_le _, rfl, Below.refl _ _⟩
      case round =>
        obtain ⟨wi, hwi⟩ : ∃ y : World, y = wr := ⟨_, rfl⟩
        subst hwi
        obtain ⟨j, hj, rfl, hbi⟩ := hrel
        have t0 := oldc hbi lO r0
        have t1 := oldc hbi lO r1
        by_cases hjl : j < row.length
        · have hJ : (j : Int) < (row.length : Int) := by omega
          obtain ⟨bx, ofx, x, rfl, hx, x0, -⟩ := (HG.out.below hbi).int_at hjl
          have ho := HRO.out j x hx.out
          have hx0 : ¬ x < 0 := by omega
          have hxn : ¬ x ≥ (N : Int) := by omega
          have hxn2 : ¬ (N : Int) ≤ x := by omega
          by_cases hj0 : j = 0
          · subst hj0
            rw [Nat.add_zero] at x0
            clear ho hx
            go_wp2
            go_roundw
            case rel => exact ⟨1, by omega, by go_num, hbi⟩
            case measure => simp [intOf]; omega
          · obtain ⟨p, hp⟩ : ∃ p, j = p + 1 := ⟨j - 1, by omega⟩
            obtain ⟨_, _, y, e, hy, y0, -⟩ := (HG.out.below hbi).int_at (show p < row.length by omega)
            simp only [Option.some.injEq, Addr.mk.injEq, and_true] at e
            obtain ⟨rfl, rfl⟩ := e
            have hyx := ho.2 p y hp hy.out
            have hyx2 : ¬ x ≤ y := by omega
            have hyx3 : ¬ y ≥ x := by omega
            have hjp : (0 : Int) < (j : Int) := by omega
            have hjm : (j : Int) - 1 = (p : Int) := by omega
            have hpl : (p : Int) < (row.length : Int) := by omega
            clear ho hx hy hp hj0
            go_wp2
            go_roundw
            case rel => exact ⟨j + 1, by omega, by go_num, hbi⟩
            case measure => simp [intOf]; omega
        · obtain rfl : j = row.length := by omega
          have hJ : ¬ (row.length : Int) < (row.length : Int) := by omega
          have hbo2 : Below W1.heap.size W1 wi := hbo.trans (hbi.mono hbo.size)
          go_wp2
          go_roundw
          case rel => exact ⟨i + 1, by omega, by go_num, hbo2⟩
          case measure => simp [intOf]; omega
    · obtain rfl : i = N := by omega
      have hI : ¬ (i : Int) < (i : Int) := by omega
      go_wp2
      go_ret
      exact ⟨rfl, hBo⟩
set_option maxHeartbeats 4000000 in
theorem two_t {z z2 : Bool} {lo hi lo2 hi2 : Nat} (w : World) (n : Nat) (hn : n ≤ 40) (u v : Value) (R S : Nat → Nat → Bool) (h : Rd z lo hi w [u] (relTo R n n)) (h2 : Rd z2 lo2 hi2 w [v] (relTo S n n)) :
    Calls Try.prog 103 #[.agg #[.int .i64 n, u], .agg #[.int .i64 n, v]] w (PostB w true) := by
  have HH := Lib.hid h
  have HS := Lib.hid h2
  obtain ⟨ra, rn, rc, rfl, -⟩ := h.shape
  obtain ⟨sa, sn, sc, rfl, -⟩ := h2.shape
  clear h h2
  go_enter Try.func103, Try.ntmps103
  go_wp2_with fail
  refine (isRel_t _ n hn _ _ (HH.out.below bwT) (relTo_len _ _ _) (relTo_ok _ _)).mono ?_
  rintro e1 w1 ⟨rfl, hbw1⟩
  have hpw1 : Below w.heap.size w w1 := Below.after bwT hbw1 szT
  have sw1 := hpw1.size
  have hBw1 : Below w.heap.size w w1 := hpw1
  have l_r : w.heap.size < w1.heap.size := by have := hbw1.size; simp at this; omega
  have q_r0 : w1.cell? ⟨w.heap.size, 0, none⟩ = some (.int .i64 n) := oldc hbw1 ltT (by simp [go_sem])
  have q_r1 : w1.cell? ⟨w.heap.size, 1, none⟩ = some (.slice ra rn rc) := oldc hbw1 ltT (by simp [go_sem])
  have l_s : w.heap.size + 1 < w1.heap.size := by have := hbw1.size; simp at this; omega
  have q_s0 : w1.cell? ⟨w.heap.size + 1, 0, none⟩ = some (.int .i64 n) := oldc hbw1 ltT (by simp [go_sem])
  have q_s1 : w1.cell? ⟨w.heap.size + 1, 1, none⟩ = some (.slice sa sn sc) := oldc hbw1 ltT (by simp [go_sem])
  clear hbw1 hpw1
  go_wp2_with fail
  refine (isRel_t _ n hn _ _ (HS.out.below hBw1) (relTo_len _ _ _) (relTo_ok _ _)).mono ?_
  rintro e2 w2 ⟨rfl, hbw2⟩
  have hpw2 : Below w1.heap.size w1 w2 := Below.after bwT hbw2 szT
  have sw2 := hpw2.size
  have hBw2 : Below w.heap.size w w2 := Below.trans hBw1 (Below.mono hpw2 hBw1.size)
  have q_r0 := oldc hpw2 l_r q_r0
  have q_r1 := oldc hpw2 l_r q_r1
  have q_s0 := oldc hpw2 l_s q_s0
  have q_s1 := oldc hpw2 l_s q_s1
  have l_r := Nat.lt_of_lt_of_le l_r sw2
  have l_s := Nat.lt_of_lt_of_le l_s sw2
  clear hbw2 hpw2
  go_wp2
  go_ret
  exact ⟨rfl, hBw2⟩
set_option maxRecDepth 20000 in
set_option maxHeartbeats 8000000 in
theorem cmpCl_b {z z2 : Bool} {lo hi lo2 hi2 : Nat} (W : World) (BR BS n : Nat) (hn : n ≤ 40) (ra sa : Option Addr) (rc sc : Nat) (R S : Nat → Nat → Bool) (hR : Rd z lo hi W [.slice ra n rc] (relTo R n n)) (hS : Rd z2 lo2 hi2 W [.slice sa n sc] (relTo S n n))
    (r1 : W.cell? ⟨BR, 1, none⟩ = some (.slice ra n rc)) (s1 : W.cell? ⟨BS, 1, none⟩ = some (.slice sa n sc)) (a c : Nat) (ha : a < n) (hc : c < n) :
    Calls Try.prog 104 #[.int .i64 a, .int .i64 c, .pointer (some ⟨BR, 0, none⟩), .pointer (some ⟨BS, 0, none⟩)] W (PostB W (cmpB R S n a c)) := by
  obtain ⟨gb, gof, row, gv, rfl, hg, g0, hgr, -, -, -⟩ := hR.ints_at ha
  obtain ⟨wa, wn, wc, rfl, hwn, -⟩ := hgr.shape
  subst hwn
  have haI : (a : Int) < (n : Int) := by omega
  rw [relTo_at ha] at hg
  obtain rfl := Option.some.inj hg.out
  have HMX := Lib.hid (fun (x : Int) (hx : x ∈ rowTo R a n) => mem_rowTo.1 hx)
  have hrl := rowTo_len R a n
  have HQ := Lib.hid (show cmpB R S n a c = (rowTo R a n).any fun x => S x.toNat c from rfl)
  obtain ⟨q, hq⟩ : ∃ q, q = cmpB R S n a c := ⟨_, rfl⟩
  rw [← hq] at HQ ⊢
  obtain ⟨row, hrow⟩ : ∃ row, row = rowTo R a n := ⟨_, rfl⟩
  rw [← hrow] at HMX HQ hrl hgr g0
  have HG := Lib.hid hgr
  have HSS := Lib.hid hS
  have lR : BR < W.heap.size := World.block_lt_of_cell? W ⟨BR, 1, none⟩ r1
  have lS : BS < W.heap.size := World.block_lt_of_cell? W ⟨BS, 1, none⟩ s1
  clear hR hS hg hgr hq hrow
  go_enter Try.func104, Try.ntmps104
  go_wp2
  go_loopw [8, 15] (fun _ s15 wl => ∃ j : Nat, j ≤ row.length ∧ s15 = .int .i64 j ∧ Hid (((row.take j).any fun x => S x.toNat c) = false) ∧ Below W.heap.size W wl) (fun _ s15 _ => row.length - (intOf s15).toNat)
  case atStart => exact ⟨0, Nat.zero_le _, rfl, Lib.hid rfl, Below.refl _ _⟩
  case round =>
    obtain ⟨wi, hwi⟩ : ∃ y : World, y = wr := ⟨_, rfl⟩
    subst hwi
    obtain ⟨j, hj, rfl, HN, hbi⟩ := hrel
    have t1 := oldc hbi lS s1
    by_cases hjl : j < row.length
    · have hJ : (j : Int) < (row.length : Int) := by omega
      obtain ⟨bx, ofx, x, rfl, hx, x0, -⟩ := (HG.out.below hbi).int_at hjl
      obtain ⟨b, hbn, -, hxb⟩ := HMX.out x (List.mem_of_getElem? hx.out)
      subst hxb
      have hbI : (b : Int) < (n : Int) := by omega
      obtain ⟨sb, sof, rs, sv, rfl, hs, g1, hsr, -, -, -⟩ := (HSS.out.below hbi).ints_at hbn
      rw [relTo_at hbn] at hs
      obtain rfl := Option.some.inj hs.out
      obtain ⟨va, vn, vc, rfl, -⟩ := hsr.shape
      have HSR := Lib.hid hsr
      obtain ⟨p, hp⟩ : ∃ p, p = S b c := ⟨_, rfl⟩
      have HPC := Lib.hid (show p = (rowTo S b n).contains (c : Int) by rw [contains_rowTo hc]; exact hp)
      have HNX := Lib.hid (show ((row.take (j + 1)).any fun x => S x.toNat c) = p by rw [take_snoc hx.out, List.any_append, HN.out, hp]; simp)
      have HXM := Lib.hid (List.mem_of_getElem? hx.out)
      have HPE := Lib.hid hp
      clear hs hsr hx hp HN
      go_wp2_with fail
      refine (hasInt_b _ _ (rowTo S b n) HSR.out (c : Int) p HPC.out).mono ?_
      rintro e w2 ⟨rfl, hb2⟩
      have hp2 : Below W.heap.size W w2 := hbi.trans (Below.mono hb2 hbi.size)
      clear hb2
      cases p
      · go_wp2
        go_roundw
        case rel => exact ⟨j + 1, by omega, by go_num, HNX, hp2⟩
        case measure => simp [intOf]; omega
      · have HT := Lib.hid (show q = true by rw [HQ.out]; exact List.any_eq_true.2 ⟨_, HXM.out, by rw [Int.toNat_natCast]; exact HPE.out.symm⟩)
        go_wp2
        go_ret
        exact ⟨ret_bool HT.out.symm, hp2⟩
    · obtain rfl : j = row.length := by omega
      have hJ : ¬ (row.length : Int) < (row.length : Int) := by omega
      have HT := Lib.hid (show q = false by rw [HQ.out]; have := HN.out; rwa [List.take_length] at this)
      go_wp2
      go_ret
      exact ⟨ret_bool HT.out.symm, hbi⟩
set_option maxRecDepth 20000 in
set_option maxHeartbeats 8000000 in
theorem compose_any {z z2 : Bool} {lo hi lo2 hi2 : Nat} (w : World) (n : Nat) (hn : n ≤ 40) (u v : Value) (R S : Nat → Nat → Bool) (h : Rd z lo hi w [u] (relTo R n n)) (h2 : Rd z2 lo2 hi2 w [v] (relTo S n n)) :
    Calls Try.prog 90 #[.agg #[.int .i64 n, u], .agg #[.int .i64 n, v]] w (PostRl w n (relTo (cmpB R S n) n n)) := by
  have HH := Lib.hid h
  have HS := Lib.hid h2
  obtain ⟨ra, rn, rc, rfl, hrn, -⟩ := h.shape
  rw [relTo_len] at hrn
  subst hrn
  obtain ⟨sa, sn, sc, rfl, hsn, -⟩ := h2.shape
  rw [relTo_len] at hsn
  subst hsn
  clear h h2
  go_enter Try.func90, Try.ntmps90
  go_wp2_with fail
  refine (two_t _ n hn _ _ R S (HH.out.below bwT) (HS.out.below bwT)).mono ?_
  rintro e3 w3 ⟨rfl, hbw3⟩
  have hpw3 : Below w.heap.size w w3 := Below.after bwT hbw3 szT
  have sw3 := hpw3.size
  have hBw3 : Below w.heap.size w w3 := hpw3
  have l_r : w.heap.size < w3.heap.size := by have := hbw3.size; simp at this; omega
  have q_r0 : w3.cell? ⟨w.heap.size, 0, none⟩ = some (.int .i64 n) := oldc hbw3 ltT (by simp [go_sem])
  have q_r1 : w3.cell? ⟨w.heap.size, 1, none⟩ = some (.slice ra n rc) := oldc hbw3 ltT (by simp [go_sem])
  have l_s : w.heap.size + 1 < w3.heap.size := by have := hbw3.size; simp at this; omega
  have q_s0 : w3.cell? ⟨w.heap.size + 1, 0, none⟩ = some (.int .i64 n) := oldc hbw3 ltT (by simp [go_sem])
  have q_s1 : w3.cell? ⟨w.heap.size + 1, 1, none⟩ = some (.slice sa n sc) := oldc hbw3 ltT (by simp [go_sem])
  have l_o : w.heap.size + 1 + 1 < w3.heap.size := by have := hbw3.size; simp at this; omega
  have q_o0 : w3.cell? ⟨w.heap.size + 1 + 1, 0, none⟩ = some (.int .i64 0) := oldc hbw3 ltT (by simp [go_sem])
  have q_o1 : w3.cell? ⟨w.heap.size + 1 + 1, 1, none⟩ = some (.slice none 0 0) := oldc hbw3 ltT (by simp [go_sem])
  have f_o : ∀ o, w3.frozen? ⟨w.heap.size + 1 + 1, o, none⟩ = false := fun o => (hbw3.frozen (p := ⟨w.heap.size + 1 + 1, o, none⟩) ltT).trans (by simp [go_sem])
  clear hbw3 hpw3
  obtain ⟨W5, hW5⟩ : ∃ W : World, W = w3 := ⟨_, rfl⟩
  subst hW5
  have hB5 : Below w.heap.size w W5 := hBw3
  go_wp2_with fail
  refine (related_any _ n hn 104 #[.pointer (some ⟨w.heap.size, 0, none⟩), .pointer (some ⟨w.heap.size + 1, 0, none⟩)] (cmpB R S n) (fun _ _ => by kernel_rfl) (fun W a c hW ha hc => ?cl)).mono ?_
  case cl =>
    exact cmpCl_b W w.heap.size (w.heap.size + 1) n hn ra sa rc sc R S ((HH.out.below hB5).below hW) ((HS.out.below hB5).below hW) (oldc hW l_r q_r1) (oldc hW l_s q_s1) a c ha hc
  rintro e6 w6 ⟨u, rfl, ho, hb6⟩
  obtain ⟨ua, un, uc, rfl, hun, -⟩ := ho.rd.shape
  have HO := Lib.hid ho
  have s6 := hb6.size
  have hB6 : Below w.heap.size w w6 := hB5.trans (Below.mono hb6 hB5.size)
  have r0 := oldc hb6 l_o q_o0
  have r1 := oldc hb6 l_o q_o1
  have rf : ∀ o, w6.frozen? ⟨w.heap.size + 1 + 1, o, none⟩ = false := fun o => (hb6.frozen (p := ⟨w.heap.size + 1 + 1, o, none⟩) l_o).trans (f_o o)
  have l6 : w.heap.size + 1 + 1 < w6.heap.size := by omega
  clear hun ho hb6 q_o0 q_o1 f_o q_r0 q_r1 q_s0 q_s1
  go_wp2
  refine bodyPost_ret (v := .agg #[.int .i64 n, .slice ua un uc]) (by simp [results, go_sem, *]) rfl ?_
  refine ⟨_, rfl, ?_, ?_⟩
  · have HO2 := HO.out.keep (w' := (w6.setCell ⟨w.heap.size + 1 + 1, 0, none⟩ (.int .i64 n)).setCell ⟨w.heap.size + 1 + 1, 1, none⟩ (.slice ua un uc)) zmT
    exact Ow.mono HO2 (by omega) (by simp)
  · exact bwT
end Go.Proofs.Ytefbbbhidnnchaa
