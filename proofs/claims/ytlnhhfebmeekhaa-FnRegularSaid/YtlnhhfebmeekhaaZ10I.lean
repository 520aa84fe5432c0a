/- Texts laid one behind the other (merge.py): Forb, CGrp. -/
import Derived.Test.YtlnhhfebmeekhaaZ10C
import Derived.Test.YtlnhhfebmeekhaaGrpL
import Derived.Test.YtlnhhfebmeekhaaGOf
import Derived.Test.YtlnhhfebmeekhaaCan
namespace Go.Proofs.Ytlnhhfebmeekhaa
set_option linter.unusedVariables false
set_option linter.unusedSimpArgs false
open Go.RowKit

/-! ### Forb -/
section

def noFix : Nat → List Int → Bool
  | _, [] => true
  | k, x :: xs => if x = k then false else noFix (k + 1) xs
/-- No class marries itself. -/
def forb (c : Cls) : Bool := isCls c && noFix 0 c.1

theorem noFix_no {k : Nat} {x : Int} {xs : List Int} (h : x = k) : noFix k (x :: xs) = false := by rw [noFix, if_pos h]
theorem noFix_yes {k : Nat} {x : Int} {xs : List Int} (h : ¬ x = k) : noFix k (x :: xs) = noFix (k + 1) xs := by rw [noFix, if_neg h]

section
variable {z : Bool} {lo hi : Nat} (w : World) (u v : Value) (c : Cls)
set_option maxHeartbeats 1000000 in
theorem forbI_b (h : Rd z lo hi w [u, v] c) (hl : c.1.length ≤ 1048576) (r : Bool) (hr : r = forb c) :
    Calls Try.prog 18 #[.agg #[u, v]] w (PostB w r) := by
  obtain ⟨xs, q⟩ := c
  have hl : xs.length ≤ 1048576 := hl
  obtain ⟨ao, n, cap, bo, m, dap, rfl, rfl⟩ := shapeCls h
  obtain ⟨hp, hq⟩ := h.two rfl
  dsimp only at hp hq
  obtain ⟨ao', n', cap', e, hn, hnc, hcm, hnone⟩ := hp.shape
  simp only [Value.slice.injEq] at e
  obtain ⟨rfl, rfl, rfl⟩ := e
  subst hn
  obtain ⟨r1, hr1⟩ : ∃ r, r = isCls (xs, q) := ⟨_, rfl⟩
  have H1 := Lib.hid hr1
  have HR := Lib.hid (show r = (r1 && noFix 0 xs) by rw [hr, hr1, forb])
  clear hr hr1
  cases r1
  · obtain rfl : r = false := by rw [HR.out]; rfl
    go_enter Try.func18, Try.ntmps18
    go_wp2_with fail
    refine (isClsI_b _ _ _ _ (h.below (by go_grown)) _ H1.out).mono ?_
    rintro e w1 ⟨rfl, hb1⟩
    have hB1 : Below w.heap.size w w1 := Below.after bwT hb1 szT; have s1 := hb1.size; try simp only [World.size_alloc, World.size_setCell, World.size_drew] at s1
    go_wp2
    go_ret
    exact ⟨rfl, hB1⟩
  · have HN := Lib.hid (show r = noFix 0 xs by rw [HR.out]; simp)
    clear HR hq
    go_enter Try.func18, Try.ntmps18
    go_wp2_with fail
    refine (isClsI_b _ _ _ _ (h.below (by go_grown)) _ H1.out).mono ?_
    rintro e w1 ⟨rfl, hb1⟩
    have hB1 : Below w.heap.size w w1 := Below.after bwT hb1 szT; have s1 := hb1.size; try simp only [World.size_alloc, World.size_setCell, World.size_drew] at s1
    have q0 : w1.cell? ⟨w.heap.size, 0, none⟩ = some (.slice ao xs.length cap) := oldc hb1 ltT (by simp [go_sem])
    clear hb1 H1 h
    have hp1 := hp.below hB1
    clear hp
    go_wp2
    go_loopw [3, 4, 11] (fun a b i wr => ∃ k : Nat, k ≤ xs.length ∧ i = .int .i64 k ∧ Hid (noFix k (xs.drop k) = r) ∧ wr = w1) (fun _ _ i _ => xs.length - (intOf i).toNat)
    case atStart => exact ⟨0, Nat.zero_le _, rfl, HN.out.symm, rfl⟩
    case round =>
      obtain ⟨k, hk, rfl, hp, rfl⟩ := hrel
      clear HN
      by_cases hlt : k < xs.length
      · obtain ⟨b, off, x, rfl, hx, hc, hx1, hx2, _⟩ := hp1.int_at hlt
        have hp' := hp.out
        rw [drop_cons hx.out] at hp'
        by_cases hxk : x = k
        · subst hxk
          have HF := Lib.hid (hp'.symm.trans (noFix_no rfl))
          obtain rfl := HF.out
          have hbe : ((k : Int) == (k : Int)) = true := by simp
          clear hp hp' hp1 hx HF
          go_wp2
          go_ret
          exact ⟨rfl, hB1⟩
        · have HN := Lib.hid ((noFix_yes hxk).symm.trans hp')
          have hbe : ((k : Int) == x) = false := by simp; omega
          clear hp hp' hp1 hx hxk
          go_wp2
          go_roundw
          case rel => exact ⟨k + 1, by omega, by go_num, HN.out, (by first | rfl | trivial)⟩
          case measure => simp [intOf]; omega
      · have HF := Lib.hid (show r = true by rw [← hp.out, List.drop_eq_nil_of_le (by omega)]; rfl)
        clear hp hp1
        go_wp2
        go_ret
        exact ⟨ret_bool HF.out.symm, hB1⟩

end

end

/-! ### CGrp -/
section

theorem perms_all {n : Nat} : ∀ {k : Nat} {p : List Int}, p.length = k → p.Nodup → InRange n p → p ∈ perms n k
  | 0, p, hl, _, _ => by
    have : p = [] := List.eq_nil_of_length_eq_zero hl
    subst this; simp [perms]
  | k + 1, p, hl, hn, hr => by
    have hne : p ≠ [] := fun e => by subst e; simp at hl
    obtain ⟨q, y, rfl⟩ : ∃ q y, p = q ++ [y] := ⟨p.dropLast, p.getLast hne, (List.dropLast_concat_getLast hne).symm⟩
    rw [List.nodup_append] at hn
    obtain ⟨hq, -, hd⟩ := hn
    have hy := hr y (by simp)
    rw [perms, List.mem_flatMap]
    refine ⟨q, perms_all (by simpa using hl) hq fun x hx => hr x (by simp [hx]), ?_⟩
    unfold ext
    refine List.mem_map.2 ⟨y.toNat, List.mem_filter.2 ⟨List.mem_range.2 (by omega), ?_⟩, by rw [Int.toNat_of_nonneg hy.1]⟩
    rw [Int.toNat_of_nonneg hy.1]
    simp only [Bool.not_eq_true', List.contains_eq_mem, decide_eq_false_iff_not]
    exact fun hm => hd y hm y (by simp) rfl
theorem perms_iff {n : Nat} (hn : n ≤ 5) {p : List Int} : p ∈ perms n n ↔ IsP n p := by
  constructor
  · intro h
    have := (perms_ok hn).1 p h
    exact (isP_iff (perms_mem h)).1 this
  · intro h
    exact perms_all h.len h.nodup h.range
theorem perms_cnt {n : Nat} (hn : n ≤ 5) : (perms n n).length ≤ 120 := by
  have : n = 0 ∨ n = 1 ∨ n = 2 ∨ n = 3 ∨ n = 4 ∨ n = 5 := by omega
  rcases this with rfl | rfl | rfl | rfl | rfl | rfl <;> decide +kernel
theorem grp_cnt {c : Cls} {n : Nat} (hc : COk n c) (hn : n ≤ 5) (o : Pms) (h : o.Nodup) (hg : ∀ q ∈ o, Gen c n q) : o.length ≤ 120 :=
  Nat.le_trans (len_of_sub h fun q hq => (perms_iff hn).2 ((hg q hq).isP hc)) (perms_cnt hn)
theorem isCls_of {c : Cls} {n : Nat} (hc : COk n c) (h1 : 1 ≤ n) (h8 : n ≤ 8) : isCls c = true := by
  unfold isCls
  simp only [Bool.and_eq_true, decide_eq_true_eq]
  rw [hc.w.len, hc.ch.len]
  exact ⟨⟨⟨h1, h8, rfl⟩, (isPerm_of hc.w).1⟩, (isPerm_of hc.ch).1⟩
/-- The group of a system of at most five classes. -/
theorem grp_ok {c : Cls} (h : isCls c = true) (hn : c.1.length ≤ 5) : ∃ o, grpR c = some o ∧ IsGrp c c.1.length o := by
  have hc := cOk_of h
  obtain ⟨o, ho⟩ := gLoop_some (c := c) (n := c.1.length) (most := 200) (fun o h1 h2 => by have := grp_cnt hc hn o h1 h2; omega) (f := 200 + 2) (GInv.start c _) (Nat.zero_le _) (by omega)
  refine ⟨o, ?_, gLoop_grp (GInv.start c _) ho⟩
  unfold grpR
  rw [if_pos h]; exact ho
theorem relC_cj {n : Nat} {s : List Int} (hs : IsP n s) {c : Cls} (hc : COk n c) : relC c s = cjC s c := by
  unfold relC cjC
  rw [relab_cj hs hc.w, relab_cj hs hc.ch]
theorem lexC_no {a b : Cls} : lexC a b = false ↔ lexB a.1 b.1 = false ∧ (a.1 = b.1 → lexB a.2 b.2 = false) := by
  unfold lexC
  rw [Bool.or_eq_false_iff, Bool.and_eq_false_iff, decide_eq_false_iff_not]
  constructor
  · rintro ⟨h1, h2⟩; exact ⟨h1, fun e => h2.elim (fun h => absurd e h) id⟩
  · rintro ⟨h1, h2⟩
    refine ⟨h1, ?_⟩
    by_cases e : a.1 = b.1
    · exact .inr (h2 e)
    · exact .inl e
theorem lexC_self (a : Cls) : lexC a a = false := lexC_no.2 ⟨lexB_self _, fun _ => lexB_self _⟩
theorem lexC_tri {a b : Cls} (h1 : lexC a b = false) (h2 : lexC b a = false) : a = b := by
  rw [lexC_no] at h1 h2
  have e := lexB_tri _ _ h1.1 h2.1
  exact Prod.ext e (lexB_tri _ _ (h1.2 e) (h2.2 e.symm))
theorem lexC_ntrans {x y z : Cls} (h1 : lexC x y = false) (h2 : lexC y z = false) : lexC x z = false := by
  rw [lexC_no] at *
  have h3 := lexB_trans (a := z.1) (b := y.1) (c := x.1) h2.1 h1.1
  refine ⟨h3, fun e => ?_⟩
  have exy : x.1 = y.1 := lexB_tri _ _ h1.1 (by rw [e]; exact h2.1)
  exact lexB_trans (a := z.2) (b := y.2) (c := x.2) (h2.2 (exy.symm.trans e)) (h1.2 exy)
theorem lexC_asym {a b : Cls} (h : lexC a b = true) : lexC b a = false := by
  cases h2 : lexC b a with
  | false => rfl
  | true =>
    unfold lexC at h h2
    rw [Bool.or_eq_true, Bool.and_eq_true, decide_eq_true_eq] at h h2
    rcases h with h | ⟨e, h⟩
    · have := lexB_asym h
      rcases h2 with h2 | ⟨e2, h2⟩
      · rw [this] at h2; cases h2
      · rw [e2, lexB_self] at h; cases h
    · rcases h2 with h2 | ⟨e2, h2⟩
      · rw [e, lexB_self] at h2; cases h2
      · rw [lexB_asym h] at h2; cases h2
theorem canonGo_min (c : Cls) : ∀ (L : List (List Int)) (b : Cls), (canonGo c L b = b ∨ ∃ p ∈ L, canonGo c L b = relC c p) ∧ lexC b (canonGo c L b) = false ∧ ∀ p ∈ L, lexC (relC c p) (canonGo c L b) = false
  | [], b => ⟨.inl rfl, lexC_self b, fun p h => by cases h⟩
  | p :: L, b => by
    rw [canonGo]
    by_cases h : lexC (relC c p) b = true
    · rw [if_pos h]
      obtain ⟨h1, h2, h3⟩ := canonGo_min c L (relC c p)
      refine ⟨?_, lexC_ntrans (lexC_asym h) h2, fun q hq => ?_⟩
      · rcases h1 with h1 | ⟨q, hq, h1⟩
        · exact .inr ⟨p, by simp, h1⟩
        · exact .inr ⟨q, by simp [hq], h1⟩
      · rcases List.mem_cons.1 hq with rfl | hq
        · exact h2
        · exact h3 q hq
    · rw [if_neg h]
      obtain ⟨h1, h2, h3⟩ := canonGo_min c L b
      refine ⟨?_, h2, fun q hq => ?_⟩
      · rcases h1 with h1 | ⟨q, hq, h1⟩
        · exact .inl h1
        · exact .inr ⟨q, by simp [hq], h1⟩
      · rcases List.mem_cons.1 hq with rfl | hq
        · exact lexC_ntrans (by simpa using h) h2
        · exact h3 q hq
/-- The first form is one of the forms, and none of them comes ahead of it. -/
theorem canonC_min {c : Cls} {n : Nat} (hc : COk n c) (hn : n ≤ 5) : (∃ p, IsP n p ∧ canonC c = cjC p c) ∧ ∀ p, IsP n p → lexC (cjC p c) (canonC c) = false := by
  have hl := hc.w.len
  obtain ⟨h1, h2, h3⟩ := canonGo_min c (perms n n) (relC c (idL n))
  have e : canonC c = canonGo c (perms n n) (relC c (idL n)) := by unfold canonC; rw [hl]
  rw [e]
  refine ⟨?_, fun p hp => by rw [← relC_cj hp hc]; exact h3 p ((perms_iff hn).2 hp)⟩
  rcases h1 with h1 | ⟨p, hp, h1⟩
  · exact ⟨idL n, isP_id n, by rw [h1, relC_cj (isP_id n) hc]⟩
  · have hpp := (perms_iff hn).1 hp
    exact ⟨p, hpp, by rw [h1, relC_cj hpp hc]⟩
theorem cjC_cjC {n : Nat} {s t : List Int} (hs : IsP n s) (ht : IsP n t) {c : Cls} (hc : COk n c) : cjC t (cjC s c) = cjC (comp s t) c := by
  unfold cjC
  rw [cj_cj hs ht hc.w, cj_cj hs ht hc.ch]
theorem canonC_cj {n : Nat} {s : List Int} (hs : IsP n s) {c : Cls} (hc : COk n c) (hn : n ≤ 5) : canonC (cjC s c) = canonC c := by
  obtain ⟨⟨p, hp, e1⟩, m1⟩ := canonC_min hc hn
  obtain ⟨⟨q, hq, e2⟩, m2⟩ := canonC_min (cjC_ok hs hc) hn
  refine lexC_tri ?_ ?_
  · have := m1 (comp s q) (isP_comp hs hq)
    rwa [← cjC_cjC hs hq hc, ← e2] at this
  · have hi := isP_inv hs
    have := m2 (comp (inv s) p) (isP_comp hi hp)
    rw [cjC_cjC hs (isP_comp hi hp) hc, ← asc3 hs hi, comp_inv hs, id_comp hp, ← e1] at this
    exact this
theorem noFix_iff : ∀ (xs : List Int) (k : Nat), noFix k xs = true ↔ ∀ (i : Nat) (x : Int), xs[i]? = some x → x ≠ ((k + i : Nat) : Int)
  | [], k => by simp [noFix]
  | x :: xs, k => by
    by_cases h : x = k
    · rw [noFix_no h]
      constructor
      · intro h2; cases h2
      · intro h2; exact absurd (by simpa using h) (h2 0 x rfl)
    · rw [noFix_yes h, noFix_iff xs (k + 1)]
      constructor
      · intro h2 i y hy
        match i, hy with
        | 0, hy => simp at hy; subst hy; simpa using h
        | i + 1, hy => have := h2 i y (by simpa using hy); rwa [show k + (i + 1) = k + 1 + i by omega]
      · intro h2 i y hy
        have := h2 (i + 1) y (by simpa using hy)
        rwa [show k + (i + 1) = k + 1 + i by omega] at this
theorem noFix_cj {n : Nat} {s : List Int} (hs : IsP n s) {q : List Int} (hq : IsP n q) (h : noFix 0 q = true) : noFix 0 (cj s q) = true := by
  rw [noFix_iff] at *
  intro x z hz
  obtain ⟨hsp, hsl⟩ := isPerm_of hs
  have hx : x < n := by have := (List.getElem?_eq_some_iff.1 hz).1; rw [(cj_isP hs hq).len] at this; exact this
  obtain ⟨i, a, ha, e, hi⟩ := isPerm_onto hsp (i := x) (by omega)
  have har := hs.range a (List.mem_of_getElem? ha)
  obtain rfl : a = (x : Int) := by omega
  obtain ⟨y, hy⟩ : ∃ y, q[i]? = some y := ⟨_, List.getElem?_eq_getElem (by rw [hq.len]; omega)⟩
  have hyr := hq.range y (List.mem_of_getElem? hy)
  obtain ⟨z', hz'⟩ : ∃ z, s[y.toNat]? = some z := ⟨_, List.getElem?_eq_getElem (by omega)⟩
  rw [cj_at hs ha hy hz'] at hz
  obtain rfl := Option.some.inj hz
  intro e2
  have hne := h i y hy
  -- s is one to one
  have h3 : s[y.toNat]? = s[i]? := by rw [hz', ha, e2]; simp
  have h4 := (List.getElem?_inj (by omega) hs.nodup).1 h3
  omega
theorem cj_back {n : Nat} {s : List Int} (hs : IsP n s) {q : List Int} (hq : IsP n q) : cj (inv s) (cj s q) = q := by
  rw [cj_cj hs (isP_inv hs) hq, comp_inv hs]
  unfold cj
  have hi := isP_inv (isP_id n)
  have e : inv (idL n) = idL n := (inv_uniq (isP_id n) (isP_id n) (comp_id (isP_id n))).symm
  rw [e, id_comp hq, comp_id hq]
theorem forb_cj {n : Nat} {s : List Int} (hs : IsP n s) {c : Cls} (hc : COk n c) (h1 : 1 ≤ n) (h8 : n ≤ 8) : forb (cjC s c) = forb c := by
  unfold forb
  rw [isCls_of hc h1 h8, isCls_of (cjC_ok hs hc) h1 h8]
  show noFix 0 (cj s c.1) = noFix 0 c.1
  apply Bool.eq_iff_iff.2
  constructor
  · intro h
    have := noFix_cj (isP_inv hs) (cj_isP hs hc.w) h
    rwa [cj_back hs hc.w] at this
  · exact noFix_cj hs hc.w
theorem isReg_cj {n : Nat} {s : List Int} (hs : IsP n s) {c : Cls} (hc : COk n c) (h1 : 1 ≤ n) (h8 : n ≤ 8) : isReg (cjC s c) = isReg c := by
  have hl := hc.w.len
  have hl2 : (cjC s c).1.length = n := (cjC_ok hs hc).w.len
  unfold isReg
  rw [isCls_of hc h1 h8, isCls_of (cjC_ok hs hc) h1 h8, hl, hl2, gLoop_cj1 hs hc]
  show isRegR n _ = isRegR n _
  cases hg : gLoop c n (n + 2) 0 [idL n] with
  | none => rfl
  | some o =>
    have ho : ∀ q ∈ o, IsP n q := fun q hq => ((gLoop_grp (GInv.start c n) hg).gen q hq).isP hc
    show (decide ((o.map (cj s)).length = n) && regTo (lsrt (o.map (cj s))) n) = (decide (o.length = n) && regTo (lsrt o) n)
    rw [List.length_map]
    by_cases hn : o.length = n
    · rw [regTo_cj hs (l := lsrt o) (fun q hq => ho q (lsrt_mem.1 hq)) (by rw [lsrt_len]; exact hn) ((lsrt_perm _).trans ((lsrt_perm o).symm.map _))]
    · rw [decide_eq_false hn]; rfl

end

end Go.Proofs.Ytlnhhfebmeekhaa
