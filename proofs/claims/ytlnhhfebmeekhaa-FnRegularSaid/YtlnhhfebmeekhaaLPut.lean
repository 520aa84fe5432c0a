/- Contract of l6Put: a list in its place. -/
import Derived.Test.YtlnhhfebmeekhaaZ10D
import Derived.Test.YtlnhhfebmeekhaaRds
namespace Go.Proofs.Ytlnhhfebmeekhaa
set_option linter.unusedVariables false
set_option linter.unusedSimpArgs false
open Go.RowKit

def lput (s : Pms) (p : List Int) : Pms := if p ∈ s then s else lins p s
def lpre (p : List Int) (l : Pms) : Pms := if (l.any fun q => lexB p q) = true then lins p l else l
theorem lins_snoc (p q : List Int) : ∀ l : Pms, lins p (l ++ [q]) = if (l.any fun q => lexB p q) = true then lins p l ++ [q] else if lexB p q = true then l ++ [p, q] else l ++ [q, p]
  | [] => by simp [lins]
  | x :: l => by
    rw [List.cons_append, lins, lins]
    by_cases hx : lexB p x = true
    · simp [hx]
    · rw [if_neg hx, if_neg hx, lins_snoc p q l]
      simp only [List.any_cons, Bool.eq_false_iff.2 hx, Bool.false_or]
      split
      · rfl
      · split <;> rfl
theorem lins_none {p : List Int} : ∀ {l : Pms}, (l.any fun q => lexB p q) = false → lins p l = l ++ [p]
  | [], _ => rfl
  | x :: l, h => by
    simp only [List.any_cons, Bool.or_eq_false_iff] at h
    rw [lins, if_neg (by simp [h.1]), lins_none h.2]
    rfl
theorem lpre_len (p : List Int) (l : Pms) : (lpre p l).length ≤ l.length + 1 := by
  unfold lpre
  split
  · exact Nat.le_of_eq (lins_perm p l).length_eq
  · omega
theorem lpre_on {p x : List Int} {l : Pms} (h : (l.any fun q => lexB p q) = true) : lpre p (l ++ [x]) = lpre p l ++ [x] := by
  unfold lpre
  rw [if_pos h, if_pos (by simp [h]), lins_snoc, if_pos h]
theorem lpre_in {p x : List Int} {l : Pms} (h : (l.any fun q => lexB p q) = false) (hx : lexB p x = true) : lpre p (l ++ [x]) = (lpre p l ++ [p]) ++ [x] := by
  have h2 : ((l ++ [x]).any fun q => lexB p q) = true := by rw [List.any_append]; simp [hx]
  rw [show lpre p (l ++ [x]) = lins p (l ++ [x]) from if_pos h2, show lpre p l = l from if_neg (by rw [h]; simp), lins_snoc, if_neg (by rw [h]; simp), if_pos hx]
  simp
theorem lpre_off {p x : List Int} {l : Pms} (h : (l.any fun q => lexB p q) = false) (hx : lexB p x = false) : lpre p (l ++ [x]) = lpre p l ++ [x] := by
  have h2 : ((l ++ [x]).any fun q => lexB p q) = false := by rw [List.any_append, h]; simp [hx]
  rw [show lpre p (l ++ [x]) = l ++ [x] from if_neg (by rw [h2]; simp), show lpre p l = l from if_neg (by rw [h]; simp)]
theorem Rd.all0 {α : Type} [Rep α] {z : Bool} {lo hi : Nat} {w : World} {cs : List Value} {x : α} (h : Rd z lo hi w cs x) : Rd z 0 w.heap.size w cs x := by
  obtain ⟨fp, h1, h2⟩ := h
  exact ⟨fp, h1, fun b hb => ⟨Nat.zero_le _, Rep.lt h1 b hb⟩⟩

/-- One value comes back that takes of memory what S lets, or what is new. -/
def PostRds {α : Type} [Rep α] (S : Nat → Prop) (w : World) (x : α) (e : Ending) (w' : World) : Prop := ∃ u, e = .returned u ∧ RdS (fun b => S b ∨ w.heap.size ≤ b) w' [u] x ∧ Below w.heap.size w w'
set_option maxRecDepth 20000 in
set_option maxHeartbeats 4000000 in
theorem l6Put_any (S : Nat → Prop) (w : World) (u v : Value) (s : Pms) (p : List Int) (h : RdS S w [u] s) (h' : RdS S w [v] p) (hl : s.length ≤ 1048576) :
    Calls Try.prog 101 #[u, v] w (PostRds S w (lput s p)) := by
  obtain ⟨ao, n, cap, rfl, hn, -⟩ := h.rd.shape
  subst hn
  obtain ⟨aop, np, capp, rfl, hnp0, -⟩ := h'.rd.shape
  subst hnp0
  have HP := Lib.hid h
  have HQ := Lib.hid h'
  clear h h'
  go_enter Try.func101, Try.ntmps101
  go_wp2
  go_loopw [4, 5, 6, 8, 12] (fun _ o d _ i wr => ∃ k : Nat, k ≤ s.length ∧ i = .int .i64 k ∧ d = .bool ((s.take k).any fun q => lexB p q) ∧ Hid (p ∉ s.take k) ∧ Hid (GR S w.heap.size wr 28 o (lpre p (s.take k))) ∧ Below w.heap.size w wr) (fun _ _ _ _ i _ => s.length - (intOf i).toNat)
  case atStart => exact ⟨0, Nat.zero_le _, rfl, rfl, Lib.hid (by simp), GR.lit0 _ _ _ _ (Nat.le_refl _), (Below.refl _ _).alloc (Nat.le_refl _) _⟩
  case round =>
    obtain ⟨k, hk, rfl, rfl, hnp, hG, hb⟩ := hrel
    have sW := hb.size
    have HLN := Lib.hid (lpre_len p (s.take k))
    have hlt0 : (s.take k).length = k := by rw [List.length_take]; omega
    obtain ⟨d, hd⟩ : ∃ d, d = ((s.take k).any fun q => lexB p q) := ⟨_, rfl⟩
    have HD := Lib.hid hd
    rw [← hd]
    clear hd
    by_cases hlt : k < s.length
    · have hI : (k : Int) < (s.length : Int) := by omega
      obtain ⟨b, off, x, vx, rfl, hx, hc0, hrx, hbl⟩ := HP.out.list_at hlt
      have hc := oldc hb hbl hc0
      obtain ⟨aox, nx, capx, rfl, hnx0, -⟩ := hrx.rd.shape
      subst hnx0
      have HX := Lib.hid hrx
      have HS := Lib.hid (take_snoc hx.out)
      clear hrx hc0
      obtain ⟨r1, hlet_r1⟩ : ∃ r, r = decide (p = x) := ⟨_, rfl⟩
      have H1 := Lib.hid hlet_r1
      clear hlet_r1
      go_wp2_with (go_at_call 103; refine (l6Equal_b _ _ _ p x (HQ.out.rd.below bwT) (HX.out.rd.below bwT) r1 H1.out).mono ?_)
      rintro e w1 ⟨rfl, hb1⟩
      have hB1 : Below w.heap.size w w1 := Below.after bwT hb1 sW
      cases r1
      · have HN := Lib.hid (show p ∉ s.take (k + 1) by
          rw [HS.out]
          simp only [List.mem_append, List.mem_singleton, not_or]
          exact ⟨hnp.out, of_decide_eq_false H1.out.symm⟩)
        have HG := Lib.hid (hG.out.below (bwT : Below wr.heap.size wr w1))
        have s1 := hB1.size
        clear hG hnp
        cases d
        · obtain ⟨r2, hlet_r2⟩ : ∃ r, r = lexB p x := ⟨_, rfl⟩
          have H2 := Lib.hid hlet_r2
          clear hlet_r2
          go_wp2_with (go_at_call 102; refine (l6Less_b _ _ _ p x (HQ.out.rd.below bwT) (HX.out.rd.below bwT) r2 H2.out).mono ?_)
          rintro e w2 ⟨rfl, hb2⟩
          have hB2 : Below w.heap.size w w2 := Below.after bwT hb2 s1
          have s2 := hB2.size
          have HG2 := Lib.hid (HG.out.below hb2)
          clear HG
          cases r2
          · skip
            go_wp2_with (at_builtin; refine wpList_push_r rfl rfl slInts (by show (0 : Nat) < 1; omega) (HG2.out.alloc _) rfl (ad := ⟨w2.heap.size, 0, none⟩) rfl (cs := [.slice aox x.length capx]) (y := x) ?c1 (w0 := w) HX.out bwT (Nat.le_refl _) (by have := HLN.out; (try simp only [List.length_append, List.length_singleton]); unfold maxLen; omega) (by have := HLN.out; (try simp only [List.length_append, List.length_singleton]); omega) ?c2 ?_)
            case c1 =>
              intro j c hj
              match j, hj with
              | 0, hj => simp at hj; subst hj; simp [Addr.add]
            case c2 => simp; omega
            intro v4 w4 hG4 hb4
            have HG4 := Lib.hid hG4
            have hB4 : Below w.heap.size w w4 := Below.trans bwT hb4
            have s4 := hB4.size
            clear HG2 hG4 hb4
            go_wp2
            go_roundw
            case rel => exact ⟨k + 1, by omega, by go_num, by rw [HS.out, List.any_append, ← HD.out]; simp [← H2.out], HN, Lib.hid (by rw [HS.out, lpre_off HD.out.symm H2.out.symm]; exact HG4.out), hB4⟩
            case measure => simp [intOf]; omega
          · skip
            go_wp2_with (at_builtin; refine wpList_push_r rfl rfl slInts (by show (0 : Nat) < 1; omega) (HG2.out.alloc _) rfl (ad := ⟨w2.heap.size, 0, none⟩) rfl (cs := [.slice aop p.length capp]) (y := p) ?c1 (w0 := w) HQ.out bwT (Nat.le_refl _) (by have := HLN.out; (try simp only [List.length_append, List.length_singleton]); unfold maxLen; omega) (by have := HLN.out; (try simp only [List.length_append, List.length_singleton]); omega) ?c2 ?_)
            case c1 =>
              intro j c hj
              match j, hj with
              | 0, hj => simp at hj; subst hj; simp [Addr.add]
            case c2 => simp; omega
            intro v3 w3 hG3 hb3
            have HG3 := Lib.hid hG3
            have hB3 : Below w.heap.size w w3 := Below.trans bwT hb3
            have s3 := hB3.size
            clear HG2 hG3 hb3
            go_wp2_with (at_builtin; refine wpList_push_r rfl rfl slInts (by show (0 : Nat) < 1; omega) (HG3.out.alloc _) rfl (ad := ⟨w3.heap.size, 0, none⟩) rfl (cs := [.slice aox x.length capx]) (y := x) ?c1 (w0 := w) HX.out bwT (Nat.le_refl _) (by have := HLN.out; (try simp only [List.length_append, List.length_singleton]); unfold maxLen; omega) (by have := HLN.out; (try simp only [List.length_append, List.length_singleton]); omega) ?c2 ?_)
            case c1 =>
              intro j c hj
              match j, hj with
              | 0, hj => simp at hj; subst hj; simp [Addr.add]
            case c2 => simp; omega
            intro v4 w4 hG4 hb4
            have HG4 := Lib.hid hG4
            have hB4 : Below w.heap.size w w4 := Below.trans bwT hb4
            have s4 := hB4.size
            clear HG3 hG4 hb4
            go_wp2
            go_roundw
            case rel => exact ⟨k + 1, by omega, by go_num, by rw [HS.out, List.any_append, ← HD.out]; simp [← H2.out], HN, Lib.hid (by rw [HS.out, lpre_in HD.out.symm H2.out.symm, List.append_assoc]; exact HG4.out), hB4⟩
            case measure => simp [intOf]; omega
        · skip
          go_wp2_with (at_builtin; refine wpList_push_r rfl rfl slInts (by show (0 : Nat) < 1; omega) (HG.out.alloc _) rfl (ad := ⟨w1.heap.size, 0, none⟩) rfl (cs := [.slice aox x.length capx]) (y := x) ?c1 (w0 := w) HX.out bwT (Nat.le_refl _) (by have := HLN.out; (try simp only [List.length_append, List.length_singleton]); unfold maxLen; omega) (by have := HLN.out; (try simp only [List.length_append, List.length_singleton]); omega) ?c2 ?_)
          case c1 =>
            intro j c hj
            match j, hj with
            | 0, hj => simp at hj; subst hj; simp [Addr.add]
          case c2 => simp; omega
          intro v4 w4 hG4 hb4
          have HG4 := Lib.hid hG4
          have hB4 : Below w.heap.size w w4 := Below.trans bwT hb4
          have s4 := hB4.size
          clear HG hG4 hb4
          go_wp2
          go_roundw
          case rel => exact ⟨k + 1, by omega, by go_num, by rw [HS.out, List.any_append, ← HD.out]; simp, HN, Lib.hid (by rw [HS.out, lpre_on HD.out.symm]; exact HG4.out), hB4⟩
          case measure => simp [intOf]; omega
      · have HE := Lib.hid (show lput s p = s by
          unfold lput
          rw [if_pos]
          have := of_decide_eq_true H1.out.symm
          subst this
          exact List.mem_of_getElem? hx.out)
        clear hG hnp HD
        go_wp2
        go_ret
        refine ⟨_, rfl, ?_, hB1⟩
        rw [HE.out]
        exact (HP.out.below hB1).mono fun _ _ h => .inl h
    · have nI : ¬ (k : Int) < (s.length : Int) := by omega
      have hks : s.take k = s := List.take_of_length_le (by omega)
      have HE := Lib.hid (show lput s p = lins p s by unfold lput; rw [if_neg]; have := hnp.out; rwa [hks] at this)
      have HL := Lib.hid (show lpre p (s.take k) = if d = true then lins p s else s by rw [HD.out]; unfold lpre; rw [hks])
      have HN := Lib.hid (show d = false → lins p s = s ++ [p] by intro e; refine lins_none ?_; have := HD.out; rw [hks] at this; rw [← this, e])
      clear hnp HP HD hks
      cases d
      · have HN := Lib.hid (HN.out rfl)
        go_wp2_with (at_builtin; refine wpList_push_r rfl rfl slInts (by show (0 : Nat) < 1; omega) (hG.out.alloc _) rfl (ad := ⟨wr.heap.size, 0, none⟩) rfl (cs := [.slice aop p.length capp]) (y := p) ?c1 (w0 := w) HQ.out bwT (Nat.le_refl _) (by have := HLN.out; (try simp only [List.length_append, List.length_singleton]); unfold maxLen; omega) (by have := HLN.out; (try simp only [List.length_append, List.length_singleton]); omega) ?c2 ?_)
        case c2 => first | omega | (simp; omega)
        intro v4 w4 hG4 hb4
        have HG4 := Lib.hid hG4
        have hB4 : Below w.heap.size w w4 := Below.trans bwT hb4
        have s4 := hB4.size
        clear hG hG4 hb4
        go_wp2
        go_ret
        refine ⟨_, rfl, ?_, hB4⟩
        rw [HE.out, HN.out]
        have := HG4.out
        rw [HL.out] at this
        exact this.rds
        all_goals trivial
      · go_wp2
        go_ret
        refine ⟨_, rfl, ?_, hb⟩
        rw [HE.out]
        have := hG.out
        rw [HL.out] at this
        exact this.rds
end Go.Proofs.Ytlnhhfebmeekhaa
