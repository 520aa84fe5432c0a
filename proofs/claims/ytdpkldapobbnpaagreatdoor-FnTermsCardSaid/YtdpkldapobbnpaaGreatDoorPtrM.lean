/- Texts laid one behind the other (merge.py): PrsI, PrsI2, Inv, Ptr, Gx, Twx, PtrI. -/
import Derived.Test.YtdpkldapobbnpaaGreatDoorPrsS2
import Derived.Test.YtdpkldapobbnpaaGreatDoorShfS
import Derived.Test.YtdpkldapobbnpaaGreatDoorPrsS3
import Derived.Test.YtdpkldapobbnpaaGreatDoorPrs
import Derived.Lib.Split
import Derived.Test.YtdpkldapobbnpaaGreatDoorRds
import Derived.Test.YtdpkldapobbnpaaGreatDoorDEntry
import Derived.Test.YtdpkldapobbnpaaGreatDoorRulM
import Derived.Test.YtdpkldapobbnpaaGreatDoorFrmW
import Derived.Test.YtdpkldapobbnpaaGreatDoorTrmB
import Derived.Test.YtdpkldapobbnpaaGreatDoorLits
import Derived.Lib.SplitLaws
namespace Go.Proofs.YtdpkldapobbnpaaGreatDoor
set_option linter.unusedVariables false
set_option linter.unusedSimpArgs false
open Go.RowKit
section
def PostQ (w : World) (v : Value) (e : Ending) (w' : World) : Prop := e = .returned v ∧ w' = w
def PostLB {α : Type} [Rep α] (w : World) (x : α) (b : Bool) (e : Ending) (w' : World) : Prop :=
 ∃ u, e = .returned (.tuple #[u, .bool b]) ∧ Ow w.heap.size w'.heap.size w' [u] x ∧ Below w.heap.size w w'
theorem cutPre_any (w : World) (s p r : ByteArray) (b : Bool) (hr : r = txt (Lib.trimPrefix s.data.toList p.data.toList)) (hb : b = Lib.hasPrefix s.data.toList p.data.toList) :
  Calls Tryz.prog 24 #[.string s, .string p] w (PostQ w (.tuple #[.string r, .bool b])) := by
 subst hr hb
 exact Any.strings_CutPrefix lyPre s p w
theorem cutSuf_any (w : World) (s p r : ByteArray) (hs : s.size ≤ maxLen) (b : Bool) (hr : r = txt (Lib.trimSuffix s.data.toList p.data.toList)) (hb : b = Lib.hasSuffix s.data.toList p.data.toList) :
  Calls Tryz.prog 63 #[.string s, .string p] w (PostQ w (.tuple #[.string r, .bool b])) := by
 subst hr hb
 unfold maxLen at hs
 exact Any.strings_CutSuffix lySuf s p w (by omega)
theorem cut_any (w : World) (m : Int) (hm : w.cell? ⟨0, 0, none⟩ = some (.int .i64 m)) (s p a b : ByteArray) (hs : s.size ≤ 1048576) (c : Bool) (ha : a = txt (Lib.cut s.data.toList p.data.toList).1) (hb : b = txt (Lib.cut s.data.toList p.data.toList).2.1) (hc : c = (Lib.cut s.data.toList p.data.toList).2.2) :
  Calls Tryz.prog 26 #[.string s, .string p] w (PostV w (.tuple #[.string a, .string b, .bool c])) := by
 subst ha hb hc
 refine (Any.strings_Cut { lyCut with } s p m w (by omega) hm).mono ?_
 rintro e w' ⟨rfl, n, rfl⟩
 exact ⟨rfl, below_drewN (Below.refl _ _) n⟩
theorem idx_any (w : World) (c : UInt8) (ci k : Int) (hc : ci = (c.toNat : Int)) (hk : k + 1 = knd c) :
  Calls Tryz.prog 106 #[.string ⟨#[70, 77, 66, 90, 83, 68, 72, 87]⟩, .int .u8 ci] w (PostQ w (.int .i64 k)) := by
 refine (Any.strings_IndexByte lyIdx ⟨#[70, 77, 66, 90, 83, 68, 72, 87]⟩ ci w).mono ?_
 rintro e w' ⟨rfl, rfl⟩
 subst hc
 have : k = Lib.indexByte lts c := by unfold knd at hk; omega
 subst this
 refine ⟨?_, rfl⟩
 simp [lts]
set_option maxRecDepth 20000 in
set_option maxHeartbeats 4000000 in
theorem cutEgoI_any (w : World) (s : ByteArray) (e : Int) (r : ByteArray) (he : e = (cutE s.data.toList).1) (hr : r = txt (cutE s.data.toList).2) :
  Calls Tryz.prog 62 #[.string s] w (PostV w (.tuple #[.int .i64 e, .string r])) := by
 have HE := Lib.hid he
 have HR := Lib.hid hr
 obtain ⟨b1, hlet_b1⟩ : ∃ r, r = Lib.hasPrefix s.data.toList [109, 58] := ⟨_, rfl⟩
 have H1 := Lib.hid hlet_b1
 clear hlet_b1
 obtain ⟨b2, hlet_b2⟩ : ∃ r, r = Lib.hasPrefix s.data.toList [119, 58] := ⟨_, rfl⟩
 have H2 := Lib.hid hlet_b2
 clear hlet_b2
 obtain ⟨X1, hX1⟩ : ∃ X, X = egoTxt 1 := ⟨_, rfl⟩
 obtain ⟨X2, hX2⟩ : ∃ X, X = egoTxt 2 := ⟨_, rfl⟩
 obtain ⟨r1, hr1⟩ : ∃ r, r = txt (Lib.trimPrefix s.data.toList X1.data.toList) := ⟨_, rfl⟩
 obtain ⟨r2, hr2⟩ : ∃ r, r = txt (Lib.trimPrefix s.data.toList X2.data.toList) := ⟨_, rfl⟩
 have HB1 := Lib.hid (show b1 = Lib.hasPrefix s.data.toList X1.data.toList by rw [H1.out, hX1]; rfl)
 have HB2 := Lib.hid (show b2 = Lib.hasPrefix s.data.toList X2.data.toList by rw [H2.out, hX2]; rfl)
 have HT1 := Lib.hid (show b1 = true → r1 = txt (s.data.toList.drop 2) by intro h; rw [hr1, Lib.trimPrefix, ← HB1.out, h, hX1]; rfl)
 have HT2 := Lib.hid (show b2 = true → r2 = txt (s.data.toList.drop 2) by intro h; rw [hr2, Lib.trimPrefix, ← HB2.out, h, hX2]; rfl)
 have HX1 := Lib.hid hX1
 have HX2 := Lib.hid hX2
 have HR1 := Lib.hid hr1
 have HR2 := Lib.hid hr2
 clear he hr hX1 hX2 hr1 hr2
 go_enter Tryz.func62, Tryz.ntmps62
 go_wp2
 go_loopw [4, 5, 6] (fun s4 _ _ wr => ∃ k : Int, (k = 1 ∨ k = 2 ∨ k = 3) ∧ s4 = .int .i64 k ∧ Hid (1 < k → b1 = false) ∧ Hid (2 < k → b2 = false) ∧ Below w.heap.size w wr) (fun s4 _ _ _ => (4 - intOf s4).toNat)
 case atStart => exact ⟨1, .inl rfl, rfl, Lib.hid (fun h => absurd h (by decide)), Lib.hid (fun h => absurd h (by decide)), Below.refl _ _⟩
 case round =>
  obtain ⟨wb, hwb⟩ : ∃ wm : World, wm = wr := ⟨_, rfl⟩
  subst hwb
  obtain ⟨k, hk, rfl, hk1, hk2, hbb⟩ := hrel
  have sB := hbb.size
  rcases hk with rfl | rfl | rfl
  ·clear hk1 hk2
   go_wp2_with fail
   refine (prefixI_any _ 1 (by omega) X1 HX1.out).mono ?_
   rintro e1 w1 ⟨rfl, hb1⟩
   have hB1 : Below w.heap.size w w1 := Below.after hbb hb1 sB
   go_wp2_with fail
   refine (cutPre_any _ s X1 r1 b1 HR1.out HB1.out).mono ?_
   rintro e2 w2 ⟨rfl, rfl⟩
   cases b1
   ·go_wp2
    go_roundw
    case rel => exact ⟨2, .inr (.inl rfl), rfl, Lib.hid (fun _ => by first | trivial | rfl), Lib.hid (fun h => absurd h (by decide)), hB1⟩
    case measure => simp [intOf]
   ·obtain rfl : e = 1 := by rw [HE.out, cutE, ← H1.out]; rfl
    obtain rfl : r = r1 := by rw [HR.out, HT1.out rfl, cutE, ← H1.out]; rfl
    go_wp2
    go_ret2
    exact ⟨rfl, hB1⟩
  ·obtain rfl : b1 = false := hk1.out (by decide)
   clear hk1 hk2
   go_wp2_with fail
   refine (prefixI_any _ 2 (by omega) X2 HX2.out).mono ?_
   rintro e1 w1 ⟨rfl, hb1⟩
   have hB1 : Below w.heap.size w w1 := Below.after hbb hb1 sB
   go_wp2_with fail
   refine (cutPre_any _ s X2 r2 b2 HR2.out HB2.out).mono ?_
   rintro e2 w2 ⟨rfl, rfl⟩
   cases b2
   ·go_wp2
    go_roundw
    case rel => exact ⟨3, .inr (.inr rfl), rfl, Lib.hid (fun _ => by first | trivial | rfl), Lib.hid (fun _ => by first | trivial | rfl), hB1⟩
    case measure => simp [intOf]
   ·obtain rfl : e = 2 := by rw [HE.out, cutE, ← H1.out, ← H2.out]; rfl
    obtain rfl : r = r2 := by rw [HR.out, HT2.out rfl, cutE, ← H1.out, ← H2.out]; rfl
    go_wp2
    go_ret2
    exact ⟨rfl, hB1⟩
  ·obtain rfl : b1 = false := hk1.out (by decide)
   obtain rfl : b2 = false := hk2.out (by decide)
   obtain rfl : e = 0 := by rw [HE.out, cutE, ← H1.out, ← H2.out]; rfl
   obtain rfl : r = s := by rw [HR.out, cutE, ← H1.out, ← H2.out]; exact txt_list _
   clear hk1 hk2
   go_wp2
   go_ret2
   exact ⟨rfl, hbb⟩
theorem drop_at {l : Bs} {i : Nat} {c : UInt8} (h : l[i]? = some c) : l.drop i = c :: l.drop (i + 1) := drop_cons h
theorem readI_age {l : Bs} {i : Nat} {c d : UInt8} (hc : l[i]? = some c) (h : c = 101 ∨ c = 121) (hd : l[i + 1]? = some d) : readI (l.drop i) = if knd d = 0 then none else (readI (l.drop (i + 2))).map ((knd d, if c = 101 then 1 else 2) :: ·) := by
 rw [drop_at hc, drop_at hd, readI, if_pos h]
theorem readI_age_end {l : Bs} {i : Nat} {c : UInt8} (hc : l[i]? = some c) (h : c = 101 ∨ c = 121) (hd : l.length ≤ i + 1) : readI (l.drop i) = none := by
 rw [drop_at hc, List.drop_eq_nil_of_le hd, readI, if_pos h]
theorem readI_one {l : Bs} {i : Nat} {c : UInt8} (hc : l[i]? = some c) (h : ¬ (c = 101 ∨ c = 121)) : readI (l.drop i) = if knd c = 0 then none else (readI (l.drop (i + 1))).map ((knd c, 0) :: ·) := by
 rw [drop_at hc]
 match l.drop (i + 1) with
 | [] => simp [readI, h]
 | d :: r => rw [readI, if_neg h]
set_option maxRecDepth 20000 in
set_option maxHeartbeats 16000000 in
theorem readI_any (w : World) (s : ByteArray) (hs : s.size ≤ 1099511627776) (O : Option (List Stp)) (hO : O = readI s.data.toList) :
  Calls Tryz.prog 64 #[.string s] w (PostLB w (O.getD []) O.isSome) := by
 have HO := Lib.hid (show (readI (s.data.toList.drop 0)).map (([] : List Stp) ++ ·) = O by rw [hO, List.drop_zero]; cases readI s.data.toList <;> simp)
 clear hO
 go_enter Tryz.func64, Tryz.ntmps64
 go_wp2
 go_loopw [4, 5, 6] (fun s4 s5 _ wr => ∃ (i : Nat) (P : List Stp), i ≤ s.size ∧ P.length ≤ i ∧ s5 = .int .i64 i ∧ Hid ((readI (s.data.toList.drop i)).map (P ++ ·) = O) ∧ Hid (GL true w.heap.size w.heap.size wr.heap.size wr 106 s4 P) ∧ Below w.heap.size w wr) (fun _ s5 _ _ => s.size - (intOf s5).toNat)
 case atStart => exact ⟨0, [], Nat.zero_le _, Nat.le_refl _, rfl, HO, Lib.hid (GL.start _ _ _ _ _ _), Below.refl _ _⟩
 case round =>
  obtain ⟨wb, hwb⟩ : ∃ wm : World, wm = wr := ⟨_, rfl⟩
  subst hwb
  obtain ⟨i, P, hi, hP, rfl, hT, hG, hbb⟩ := hrel
  have sB := hbb.size
  obtain ⟨pao, pcap, rfl, -, -⟩ := hG.out.len
  by_cases hlt : i < s.size
  rotate_left
  ·have hI : ¬ (i : Int) < (s.size : Int) := by omega
   obtain rfl : O = some P := by
    rw [← hT.out, show s.data.toList.drop i = [] from List.drop_eq_nil_of_le (by rw [← Lib.size_eq]; omega), readI]; simp
   have HOW := Lib.hid (hG.out.ow (l0 := w.heap.size) (Nat.le_refl _) (Nat.le_refl _))
   clear hT hG
   go_wp2
   go_ret2
   exact ⟨_, rfl, HOW.out, hbb⟩
  have hI : (i : Int) < (s.size : Int) := by omega
  have hc := byte_at s hlt
  obtain ⟨c, hcc⟩ : ∃ c, c = s[i]'hlt := ⟨_, rfl⟩
  rw [← hcc] at hc
  by_cases c1 : c = 101
  ·have k1 : (((s[i]'hlt).toNat : Int) == 101) = true := by rw [← hcc, c1]; rfl
   by_cases hl2 : i + 1 < s.size
   rotate_left
   ·obtain rfl : O = none := by rw [← hT.out, readI_age_end hc (.inl c1) (by rw [← Lib.size_eq]; omega)]; rfl
    have hE : ((i : Int) + 1 == (s.size : Int)) = true := by rw [beq_iff_eq]; omega
    clear hT hG hc hcc c1 
    go_wp2
    go_ret2
    exact ⟨_, rfl, Ow.nil _ _ _, bwT⟩
   have hI2 : (i : Int) + 1 < (s.size : Int) := by omega
   have hE : ((i : Int) + 1 == (s.size : Int)) = false := by rw [beq_eq_false_iff_ne]; omega
   have hd := byte_at s hl2
   obtain ⟨d, hdd⟩ : ∃ d, d = s[i + 1]'hl2 := ⟨_, rfl⟩
   rw [← hdd] at hd
   have HN := Lib.hid (readI_age hc (.inl c1) hd)
   rw [show (if c = 101 then (1 : Int) else 2) = 1 from if_pos c1] at HN
   obtain ⟨kk, hkk⟩ : ∃ kk : Int, kk + 1 = knd d := ⟨knd d - 1, by omega⟩
   have hkr := knd_range d
   rw [← hkk] at HN hkr
   have HKK := Lib.hid hkk
   have HDD := Lib.hid (show ((s[i + 1]'hl2).toNat : Int) = (d.toNat : Int) by rw [← hdd])
   clear hkk hdd hc hcc hd c1
   go_wp2_with fail
   refine (idx_any _ d _ kk HDD.out HKK.out).mono ?_
   rintro e2 w2 ⟨rfl, rfl⟩
   by_cases hz : kk + 1 = 0
   ·have hz1 : (kk + 1 == 0) = true := by simp [hz]
    obtain rfl : O = none := by rw [← hT.out, HN.out, if_pos hz]; rfl
    clear hT HN hG
    go_wp2
    go_ret2
    exact ⟨_, rfl, Ow.nil _ _ _, bwT⟩
   have hz1 : (kk + 1 == 0) = false := by simp [hz]
   have HT2 := Lib.hid (show (readI (s.data.toList.drop (i + 2))).map ((P ++ [(kk + 1, 1)]) ++ ·) = O by
    rw [← hT.out, HN.out, if_neg hz]
    cases readI (s.data.toList.drop (i + 2)) <;> simp)
   clear hT HN hz
   go_wp2_with (at_builtin; refine wpList_push rfl rfl slStep (by show (0 : Nat) < 2; omega) (hG.out.below ?b1x2).top rfl (ad := ⟨wb.heap.size + 1, 0, none⟩) rfl (cs := [.int .i64 (kk + 1), .int .i64 1]) (y := (kk + 1, 1)) (lx := wb.heap.size + 2) (hx' := wb.heap.size + 2) ?c1x2 (It.flat (z := true) (w0 := wb) (fp := []) (repStp_mk (by unfold I64; omega) (by unfold I64; omega))) ?c4x2 (.inl ?c5x2) (by unfold maxLen; omega) (by omega) ?c2x2 ?_)
   case b1x2 => exact bwT
   case c1x2 =>
    intro j c hj
    match j, hj with
    | 0, hj => simp at hj; subst hj; simp [Addr.add, go_sem]
    | 1, hj => simp at hj; subst hj; simp [Addr.add, go_sem]
   case c4x2 => omega
   case c5x2 => simp
   case c2x2 => simp; omega
   intro v' w1 hG1 _ hb1
   have HG := Lib.hid hG1
   have hB1 : Below w.heap.size w w1 := Below.trans (show Below w.heap.size w _ from bwT) hb1
   have hPl : (P ++ [(kk + 1, 1)]).length ≤ i + 2 := by simp; omega
   clear hG hG1 hb1
   go_wp2
   go_roundw
   case rel => exact ⟨i + 2, P ++ [(kk + 1, 1)], by omega, hPl, by go_num, HT2, HG, hB1⟩
   case measure => simp [intOf]; omega
  have k1 : (((s[i]'hlt).toNat : Int) == 101) = false := by rw [← hcc, beq_eq_false_iff_ne]; intro e; exact c1 (UInt8.toNat.inj (by have : (101 : UInt8).toNat = 101 := rfl; omega))
  by_cases c2 : c = 121
  ·have k2 : (((s[i]'hlt).toNat : Int) == 121) = true := by rw [← hcc, c2]; rfl
   by_cases hl2 : i + 1 < s.size
   rotate_left
   ·obtain rfl : O = none := by rw [← hT.out, readI_age_end hc (.inr c2) (by rw [← Lib.size_eq]; omega)]; rfl
    have hE : ((i : Int) + 1 == (s.size : Int)) = true := by rw [beq_iff_eq]; omega
    clear hT hG hc hcc c1 c2
    go_wp2
    go_ret2
    exact ⟨_, rfl, Ow.nil _ _ _, bwT⟩
   have hI2 : (i : Int) + 1 < (s.size : Int) := by omega
   have hE : ((i : Int) + 1 == (s.size : Int)) = false := by rw [beq_eq_false_iff_ne]; omega
   have hd := byte_at s hl2
   obtain ⟨d, hdd⟩ : ∃ d, d = s[i + 1]'hl2 := ⟨_, rfl⟩
   rw [← hdd] at hd
   have HN := Lib.hid (readI_age hc (.inr c2) hd)
   rw [show (if c = 101 then (1 : Int) else 2) = 2 from if_neg c1] at HN
   obtain ⟨kk, hkk⟩ : ∃ kk : Int, kk + 1 = knd d := ⟨knd d - 1, by omega⟩
   have hkr := knd_range d
   rw [← hkk] at HN hkr
   have HKK := Lib.hid hkk
   have HDD := Lib.hid (show ((s[i + 1]'hl2).toNat : Int) = (d.toNat : Int) by rw [← hdd])
   clear hkk hdd hc hcc hd c1 c2
   go_wp2_with fail
   refine (idx_any _ d _ kk HDD.out HKK.out).mono ?_
   rintro e2 w2 ⟨rfl, rfl⟩
   by_cases hz : kk + 1 = 0
   ·have hz1 : (kk + 1 == 0) = true := by simp [hz]
    obtain rfl : O = none := by rw [← hT.out, HN.out, if_pos hz]; rfl
    clear hT HN hG
    go_wp2
    go_ret2
    exact ⟨_, rfl, Ow.nil _ _ _, bwT⟩
   have hz1 : (kk + 1 == 0) = false := by simp [hz]
   have HT2 := Lib.hid (show (readI (s.data.toList.drop (i + 2))).map ((P ++ [(kk + 1, 2)]) ++ ·) = O by
    rw [← hT.out, HN.out, if_neg hz]
    cases readI (s.data.toList.drop (i + 2)) <;> simp)
   clear hT HN hz
   go_wp2_with (at_builtin; refine wpList_push rfl rfl slStep (by show (0 : Nat) < 2; omega) (hG.out.below ?b1x3).top rfl (ad := ⟨wb.heap.size + 1, 0, none⟩) rfl (cs := [.int .i64 (kk + 1), .int .i64 2]) (y := (kk + 1, 2)) (lx := wb.heap.size + 2) (hx' := wb.heap.size + 2) ?c1x3 (It.flat (z := true) (w0 := wb) (fp := []) (repStp_mk (by unfold I64; omega) (by unfold I64; omega))) ?c4x3 (.inl ?c5x3) (by unfold maxLen; omega) (by omega) ?c2x3 ?_)
   case b1x3 => exact bwT
   case c1x3 =>
    intro j c hj
    match j, hj with
    | 0, hj => simp at hj; subst hj; simp [Addr.add, go_sem]
    | 1, hj => simp at hj; subst hj; simp [Addr.add, go_sem]
   case c4x3 => omega
   case c5x3 => simp
   case c2x3 => simp; omega
   intro v' w1 hG1 _ hb1
   have HG := Lib.hid hG1
   have hB1 : Below w.heap.size w w1 := Below.trans (show Below w.heap.size w _ from bwT) hb1
   have hPl : (P ++ [(kk + 1, 2)]).length ≤ i + 2 := by simp; omega
   clear hG hG1 hb1
   go_wp2
   go_roundw
   case rel => exact ⟨i + 2, P ++ [(kk + 1, 2)], by omega, hPl, by go_num, HT2, HG, hB1⟩
   case measure => simp [intOf]; omega
  have k2 : (((s[i]'hlt).toNat : Int) == 121) = false := by rw [← hcc, beq_eq_false_iff_ne]; intro e; exact c2 (UInt8.toNat.inj (by have : (121 : UInt8).toNat = 121 := rfl; omega))
  have hE : ((i : Int) == (s.size : Int)) = false := by rw [beq_eq_false_iff_ne]; omega
  have HN := Lib.hid (readI_one hc (fun h => by rcases h with h | h; exact c1 h; exact c2 h))
  obtain ⟨d, hdd⟩ : ∃ d, d = s[i]'hlt := ⟨_, rfl⟩
  rw [show c = d from hcc.trans hdd.symm] at HN
  obtain ⟨kk, hkk⟩ : ∃ kk : Int, kk + 1 = knd d := ⟨knd d - 1, by omega⟩
  have hkr := knd_range d
  rw [← hkk] at HN hkr
  have HKK := Lib.hid hkk
  have HDD := Lib.hid (show ((s[i]'hlt).toNat : Int) = (d.toNat : Int) by rw [← hdd])
  clear hkk hdd hc hcc c1 c2
  go_wp2_with fail
  refine (idx_any _ d _ kk HDD.out HKK.out).mono ?_
  rintro e2 w2 ⟨rfl, rfl⟩
  by_cases hz : kk + 1 = 0
  ·have hz1 : (kk + 1 == 0) = true := by simp [hz]
   obtain rfl : O = none := by rw [← hT.out, HN.out, if_pos hz]; rfl
   clear hT HN hG
   go_wp2
   go_ret2
   exact ⟨_, rfl, Ow.nil _ _ _, bwT⟩
  have hz1 : (kk + 1 == 0) = false := by simp [hz]
  have HT2 := Lib.hid (show (readI (s.data.toList.drop (i + 1))).map ((P ++ [(kk + 1, 0)]) ++ ·) = O by
   rw [← hT.out, HN.out, if_neg hz]
   cases readI (s.data.toList.drop (i + 1)) <;> simp)
  clear hT HN hz
  go_wp2_with (at_builtin; refine wpList_push rfl rfl slStep (by show (0 : Nat) < 2; omega) (hG.out.below ?b1x1).top rfl (ad := ⟨wb.heap.size + 1, 0, none⟩) rfl (cs := [.int .i64 (kk + 1), .int .i64 0]) (y := (kk + 1, 0)) (lx := wb.heap.size + 2) (hx' := wb.heap.size + 2) ?c1x1 (It.flat (z := true) (w0 := wb) (fp := []) (repStp_mk (by unfold I64; omega) (by unfold I64; omega))) ?c4x1 (.inl ?c5x1) (by unfold maxLen; omega) (by omega) ?c2x1 ?_)
  case b1x1 => exact bwT
  case c1x1 =>
   intro j c hj
   match j, hj with
   | 0, hj => simp at hj; subst hj; simp [Addr.add, go_sem]
   | 1, hj => simp at hj; subst hj; simp [Addr.add, go_sem]
  case c4x1 => omega
  case c5x1 => simp
  case c2x1 => simp; omega
  intro v' w1 hG1 _ hb1
  have HG := Lib.hid hG1
  have hB1 : Below w.heap.size w w1 := Below.trans (show Below w.heap.size w _ from bwT) hb1
  have hPl : (P ++ [(kk + 1, 0)]).length ≤ i + 1 := by simp; omega
  clear hG hG1 hb1
  go_wp2
  go_roundw
  case rel => exact ⟨i + 1, P ++ [(kk + 1, 0)], by omega, hPl, by go_num, HT2, HG, hB1⟩
  case measure => simp [intOf]; omega
end
section
theorem cut_len (s p : Bs) : (Lib.cut s p).1.length ≤ s.length ∧ (Lib.cut s p).2.1.length ≤ s.length := by
 unfold Lib.cut
 split
 ·constructor
  ·simp; omega
  ·simp
 ·exact ⟨Nat.le_refl _, Nat.zero_le _⟩
theorem trimSuf1 {l : Bs} (h : Lib.hasSuffix l [36] = true) : Lib.trimSuffix l [36] = l.dropLast := by
 rw [Lib.trimSuffix, if_pos h, List.dropLast_eq_take]; rfl
theorem trimPre1 {l : Bs} (h : Lib.hasPrefix l [94] = true) : Lib.trimPrefix l [94] = l.drop 1 := by
 rw [Lib.trimPrefix, if_pos h]; rfl
theorem trimSuf_len (l p : Bs) : (Lib.trimSuffix l p).length ≤ l.length := by
 unfold Lib.trimSuffix
 split
 ·simp
 ·exact Nat.le_refl _
theorem trimPre_len (l p : Bs) : (Lib.trimPrefix l p).length ≤ l.length := by
 unfold Lib.trimPrefix
 split
 ·simp
 ·exact Nat.le_refl _
set_option maxRecDepth 20000 in
set_option maxHeartbeats 4000000 in
theorem parseTypeI_any (w : World) (s : ByteArray) (hs : s.size ≤ 1099511627776) (O : Option Kin) (hO : O = typeI s.data.toList) :
  Calls Tryz.prog 27 #[.string s] w (PostOw2B w (O.getD (0, [])) O.isSome) := by
 obtain ⟨e, he⟩ : ∃ e, e = (cutE s.data.toList).1 := ⟨_, rfl⟩
 obtain ⟨r, hr⟩ : ∃ r, r = txt (cutE s.data.toList).2 := ⟨_, rfl⟩
 have hrs : r.size ≤ 1099511627776 := by rw [hr, size_txt]; have := cutE_len s.data.toList; rw [← Lib.size_eq] at this; omega
 have her := cutE_rng s.data.toList
 rw [← he] at her
 have hrl : r.data.toList = (cutE s.data.toList).2 := by rw [hr, list_txt]
 have HO := Lib.hid (show O = if r.data.toList = [46] then some (e, []) else (readI r.data.toList).bind fun st => if st ≠ [] ∧ isKin (e, st) = true then some (e, st) else none by rw [hO, typeI, he, hrl])
 have HE := Lib.hid he
 have HR := Lib.hid hr
 have HI := Lib.hid (show I64 e by unfold I64; omega)
 clear hO he hr hrl
 go_enter Tryz.func27, Tryz.ntmps27
 go_wp2_with fail
 refine (cutEgoI_any _ s e r HE.out HR.out).mono ?_
 rintro e1 w1 ⟨rfl, hbw1⟩
 have hpw1 : Below w.heap.size w w1 := Below.after bwT hbw1 szT
 have sw1 := hpw1.size
 have hBw1 : Below w.heap.size w w1 := hpw1
 have l_r : w.heap.size < w1.heap.size := by have := hbw1.size; simp at this; omega
 have q_r0 : w1.cell? ⟨w.heap.size, 0, none⟩ = some (.int .i64 0) := oldc hbw1 ltT (by simp [go_sem])
 have q_r1 : w1.cell? ⟨w.heap.size, 1, none⟩ = some (.slice none 0 0) := oldc hbw1 ltT (by simp [go_sem])
 have f_r : ∀ o, w1.frozen? ⟨w.heap.size, o, none⟩ = false := fun o => (hbw1.frozen (p := ⟨w.heap.size, o, none⟩) ltT).trans (by simp [go_sem])
 clear hbw1 hpw1
 have hd := dot_eq r
 by_cases h46 : r.data.toList = [46]
 ·obtain rfl : O = some (e, []) := by rw [HO.out, if_pos h46]
  rw [decide_eq_true h46] at hd
  clear HO h46
  go_wp2
  exact bodyPost_ret (v := .tuple #[.agg #[.int .i64 e, .slice none 0 0], .bool true]) (by simp [results, go_sem, *]) rfl ⟨_, _, rfl, Ow.kin_mk HI.out (Ow.nil _ _ _), bwT⟩
 rw [decide_eq_false h46] at hd
 obtain ⟨T, hT⟩ : ∃ T, T = readI r.data.toList := ⟨_, rfl⟩
 have HO2 := Lib.hid (show O = T.bind fun st => if st ≠ [] ∧ isKin (e, st) = true then some (e, st) else none by rw [HO.out, if_neg h46, hT])
 have HT := Lib.hid hT
 clear HO h46 hT
 have hl1 : w.heap.size < (w1).heap.size := l_r
 go_wp2_with fail
 refine (readI_any _ r hrs T HT.out).mono ?_
 rintro e2 w2 ⟨xv, rfl, hox, hbw2⟩
 have hpw2 : Below w1.heap.size w1 w2 := Below.after bwT hbw2 szT
 have sw2 := hpw2.size
 have hBw2 : Below w.heap.size w w2 := Below.trans hBw1 (Below.mono hpw2 hBw1.size)
 replace q_r0 := oldc hpw2 l_r q_r0
 replace q_r1 := oldc hpw2 l_r q_r1
 replace f_r : ∀ o, w2.frozen? ⟨w.heap.size, o, none⟩ = false := fun o => (hpw2.frozen (p := ⟨w.heap.size, o, none⟩) l_r).trans (f_r o)
 replace l_r := Nat.lt_of_lt_of_le l_r sw2
 clear hbw2 hpw2
 obtain ⟨xao, xn, xcap, rfl, hxn, -⟩ := hox.rd.shape
 rcases T with _ | st
 ·obtain rfl : O = none := HO2.out
  clear HO2 hox
  go_wp2
  exact bodyPost_ret (v := .tuple #[.agg #[.int .i64 0, .slice none 0 0], .bool false]) (by simp [results, go_sem, *]) rfl ⟨_, _, rfl, nil_kin _ _ _, bwT⟩
 have hxn2 : st.length = xn := hxn
 subst hxn2
 clear hxn
 have hox : Ow _ _ _ _ st := hox
 by_cases h0 : st = []
 ·obtain rfl : O = none := by rw [HO2.out]; show (if _ then _ else _) = none; exact if_neg (fun h => h.1 h0)
  have hz : ((st.length : Int) == 0) = true := by rw [h0]; rfl
  clear HO2 hox h0
  go_wp2
  exact bodyPost_ret (v := .tuple #[.agg #[.int .i64 0, .slice none 0 0], .bool false]) (by simp [results, go_sem, *]) rfl ⟨_, _, rfl, nil_kin _ _ _, bwT⟩
 have hz : ((st.length : Int) == 0) = false := by
  rw [beq_eq_false_iff_ne]; intro h; exact h0 (List.eq_nil_of_length_eq_zero (by omega))
 obtain ⟨r1, hlet_r1⟩ : ∃ r, r = isKin (e, st) := ⟨_, rfl⟩
 have H1 := Lib.hid hlet_r1
 clear hlet_r1
 have HO3 := Lib.hid (show O = if r1 = true then some (e, st) else none by
  rw [HO2.out, H1.out]
  show (if _ then _ else _) = _
  by_cases hh : isKin (e, st) = true
  ·rw [if_pos ⟨h0, hh⟩, if_pos hh]
  ·rw [if_neg (fun h => hh h.2), if_neg hh])
 clear HO2 h0
 go_wp2_with fail
 refine (isTypeI_b _ _ _ (e, st) (Rd.kin_mk HI.out (hox.rd.below bwT)) r1 H1.out).mono ?_
 rintro e3 w3 ⟨rfl, hbw3⟩
 have hpw3 : Below w2.heap.size w2 w3 := Below.after bwT hbw3 szT
 have sw3 := hpw3.size
 have hBw3 : Below w.heap.size w w3 := Below.trans hBw2 (Below.mono hpw3 hBw2.size)
 replace q_r0 := oldc hpw3 l_r q_r0
 replace q_r1 := oldc hpw3 l_r q_r1
 replace f_r : ∀ o, w3.frozen? ⟨w.heap.size, o, none⟩ = false := fun o => (hpw3.frozen (p := ⟨w.heap.size, o, none⟩) l_r).trans (f_r o)
 replace l_r := Nat.lt_of_lt_of_le l_r sw3
 have l_t : w2.heap.size < w3.heap.size := by have := hbw3.size; simp at this; omega
 have q_t0 : w3.cell? ⟨w2.heap.size, 0, none⟩ = some (.int .i64 e) := oldc hbw3 ltT (by simp [go_sem])
 have q_t1 : w3.cell? ⟨w2.heap.size, 1, none⟩ = some (.slice xao st.length xcap) := oldc hbw3 ltT (by simp [go_sem])
 replace hox := Ow.below hox hpw3
 clear hbw3 hpw3
 cases r1
 ·obtain rfl : O = none := HO3.out
  clear HO3 hox
  go_wp2
  exact bodyPost_ret (v := .tuple #[.agg #[.int .i64 0, .slice none 0 0], .bool false]) (by simp [results, go_sem, *]) rfl ⟨_, _, rfl, nil_kin _ _ _, bwT⟩
 ·obtain rfl : O = some (e, st) := HO3.out
  have HOX := Lib.hid (Ow.kin_mk HI.out hox)
  clear HO3
  go_wp2
  exact bodyPost_ret (v := .tuple #[.agg #[.int .i64 e, .slice xao st.length xcap], .bool true]) (by simp [results, go_sem, *]) rfl ⟨_, _, rfl, (HOX.out.keep zmT).mono (by omega) (by simp; omega), bwT⟩
theorem formatRuleI_x {z : Bool} {lo hi : Nat} (w : World) (u0 u1 u2 u3 u4 : Value) (r : Rul) (h : Rd z lo hi w [u0, u1, u2, u3, u4] r) (R : ByteArray) (hR : R = ruleTxt r) : Calls Tryz.prog 37 #[.agg #[u0, u1, u2, u3, u4]] w (PostV w (.string R)) := formatRuleI_any w u0 u1 u2 u3 u4 r h R hR
set_option maxRecDepth 20000 in
set_option maxHeartbeats 16000000 in
theorem parseRuleI_any (w : World) (m : Int) (hm : w.cell? ⟨0, 0, none⟩ = some (.int .i64 m)) (hgl : 0 < w.heap.size) (s : ByteArray) (hs : s.size ≤ 1048576) (O : Option Rul) (hO : O = ruleI s.data.toList) :
  Calls Tryz.prog 25 #[.string s] w (PostRB w O) := by
 obtain ⟨A1, hA1⟩ : ∃ x, x = txt (Lib.cut s.data.toList [58, 32]).1 := ⟨_, rfl⟩
 obtain ⟨A2, hA2⟩ : ∃ x, x = txt (Lib.cut s.data.toList [58, 32]).2.1 := ⟨_, rfl⟩
 obtain ⟨c1, hc1⟩ : ∃ x, x = (Lib.cut s.data.toList [58, 32]).2.2 := ⟨_, rfl⟩
 have a2l : A2.data.toList = (Lib.cut s.data.toList [58, 32]).2.1 := by rw [hA2, list_txt]
 obtain ⟨B1, hB1⟩ : ∃ x, x = txt (Lib.cut A2.data.toList [32, 45, 62, 32]).1 := ⟨_, rfl⟩
 obtain ⟨B2, hB2⟩ : ∃ x, x = txt (Lib.cut A2.data.toList [32, 45, 62, 32]).2.1 := ⟨_, rfl⟩
 obtain ⟨c2, hc2⟩ : ∃ x, x = (Lib.cut A2.data.toList [32, 45, 62, 32]).2.2 := ⟨_, rfl⟩
 have HO := Lib.hid (show O = if c1 = true ∧ c2 = true then ruleI3 s.data.toList A1.data.toList B1.data.toList B2.data.toList else none by
  rw [hO, ruleI]; rw [hc1, hc2, hA1, hB1, hB2, list_txt, list_txt, list_txt, a2l])
 have sA1 : A1.size ≤ s.size := by rw [hA1, size_txt]; have := (cut_len s.data.toList [58, 32]).1; rw [← Lib.size_eq] at this; exact this
 have sA2 : A2.size ≤ s.size := by rw [hA2, size_txt]; have := (cut_len s.data.toList [58, 32]).2; rw [← Lib.size_eq] at this; exact this
 have sB1 : B1.size ≤ A2.size := by rw [hB1, size_txt]; have := (cut_len A2.data.toList [32, 45, 62, 32]).1; rw [← Lib.size_eq] at this; exact this
 have sB2 : B2.size ≤ A2.size := by rw [hB2, size_txt]; have := (cut_len A2.data.toList [32, 45, 62, 32]).2; rw [← Lib.size_eq] at this; exact this
 have HA1 := Lib.hid hA1
 have HA2 := Lib.hid hA2
 have HC1 := Lib.hid hc1
 have HB1 := Lib.hid hB1
 have HB2 := Lib.hid hB2
 have HC2 := Lib.hid hc2
 clear hO hA1 hA2 hc1 a2l hB1 hB2 hc2
 go_enter Tryz.func25, Tryz.ntmps25
 go_wp2_with fail
 refine (cut_any _ m (oldc bwT hgl hm) s ⟨#[58, 32]⟩ A1 A2 hs c1 HA1.out HA2.out HC1.out).mono ?_
 rintro e4 w4 ⟨rfl, hbw4⟩
 have hpw4 : Below w.heap.size w w4 := Below.after bwT hbw4 szT
 have sw4 := hpw4.size
 have hBw4 : Below w.heap.size w w4 := hpw4
 have l_r : w.heap.size < w4.heap.size := by have := hbw4.size; simp at this; omega
 have q_r0 : w4.cell? ⟨w.heap.size, 0, none⟩ = some (.string ⟨#[]⟩) := oldc hbw4 ltT (by simp [go_sem])
 have q_r1 : w4.cell? ⟨w.heap.size, 1, none⟩ = some (.int .i64 0) := oldc hbw4 ltT (by simp [go_sem])
 have q_r2 : w4.cell? ⟨w.heap.size, 2, none⟩ = some (.int .i64 0) := oldc hbw4 ltT (by simp [go_sem])
 have q_r3 : w4.cell? ⟨w.heap.size, 3, none⟩ = some (.slice none 0 0) := oldc hbw4 ltT (by simp [go_sem])
 have q_r4 : w4.cell? ⟨w.heap.size, 4, none⟩ = some (.slice none 0 0) := oldc hbw4 ltT (by simp [go_sem])
 have f_r : ∀ o, w4.frozen? ⟨w.heap.size, o, none⟩ = false := fun o => (hbw4.frozen (p := ⟨w.heap.size, o, none⟩) ltT).trans (by simp [go_sem])
 clear hbw4 hpw4
 go_wp2_with fail
 refine (cut_any _ m (oldc bwT hgl hm) A2 ⟨#[32, 45, 62, 32]⟩ B1 B2 (by omega) c2 HB1.out HB2.out HC2.out).mono ?_
 rintro e5 w5 ⟨rfl, hbw5⟩
 have hpw5 : Below w4.heap.size w4 w5 := Below.after bwT hbw5 szT
 have sw5 := hpw5.size
 have hBw5 : Below w.heap.size w w5 := Below.trans hBw4 (Below.mono hpw5 hBw4.size)
 replace q_r0 := oldc hpw5 l_r q_r0
 replace q_r1 := oldc hpw5 l_r q_r1
 replace q_r2 := oldc hpw5 l_r q_r2
 replace q_r3 := oldc hpw5 l_r q_r3
 replace q_r4 := oldc hpw5 l_r q_r4
 replace f_r : ∀ o, w5.frozen? ⟨w.heap.size, o, none⟩ = false := fun o => (hpw5.frozen (p := ⟨w.heap.size, o, none⟩) l_r).trans (f_r o)
 replace l_r := Nat.lt_of_lt_of_le l_r sw5
 clear hbw5 hpw5
 cases c1
 ·obtain rfl : O = none := by rw [HO.out]; simp
  clear HO
  go_wp2
  exact bodyPost_ret (v := .tuple #[.agg #[.string ⟨#[]⟩, .int .i64 0, .int .i64 0, .slice none 0 0, .slice none 0 0], .bool false]) (by simp [results, go_sem, *]) rfl ⟨_, _, _, _, _, rfl, nil_rul _ _ _, bwT⟩
 cases c2
 ·obtain rfl : O = none := by rw [HO.out]; simp
  clear HO
  go_wp2
  exact bodyPost_ret (v := .tuple #[.agg #[.string ⟨#[]⟩, .int .i64 0, .int .i64 0, .slice none 0 0, .slice none 0 0], .bool false]) (by simp [results, go_sem, *]) rfl ⟨_, _, _, _, _, rfl, nil_rul _ _ _, bwT⟩
 obtain ⟨W3, hW3⟩ : ∃ W : World, W = w5 := ⟨_, rfl⟩
 subst hW3
 have hB3 : Below w.heap.size w W3 := hBw5
 have s3 := hB3.size
 have p_r0 := q_r0
 have p_r1 := q_r1
 have p_r2 := q_r2
 have p_r3 := q_r3
 have p_r4 := q_r4
 have g_r := f_r
 clear q_r0 q_r1 q_r2 q_r3 q_r4 f_r
 obtain ⟨e, he⟩ : ∃ e, e = (cutE B1.data.toList).1 := ⟨_, rfl⟩
 obtain ⟨u, hu⟩ : ∃ u, u = txt (cutE B1.data.toList).2 := ⟨_, rfl⟩
 have hus : u.size ≤ B1.size := by rw [hu, size_txt]; have := cutE_len B1.data.toList; rw [← Lib.size_eq] at this; exact this
 have hul : u.data.toList = (cutE B1.data.toList).2 := by rw [hu, list_txt]
 have her := cutE_rng B1.data.toList
 rw [← he] at her
 have HI := Lib.hid (show I64 e by unfold I64; omega)
 have HO5 := Lib.hid (show O = (ruleI1 u.data.toList).bind fun p => (readI p.2).bind fun f => (if B2.data.toList = [46] then some [] else readI B2.data.toList).bind fun t => if isRule ((A1, e, p.1, f, t) : Rul) = true ∧ ruleTxt ((A1, e, p.1, f, t) : Rul) = s then some ((A1, e, p.1, f, t) : Rul) else none by
  rw [HO.out, if_pos ⟨rfl, rfl⟩, ruleI3, hul, he, txt_list, txt_list])
 have HE := Lib.hid he
 have HU := Lib.hid hu
 clear he hu hul HO HA1 HA2 HB1 HB2 HC1 HC2
 go_wp2_with fail
 refine (cutEgoI_any _ B1 e u HE.out HU.out).mono ?_
 rintro e4 w4 ⟨rfl, hb4⟩
 have hB4 : Below W3.heap.size W3 w4 := Below.trans (show Below W3.heap.size W3 _ from bwT) (hb4.mono (by simp))
 have s34 := hB4.size
 have l_g4 : W3.heap.size < w4.heap.size := by have := hb4.size; simp at this; omega
 have y0 : w4.cell? ⟨W3.heap.size, 0, none⟩ = some (.string A1) := oldc hb4 ltT (by simp [go_sem, *])
 have y1 : w4.cell? ⟨W3.heap.size, 1, none⟩ = some (.int .i64 0) := oldc hb4 ltT (by simp [go_sem, *])
 have y2 : w4.cell? ⟨W3.heap.size, 2, none⟩ = some (.int .i64 0) := oldc hb4 ltT (by simp [go_sem, *])
 have y3 : w4.cell? ⟨W3.heap.size, 3, none⟩ = some (.slice none 0 0) := oldc hb4 ltT (by simp [go_sem, *])
 have y4 : w4.cell? ⟨W3.heap.size, 4, none⟩ = some (.slice none 0 0) := oldc hb4 ltT (by simp [go_sem, *])
 have yf : ∀ o, w4.frozen? ⟨W3.heap.size, o, none⟩ = false := fun o => (hb4.frozen (p := ⟨W3.heap.size, o, none⟩) (by simp)).trans (by simp [go_sem])
 obtain ⟨ux1, hux1⟩ : ∃ x, x = txt (Lib.trimPrefix u.data.toList [94]) := ⟨_, rfl⟩
 obtain ⟨b94, hlet_b94⟩ : ∃ r, r = Lib.hasPrefix u.data.toList [94] := ⟨_, rfl⟩
 have HB94 := Lib.hid hlet_b94
 clear hlet_b94
 have HUX1 := Lib.hid hux1
 have sux1 : ux1.size ≤ u.size := by rw [hux1, size_txt]; have := trimPre_len u.data.toList [94]; rw [← Lib.size_eq] at this; exact this
 have HV94 := Lib.hid (show b94 = true → ux1.data.toList = u.data.toList.drop 1 by intro h; rw [hux1, list_txt, trimPre1 (by rw [← HB94.out]; exact h)])
 clear hb4 hux1 HE HU
 go_wp2_with fail
 refine (cutPre_any _ u ⟨#[94]⟩ ux1 b94 HUX1.out HB94.out).mono ?_
 rintro e5 w5 ⟨rfl, hw5⟩
 have hB5 : Below W3.heap.size W3 w5 := by rw [hw5]; exact bwT
 have l_g5 : W3.heap.size < w5.heap.size := by rw [hw5]; simp; omega
 have z0 : w5.cell? ⟨W3.heap.size, 0, none⟩ = some (.string A1) := by rw [hw5]; simp [go_sem, *]
 have z1 : w5.cell? ⟨W3.heap.size, 1, none⟩ = some (.int .i64 e) := by rw [hw5]; simp [go_sem, *]
 have z2 : w5.cell? ⟨W3.heap.size, 2, none⟩ = some (.int .i64 0) := by rw [hw5]; simp [go_sem, *]
 have z3 : w5.cell? ⟨W3.heap.size, 3, none⟩ = some (.slice none 0 0) := by rw [hw5]; simp [go_sem, *]
 have z4 : w5.cell? ⟨W3.heap.size, 4, none⟩ = some (.slice none 0 0) := by rw [hw5]; simp [go_sem, *]
 have zf : ∀ o, w5.frozen? ⟨W3.heap.size, o, none⟩ = false := fun o => by rw [hw5]; simp [go_sem, *]
 clear hw5 y0 y1 y2 y3 y4 yf l_g4 s34 hB4 HUX1
 go_upto_if 49 with fail
 go_cut [7] (fun s7 wx => ∃ (p : Int) (v : ByteArray), s7 = .string v ∧ Hid ((b94 = true → p = 1 ∧ v = ux1) ∧ (b94 = false → p = 0 ∧ v = u)) ∧ v.size ≤ u.size ∧ (0 ≤ p ∧ p ≤ 2) ∧ wx.cell? ⟨W3.heap.size, 0, none⟩ = some (.string A1) ∧ wx.cell? ⟨W3.heap.size, 1, none⟩ = some (.int .i64 e) ∧ wx.cell? ⟨W3.heap.size, 2, none⟩ = some (.int .i64 p) ∧ wx.cell? ⟨W3.heap.size, 3, none⟩ = some (.slice none 0 0) ∧ wx.cell? ⟨W3.heap.size, 4, none⟩ = some (.slice none 0 0) ∧ (∀ o, wx.frozen? ⟨W3.heap.size, o, none⟩ = false) ∧ W3.heap.size < wx.heap.size ∧ Below W3.heap.size W3 wx)
 case first =>
  cases b94
  ·go_wp2_with fail
   go_meet
   exact ⟨0, u, rfl, Lib.hid (by simp), Nat.le_refl _, by omega, by simp [go_sem, *], by simp [go_sem, *], by simp [go_sem, *], by simp [go_sem, *], by simp [go_sem, *], (fun o => by simp [go_sem, *]), (by first | omega | (simp; omega)), bwT⟩
  ·go_wp2_with fail
   go_meet
   exact ⟨1, ux1, rfl, Lib.hid (by simp), sux1, by omega, by simp [go_sem, *], by simp [go_sem, *], by simp [go_sem, *], by simp [go_sem, *], by simp [go_sem, *], (fun o => by simp [go_sem, *]), (by first | omega | (simp; omega)), bwT⟩
 case rest =>
  clear z0 z1 z2 z3 z4 zf l_g5 hB5
  obtain ⟨p, v, rfl, hpv, hvs, hp, y0, y1, y2, y3, y4, yf, l_g, hBA⟩ := hcut
  obtain ⟨WA, hWA⟩ : ∃ W : World, W = wc := ⟨_, rfl⟩
  subst hWA
  obtain ⟨v1, hv1⟩ : ∃ x, x = txt (Lib.trimSuffix v.data.toList [36]) := ⟨_, rfl⟩
  obtain ⟨b36, hlet_b36⟩ : ∃ r, r = Lib.hasSuffix v.data.toList [36] := ⟨_, rfl⟩
  have HB36 := Lib.hid hlet_b36
  clear hlet_b36
  have HV1 := Lib.hid hv1
  have sv1 : v1.size ≤ v.size := by rw [hv1, size_txt]; have := trimSuf_len v.data.toList [36]; rw [← Lib.size_eq] at this; exact this
  have HV36 := Lib.hid (show b36 = true → v1.data.toList = v.data.toList.dropLast by intro h; rw [hv1, list_txt, trimSuf1 (by rw [← HB36.out]; exact h)])
  clear hv1
  go_wp2_with fail
  refine (cutSuf_any _ v ⟨#[36]⟩ v1 (by unfold maxLen; omega) b36 HV1.out HB36.out).mono ?_
  rintro e6 w6 ⟨rfl, hw6⟩
  obtain rfl := hw6
  go_upto_if 57 with fail
  go_cut [7] (fun s7 wx => ∃ (p2 : Int) (v2 : ByteArray), s7 = .string v2 ∧ Hid (ruleI1 u.data.toList = some (p2, v2.data.toList)) ∧ v2.size ≤ u.size ∧ (0 ≤ p2 ∧ p2 ≤ 2) ∧ wx.cell? ⟨W3.heap.size, 0, none⟩ = some (.string A1) ∧ wx.cell? ⟨W3.heap.size, 1, none⟩ = some (.int .i64 e) ∧ wx.cell? ⟨W3.heap.size, 2, none⟩ = some (.int .i64 p2) ∧ wx.cell? ⟨W3.heap.size, 3, none⟩ = some (.slice none 0 0) ∧ wx.cell? ⟨W3.heap.size, 4, none⟩ = some (.slice none 0 0) ∧ (∀ o, wx.frozen? ⟨W3.heap.size, o, none⟩ = false) ∧ W3.heap.size < wx.heap.size ∧ Below W3.heap.size W3 wx)
  case first =>
   cases b36
   ·have HR1 := Lib.hid (show ruleI1 u.data.toList = some (p, v.data.toList) by
     rw [ruleI1, ← HB94.out]
     cases b94
     ·obtain ⟨rfl, rfl⟩ := hpv.out.2 rfl
      rw [if_neg (by decide), ← HB36.out]; rfl
     ·obtain ⟨rfl, rfl⟩ := hpv.out.1 rfl
      rw [if_pos rfl, ← HV94.out rfl, ← HB36.out]; rfl)
    clear HV1 HB36 HV36 HV94 hpv HB94
    go_wp2_with fail
    go_meet
    exact ⟨p, v, rfl, HR1, hvs, hp, by simp [go_sem, *], by simp [go_sem, *], by simp [go_sem, *], by simp [go_sem, *], by simp [go_sem, *], (fun o => by simp [go_sem, *]), (by first | omega | (simp; omega)), bwT⟩
   ·cases b94
    ·obtain ⟨rfl, rfl⟩ := hpv.out.2 rfl
     have HR1 := Lib.hid (show ruleI1 v.data.toList = some (2, v1.data.toList) by
      rw [ruleI1, ← HB94.out, if_neg (by decide), ← HB36.out, if_pos rfl, HV36.out rfl])
     clear HV1 HB36 HV36 HV94 hpv HB94
     go_wp2_with fail
     go_meet
     exact ⟨2, v1, rfl, HR1, by omega, by omega, by simp [go_sem, *], by simp [go_sem, *], by simp [go_sem, *], by simp [go_sem, *], by simp [go_sem, *], (fun o => by simp [go_sem, *]), (by first | omega | (simp; omega)), bwT⟩
    ·obtain ⟨rfl, rfl⟩ := hpv.out.1 rfl
     obtain rfl : O = none := by
      rw [HO5.out, show ruleI1 u.data.toList = none by rw [ruleI1, ← HB94.out, if_pos rfl, ← HV94.out rfl, ← HB36.out, if_pos rfl]]; rfl
     clear HV1 HB36 HV36 HV94 hpv HB94 HO5
     have q_r0 := oldc hBA l_r p_r0
     have q_r1 := oldc hBA l_r p_r1
     have q_r2 := oldc hBA l_r p_r2
     have q_r3 := oldc hBA l_r p_r3
     have q_r4 := oldc hBA l_r p_r4
     have f_r : ∀ o, w6.frozen? ⟨w.heap.size, o, none⟩ = false := fun o => (hBA.frozen (p := ⟨w.heap.size, o, none⟩) l_r).trans (g_r o)
     have hBw : Below w.heap.size w _ := hB3.trans (hBA.mono s3)
     go_wp2_with fail
     exact bodyPost_ret (v := .tuple #[.agg #[.string ⟨#[]⟩, .int .i64 0, .int .i64 0, .slice none 0 0, .slice none 0 0], .bool false]) (by simp [results, go_sem, *]) rfl ⟨_, _, _, _, _, rfl, nil_rul _ _ _, bwT⟩
  case rest =>
   clear y0 y1 y2 y3 y4 yf l_g hBA HV1 HB36 HV36 HV94 hpv HB94 sv1 hvs hp
   obtain ⟨p2, v2, rfl, HR1, hvs, hp, y0, y1, y2, y3, y4, yf, l_g, hBB⟩ := hcut
   obtain ⟨WB, hWB⟩ : ∃ W : World, W = wc := ⟨_, rfl⟩
   subst hWB
   obtain ⟨F, hF⟩ : ∃ F, F = readI v2.data.toList := ⟨_, rfl⟩
   have HO6 := Lib.hid (show O = F.bind fun f => (if B2.data.toList = [46] then some [] else readI B2.data.toList).bind fun t => if isRule ((A1, e, p2, f, t) : Rul) = true ∧ ruleTxt ((A1, e, p2, f, t) : Rul) = s then some ((A1, e, p2, f, t) : Rul) else none by
    rw [HO5.out, HR1.out, hF]; rfl)
   have HF := Lib.hid hF
   obtain ⟨bF, hlet_bF⟩ : ∃ r, r = F.isSome := ⟨_, rfl⟩
   have HBF := Lib.hid hlet_bF
   clear hlet_bF
   clear hF HO5 HR1
   have sBB := hBB.size
   go_wp2_with fail
   refine (readI_any _ v2 (by omega) F HF.out).mono ?_
   rw [← HBF.out]
   rintro e7 w7 ⟨fv, rfl, hof, hb7⟩
   have s7 := hb7.size
   obtain ⟨fao, fn, fcap, rfl, -⟩ := hof.rd.shape
   have z0 := oldc hb7 l_g y0
   have z1 := oldc hb7 l_g y1
   have z2 := oldc hb7 l_g y2
   have z3 := oldc hb7 l_g y3
   have z4 := oldc hb7 l_g y4
   have zf : ∀ o, w7.frozen? ⟨W3.heap.size, o, none⟩ = false := fun o => (hb7.frozen (p := ⟨W3.heap.size, o, none⟩) l_g).trans (yf o)
   have hB7 : Below W3.heap.size W3 w7 := hBB.trans (hb7.mono sBB)
   have l_g7 : W3.heap.size < w7.heap.size := by omega
   have HOF := Lib.hid hof
   clear hb7 hof y0 y1 y2 y3 y4 yf HF
   have hd := dot_eq B2
   obtain ⟨d46, hlet_d46⟩ : ∃ r, r = decide (B2.data.toList = [46]) := ⟨_, rfl⟩
   have HD := Lib.hid hlet_d46
   clear hlet_d46
   rw [← HD.out] at hd
   obtain ⟨T, hT⟩ : ∃ T, T = if B2.data.toList = [46] then some [] else readI B2.data.toList := ⟨_, rfl⟩
   rw [← hT] at HO6
   have HT := Lib.hid hT
   obtain ⟨bT, hlet_bT⟩ : ∃ r, r = T.isSome := ⟨_, rfl⟩
   have HBT := Lib.hid hlet_bT
   clear hlet_bT
   clear hT
   go_upto_if 71 with fail
   go_cut [16] (fun s16 wx => ∃ (tv : Value), s16 = .bool bT ∧ wx.cell? ⟨W3.heap.size, 0, none⟩ = some (.string A1) ∧ wx.cell? ⟨W3.heap.size, 1, none⟩ = some (.int .i64 e) ∧ wx.cell? ⟨W3.heap.size, 2, none⟩ = some (.int .i64 p2) ∧ wx.cell? ⟨W3.heap.size, 3, none⟩ = some (.slice fao fn fcap) ∧ wx.cell? ⟨W3.heap.size, 4, none⟩ = some tv ∧ (∀ o, wx.frozen? ⟨W3.heap.size, o, none⟩ = false) ∧ W3.heap.size < wx.heap.size ∧ w7.heap.size ≤ wx.heap.size ∧ Hid (Ow WB.heap.size w7.heap.size wx [.slice fao fn fcap] (F.getD [])) ∧ Hid (Ow w7.heap.size wx.heap.size wx [tv] (T.getD [])) ∧ Below W3.heap.size W3 wx)
   case first =>
    cases d46
    ·have HT8 := Lib.hid (show T = readI B2.data.toList by rw [HT.out, if_neg (of_decide_eq_false HD.out.symm)])
     clear HT HD
     go_wp2_with fail
     refine (readI_any _ B2 (by omega) T HT8.out).mono ?_
     rw [← HBT.out]
     rintro e8 w8 ⟨tv, rfl, hot, hb8⟩
     have s8 := hb8.size
     simp only [World.size_setCell] at s8
     obtain ⟨tao, tn, tcap, rfl, -⟩ := hot.rd.shape
     have x0 : w8.cell? ⟨W3.heap.size, 0, none⟩ = some (.string A1) := oldc hb8 ltT (by simp [go_sem, *])
     have x1 : w8.cell? ⟨W3.heap.size, 1, none⟩ = some (.int .i64 e) := oldc hb8 ltT (by simp [go_sem, *])
     have x2 : w8.cell? ⟨W3.heap.size, 2, none⟩ = some (.int .i64 p2) := oldc hb8 ltT (by simp [go_sem, *])
     have x3 : w8.cell? ⟨W3.heap.size, 3, none⟩ = some (.slice fao fn fcap) := oldc hb8 ltT (by simp [go_sem, *])
     have x4 : w8.cell? ⟨W3.heap.size, 4, none⟩ = some (.slice none 0 0) := oldc hb8 ltT (by simp [go_sem, *])
     have xf : ∀ o, w8.frozen? ⟨W3.heap.size, o, none⟩ = false := fun o => (hb8.frozen (p := ⟨W3.heap.size, o, none⟩) (by simp; omega)).trans (by simp [go_sem, *])
     have hB8 : Below W3.heap.size W3 w8 := Below.trans (show Below W3.heap.size W3 (w7.setCell ⟨W3.heap.size, 3, none⟩ (.slice fao fn fcap)) from bwT) (hb8.mono (by simp; omega))
     have HOT := Lib.hid hot
     have HOF8 := Lib.hid ((HOF.out.keep (show Zone WB.heap.size w7.heap.size w7 (w7.setCell ⟨W3.heap.size, 3, none⟩ (.slice fao fn fcap)) from zmT)).below hb8)
     clear hot hb8 z0 z1 z2 z3 z4 zf HOF
     go_wp2_with fail
     go_meet
     exact ⟨_, rfl, by simp [go_sem, *], by simp [go_sem, *], by simp [go_sem, *], by simp [go_sem, *], by simp [go_sem, *], (fun o => by simp [go_sem, *]), (by first | omega | (simp; omega)), (by first | omega | (simp; omega)), Lib.hid (HOF8.out.keep zmT), Lib.hid ((HOT.out.keep zmT).mono (by simp) (by simp)), bwT⟩
    ·obtain rfl : T = some [] := by rw [HT.out, if_pos (of_decide_eq_true HD.out.symm)]
     obtain rfl : bT = true := HBT.out
     clear HT HD
     go_wp2_with fail
     go_meet
     exact ⟨_, rfl, by simp [go_sem, *], by simp [go_sem, *], by simp [go_sem, *], by simp [go_sem, *], by simp [go_sem, *], (fun o => by simp [go_sem, *]), (by simp; omega), (by simp), Lib.hid (HOF.out.keep zmT), Lib.hid (Ow.nil _ _ _), bwT⟩
   case rest =>
    clear z0 z1 z2 z3 z4 zf HOF HT HD hd
    obtain ⟨tv, rfl, y0, y1, y2, y3, y4, yf, l_g, s7c, HOF, HOT, hBC⟩ := hcut
    obtain ⟨WC, hWC⟩ : ∃ W : World, W = wc := ⟨_, rfl⟩
    subst hWC
    obtain ⟨tao, tn, tcap, rfl, -⟩ := HOT.out.rd.shape
    have hBw : Below w.heap.size w WC := hB3.trans (hBC.mono s3)
    have q_r0 := oldc hBC l_r p_r0
    have q_r1 := oldc hBC l_r p_r1
    have q_r2 := oldc hBC l_r p_r2
    have q_r3 := oldc hBC l_r p_r3
    have q_r4 := oldc hBC l_r p_r4
    have f_r : ∀ o, WC.frozen? ⟨w.heap.size, o, none⟩ = false := fun o => (hBC.frozen (p := ⟨w.heap.size, o, none⟩) l_r).trans (g_r o)
    go_upto_region 20 with fail
    go_cut [94] (fun s94 wx => ∃ bad : Bool, s94 = .bool bad ∧ Hid (bad = true → O = none) ∧ Hid (bad = false → ∃ f t, O = some ((A1, e, p2, f, t) : Rul) ∧ Ow W3.heap.size wx.heap.size wx [.string A1, .int .i64 e, .int .i64 p2, .slice fao fn fcap, .slice tao tn tcap] ((A1, e, p2, f, t) : Rul)) ∧ Below WC.heap.size WC wx)
    case first =>
     cases bF
     ·obtain rfl : F = none := by have := HBF.out; cases F; rfl; cases this
      obtain rfl : O = none := HO6.out
      clear HO6 HOF HOT HBT HBF
      go_wp2_with fail
      go_meet
      exact ⟨true, rfl, Lib.hid (fun _ => by first | rfl | trivial), Lib.hid (fun h => by cases h), bwT⟩
     obtain ⟨f, rfl⟩ : ∃ f, F = some f := by have := HBF.out; cases F; cases this; exact ⟨_, rfl⟩
     cases bT
     ·obtain rfl : T = none := by have := HBT.out; cases T; rfl; cases this
      obtain rfl : O = none := HO6.out
      clear HO6 HOF HOT HBT HBF
      go_wp2_with fail
      go_meet
      exact ⟨true, rfl, Lib.hid (fun _ => by first | rfl | trivial), Lib.hid (fun h => by cases h), bwT⟩
     obtain ⟨t, rfl⟩ : ∃ t, T = some t := by have := HBT.out; cases T; cases this; exact ⟨_, rfl⟩
     clear HBT HBF
     obtain ⟨r1, hr1⟩ : ∃ r, r = isRule ((A1, e, p2, f, t) : Rul) := ⟨_, rfl⟩
     obtain ⟨K, hK⟩ : ∃ K, K = ruleTxt ((A1, e, p2, f, t) : Rul) := ⟨_, rfl⟩
     have HO7 := Lib.hid (show O = if r1 = true ∧ K = s then some ((A1, e, p2, f, t) : Rul) else none by rw [HO6.out, hr1, hK]; rfl)
     have H1 := Lib.hid hr1
     have HK := Lib.hid hK
     have HRU := Lib.hid (show Ow W3.heap.size WC.heap.size WC [.string A1, .int .i64 e, .int .i64 p2, .slice fao fn fcap, .slice tao tn tcap] ((A1, e, p2, f, t) : Rul) from
      Ow.rul_mk (by unfold maxLen; omega) HI.out (by unfold I64; omega) HOF.out HOT.out (.inl (Nat.le_refl _)) (by omega) (by omega) s7c (Nat.le_refl _))
     clear hr1 hK HO6 HOF HOT q_r0 q_r1 q_r2 q_r3 q_r4 f_r
     go_wp2_with fail
     refine (isRuleI_b _ _ _ _ _ _ (A1, e, p2, f, t) HRU.out.rd r1 H1.out).mono ?_
     rintro e8 w8 ⟨rfl, hb8⟩
     have s8 := hb8.size
     replace y0 := oldc hb8 l_g y0
     replace y1 := oldc hb8 l_g y1
     replace y2 := oldc hb8 l_g y2
     replace y3 := oldc hb8 l_g y3
     replace y4 := oldc hb8 l_g y4
     replace yf : ∀ o, w8.frozen? ⟨W3.heap.size, o, none⟩ = false := fun o => (hb8.frozen (p := ⟨W3.heap.size, o, none⟩) l_g).trans (yf o)
     have HRU8 := Lib.hid (HRU.out.below hb8)
     have l_g8 : W3.heap.size < w8.heap.size := by omega
     cases r1
     ·obtain rfl : O = none := by have := HO7.out; rw [this]; simp
      clear HO7 HRU8 HRU
      go_wp2_with fail
      go_meet
      exact ⟨true, rfl, Lib.hid (fun _ => by first | rfl | trivial), Lib.hid (fun h => by cases h), bwT⟩
     go_wp2_with fail
     refine (formatRuleI_x _ _ _ _ _ _ (A1, e, p2, f, t) HRU8.out.rd K HK.out).mono ?_
     rintro e9 w9 ⟨rfl, hb9⟩
     have hb89 : Below WC.heap.size WC w9 := hb8.trans (hb9.mono s8)
     have HRU9 := Lib.hid ((HRU8.out.below hb9).top)
     clear hb9 HRU8 HRU hb8 y0 y1 y2 y3 y4 yf
     by_cases hks : K = s
     ·subst hks
      have HOK := Lib.hid (show O = some ((A1, e, p2, f, t) : Rul) by have := HO7.out; rw [this]; simp)
      have q0 : (K.toList == K.toList) = true := by simp
      clear HO7
      go_wp2_with fail
      go_meet
      exact ⟨false, rfl, Lib.hid (fun h => by cases h), Lib.hid (fun _ => ⟨f, t, HOK.out, HRU9.out⟩), bwT⟩
     ·obtain rfl : O = none := by have := HO7.out; rw [this]; exact if_neg (fun h => hks h.2)
      have q0 : (K.toList == s.toList) = false := by rw [text_eq, decide_eq_false hks]
      clear HO7 hks HRU9
      go_wp2_with fail
      go_meet
      exact ⟨true, rfl, Lib.hid (fun _ => by first | rfl | trivial), Lib.hid (fun h => by cases h), bwT⟩
    case rest =>
     obtain ⟨bad, rfl, HBd, HGd, hbx⟩ := hcut
     obtain ⟨WD, hWD⟩ : ∃ W : World, W = wc := ⟨_, rfl⟩
     subst hWD
     have sD := hbx.size
     have hBD : Below w.heap.size w WD := hBw.trans (hbx.mono (by omega))
     replace y0 := oldc hbx l_g y0
     replace y1 := oldc hbx l_g y1
     replace y2 := oldc hbx l_g y2
     replace y3 := oldc hbx l_g y3
     replace y4 := oldc hbx l_g y4
     replace yf : ∀ o, WD.frozen? ⟨W3.heap.size, o, none⟩ = false := fun o => (hbx.frozen (p := ⟨W3.heap.size, o, none⟩) l_g).trans (yf o)
     replace q_r0 := oldc hbx (show w.heap.size < _ by omega) q_r0
     replace q_r1 := oldc hbx (show w.heap.size < _ by omega) q_r1
     replace q_r2 := oldc hbx (show w.heap.size < _ by omega) q_r2
     replace q_r3 := oldc hbx (show w.heap.size < _ by omega) q_r3
     replace q_r4 := oldc hbx (show w.heap.size < _ by omega) q_r4
     replace f_r : ∀ o, WD.frozen? ⟨w.heap.size, o, none⟩ = false := fun o => (hbx.frozen (p := ⟨w.heap.size, o, none⟩) (by show w.heap.size < _; omega)).trans (f_r o)
     clear HO6 HOF HOT HBT HBF hbx
     cases bad
     ·obtain ⟨f, t, rfl, hru⟩ := HGd.out rfl
      have HRU9 := Lib.hid hru
      clear hru HBd HGd
      go_wp2
      exact bodyPost_ret (v := .tuple #[.agg #[.string A1, .int .i64 e, .int .i64 p2, .slice fao fn fcap, .slice tao tn tcap], .bool true]) (by simp [results, go_sem, *]) rfl ⟨_, _, _, _, _, rfl, (HRU9.out.keep zmT).mono (by omega) (by simp), bwT⟩
     ·obtain rfl : O = none := HBd.out rfl
      clear HBd HGd y0 y1 y2 y3 y4 yf
      go_wp2
      exact bodyPost_ret (v := .tuple #[.agg #[.string ⟨#[]⟩, .int .i64 0, .int .i64 0, .slice none 0 0, .slice none 0 0], .bool false]) (by simp [results, go_sem, *]) rfl ⟨_, _, _, _, _, rfl, nil_rul _ _ _, bwT⟩
end
section
theorem app_B (a b : ByteArray) : (a ++ b).data.toList = a.data.toList ++ b.data.toList := by rw [ByteArray.data_append, Array.toList_append]
def kB (k : Int) : UInt8 := lts.getD (k - 1).toNat 0
def aB (a : Int) : Bs := if a = 1 then [101] else if a = 2 then [121] else []
def stB (s : Stp) : Bs := aB s.2 ++ [kB s.1]
def stepsB (l : List Stp) : Bs := l.flatMap stB
def dotB (w : Bs) : Bs := if w = [] then [46] else w
def egoB (e : Int) : Bs := if e = 1 then [109, 58] else if e = 2 then [119, 58] else []
def kinB (t : Kin) : Bs := egoB t.1 ++ dotB (stepsB t.2)
def WB : Bs := [70, 77, 66, 90, 83, 68, 72, 87, 101, 121]
theorem k8 {k : Int} (h : 1 ≤ k ∧ k ≤ 8) : k = 1 ∨ k = 2 ∨ k = 3 ∨ k = 4 ∨ k = 5 ∨ k = 6 ∨ k = 7 ∨ k = 8 := by omega
theorem kB_facts {k : Int} (h : 1 ≤ k ∧ k ≤ 8) : knd (kB k) = k ∧ kB k ≠ 101 ∧ kB k ≠ 121 ∧ kB k ∈ WB ∧ (kTxt k).data.toList = [kB k] := by
 rcases k8 h with rfl | rfl | rfl | rfl | rfl | rfl | rfl | rfl <;> decide +kernel
theorem aTxt_B (a : Int) : (aTxt a).data.toList = aB a := by
 unfold aTxt aB
 split
 ·rfl
 ·split <;> rfl
theorem stTxt_B {s : Stp} (h : 1 ≤ s.1 ∧ s.1 ≤ 8) : (stTxt s).data.toList = stB s := by
 unfold stTxt stB
 rw [app_B, aTxt_B, (kB_facts h).2.2.2.2]
theorem foldT_B : ∀ (l : List Stp) (o : ByteArray), SOk l → (l.foldl (fun o s => o ++ stTxt s) o).data.toList = o.data.toList ++ stepsB l
 | [], o, _ => by simp [stepsB]
 | s :: l, o, h => by
   rw [List.foldl_cons, foldT_B l _ h.cons, app_B, stTxt_B (h s List.mem_cons_self).1]
   simp [stepsB]
theorem stepsT_B {l : List Stp} (h : SOk l) : (stepsT l).data.toList = stepsB l := by
 unfold stepsT
 rw [foldT_B l _ h]; rfl
theorem eq_nilB {s : ByteArray} : s = ⟨#[]⟩ ↔ s.data.toList = [] := by
 constructor
 ·rintro rfl; rfl
 ·intro h
  rw [← txt_list s, h]; rfl
theorem dotT_B {l : List Stp} (h : SOk l) : (dotT (stepsT l)).data.toList = dotB (stepsB l) := by
 unfold dotT dotB
 by_cases e : stepsT l = ⟨#[]⟩
 ·rw [if_pos e, if_pos (by rw [← stepsT_B h]; exact eq_nilB.1 e)]
 ·rw [if_neg e, if_neg (fun hh => e (eq_nilB.2 (by rw [stepsT_B h]; exact hh))), stepsT_B h]
theorem egoTxt_B (e : Int) : (egoTxt e).data.toList = egoB e := by
 unfold egoTxt egoB
 split
 ·rfl
 ·split <;> rfl
theorem kin_SOk {t : Kin} (h : isKin t = true) : SOk t.2 := (isKin_facts h).2.2.2
theorem kinTxt_B {t : Kin} (h : isKin t = true) : (kinTxt t).data.toList = kinB t := by
 unfold kinTxt kinB
 rw [if_pos h, app_B, egoTxt_B, dotT_B (kin_SOk h)]
theorem aB_mem {a : Int} {c : UInt8} (h : c ∈ aB a) : c ∈ WB := by
 unfold aB at h
 split at h
 ·rw [List.mem_singleton] at h; rw [h]; decide
 ·split at h
  ·rw [List.mem_singleton] at h; rw [h]; decide
  ·cases h
theorem stepsB_mem {l : List Stp} (h : SOk l) {c : UInt8} (hc : c ∈ stepsB l) : c ∈ WB := by
 obtain ⟨s, hs, h2⟩ := List.mem_flatMap.1 hc
 rcases List.mem_append.1 h2 with h2 | h2
 ·exact aB_mem h2
 ·rw [List.mem_singleton] at h2; rw [h2]; exact (kB_facts (h s hs).1).2.2.2.1
theorem stepsB_ne {l : List Stp} (h : l ≠ []) : stepsB l ≠ [] := by
 cases l with
 | nil => exact absurd rfl h
 | cons s l => simp [stepsB, stB]
theorem wb_ne {c : UInt8} (h : c ∈ WB) : c ≠ 32 ∧ c ≠ 46 ∧ c ≠ 109 ∧ c ≠ 119 ∧ c ≠ 58 ∧ c ≠ 94 ∧ c ≠ 36 ∧ c ≠ 10 ∧ c ≠ 45 := by
 revert c
 decide
theorem dotB_mem {l : List Stp} (h : SOk l) {c : UInt8} (hc : c ∈ dotB (stepsB l)) : c ∈ WB ∨ c = 46 := by
 unfold dotB at hc
 split at hc
 ·exact .inr (List.mem_singleton.1 hc)
 ·exact .inl (stepsB_mem h hc)
theorem readI_c {c : UInt8} (h1 : c ≠ 101) (h2 : c ≠ 121) (hk : knd c ≠ 0) : ∀ r : Bs, readI (c :: r) = (readI r).map ((knd c, 0) :: ·)
 | [] => by simp [readI, h1, h2, hk]
 | d :: r => by rw [readI, if_neg (by simp [h1, h2]), if_neg hk]
theorem readI_cd {c d : UInt8} (h : c = 101 ∨ c = 121) (hk : knd d ≠ 0) (r : Bs) : readI (c :: d :: r) = (readI r).map ((knd d, if c = 101 then 1 else 2) :: ·) := by
 rw [readI, if_pos h, if_neg hk]
theorem ag3 {a : Int} (h : 0 ≤ a ∧ a ≤ 2) : a = 0 ∨ a = 1 ∨ a = 2 := by omega
theorem readI_steps : ∀ {l : List Stp}, SOk l → readI (stepsB l) = some l
 | [], _ => by simp [stepsB, readI]
 | (k, a) :: l, h => by
   obtain ⟨hk, ha⟩ := h (k, a) List.mem_cons_self
   obtain ⟨f1, f2, f3, -, -⟩ := kB_facts hk
   have hk0 : knd (kB k) ≠ 0 := by rw [f1]; exact fun e => by have : k = 0 := e; dsimp only at hk; omega
   have ih := readI_steps h.cons
   have e : stepsB ((k, a) :: l) = aB a ++ kB k :: stepsB l := by simp [stepsB, stB]
   rw [e]
   rcases ag3 ha with rfl | rfl | rfl
   ·show readI (kB k :: stepsB l) = _
    rw [readI_c f2 f3 hk0, ih, f1]; rfl
   ·show readI (101 :: kB k :: stepsB l) = _
    rw [readI_cd (.inl rfl) hk0, ih, f1]; rfl
   ·show readI (121 :: kB k :: stepsB l) = _
    rw [readI_cd (.inr rfl) hk0, ih, f1]; rfl
theorem dot_ne {l : List Stp} (h : SOk l) (hl : l ≠ []) : dotB (stepsB l) = stepsB l ∧ stepsB l ≠ [46] := by
 refine ⟨if_neg (stepsB_ne hl), fun e => ?_⟩
 have : (46 : UInt8) ∈ stepsB l := by rw [e]; exact List.mem_singleton.2 rfl
 exact (wb_ne (stepsB_mem h this)).2.1 rfl
theorem cutE_ego {e : Int} (he : 0 ≤ e ∧ e ≤ 2) {w : Bs} (hw : ∀ c, w.head? = some c → c ≠ 109 ∧ c ≠ 119) : cutE (egoB e ++ w) = (e, w) := by
 rcases ag3 he with rfl | rfl | rfl
 ·show cutE w = _
  unfold cutE
  cases w with
  | nil => rfl
  | cons c r =>
    obtain ⟨h1, h2⟩ := hw c rfl
    have e1 : Lib.hasPrefix (c :: r) [109, 58] = false := by show ((109 : UInt8) == c && _) = false; rw [show ((109 : UInt8) == c) = false from beq_eq_false_iff_ne.2 (Ne.symm h1)]; rfl
    have e2 : Lib.hasPrefix (c :: r) [119, 58] = false := by show ((119 : UInt8) == c && _) = false; rw [show ((119 : UInt8) == c) = false from beq_eq_false_iff_ne.2 (Ne.symm h2)]; rfl
    rw [e1, e2]; rfl
 ·show cutE (109 :: 58 :: w) = _
  unfold cutE
  have e1 : Lib.hasPrefix (109 :: 58 :: w) [109, 58] = true := by simp [Lib.hasPrefix]
  rw [e1]; rfl
 ·show cutE (119 :: 58 :: w) = _
  unfold cutE
  have e1 : Lib.hasPrefix (119 :: 58 :: w) [109, 58] = false := rfl
  have e2 : Lib.hasPrefix (119 :: 58 :: w) [119, 58] = true := by simp [Lib.hasPrefix]
  rw [e1, e2]; rfl
theorem head_mem {w : Bs} {c : UInt8} (h : w.head? = some c) : c ∈ w := List.mem_of_mem_head? h
theorem cutE_kin {t : Kin} (h : isKin t = true) : cutE (kinB t) = (t.1, dotB (stepsB t.2)) := by
 refine cutE_ego (isKin_facts h).1 fun c hc => ?_
 rcases dotB_mem (kin_SOk h) (head_mem hc) with h | rfl
 ·exact ⟨(wb_ne h).2.2.1, (wb_ne h).2.2.2.1⟩
 ·decide
theorem typeI_kin {t : Kin} (h : isKin t = true) : typeI (kinB t) = some t := by
 unfold typeI
 rw [cutE_kin h]
 obtain ⟨e, l⟩ := t
 dsimp only
 by_cases hl : l = []
 ·subst hl; rfl
 ·rw [(dot_ne (kin_SOk h) hl).1, if_neg (dot_ne (kin_SOk h) hl).2, readI_steps (kin_SOk h)]
  show (if l ≠ [] ∧ isKin (e, l) = true then some (e, l) else none) = _
  rw [if_pos ⟨hl, h⟩]
def midB (r : Rul) : Bs := (if r.2.2.1 = 1 then [94] else []) ++ (stepsB r.2.2.2.1 ++ (if r.2.2.1 = 2 then [36] else []))
def ruleB (r : Rul) : Bs := r.1.data.toList ++ [58, 32] ++ (egoB r.2.1 ++ midB r ++ [32, 45, 62, 32] ++ dotB (stepsB r.2.2.2.2))
theorem rul_SOk {r : Rul} (h : isRule r = true) : SOk r.2.2.2.1 ∧ SOk r.2.2.2.2 ∧ r.2.2.2.1 ≠ [] ∧ r.2.2.2.1.length ≤ 4 ∧ r.2.2.2.2.length ≤ 4 := by
 obtain ⟨hf, ht, htl⟩ := rule_steps h
 obtain ⟨-, -, -, h4, -⟩ := isRule_facts h
 exact ⟨hf, ht, fun e => by rw [e] at h4; simp at h4, h4.2, by omega⟩
theorem ruleTxt_B {r : Rul} (h : isRule r = true) : (ruleTxt r).data.toList = ruleB r := by
 obtain ⟨hf, ht, -⟩ := rul_SOk h
 have e1 : (ruleT1 r).data.toList = r.1.data.toList ++ [58, 32] ++ egoB r.2.1 := by
  unfold ruleT1; rw [app_B, app_B, egoTxt_B]
 have e2 : (ruleT2 r).data.toList = (ruleT1 r).data.toList ++ (if r.2.2.1 = 1 then [94] else []) := by
  unfold ruleT2; split
  ·rw [app_B]
  ·simp
 have e3 : (ruleT3 r).data.toList = (ruleT2 r).data.toList ++ stepsB r.2.2.2.1 := by
  unfold ruleT3; rw [app_B, stepsT_B hf]
 have e4 : (ruleT4 r).data.toList = (ruleT3 r).data.toList ++ (if r.2.2.1 = 2 then [36] else []) := by
  unfold ruleT4; split
  ·rw [app_B]
  ·simp
 unfold ruleTxt
 rw [if_pos h, app_B, app_B, e4, e3, e2, e1, dotT_B ht]
 unfold ruleB midB
 simp only [List.append_assoc]
theorem ruleTxt_txt {r : Rul} (h : isRule r = true) : ruleTxt r = txt (ruleB r) := by rw [← ruleTxt_B h, txt_list]
theorem name_mem {s : ByteArray} (h : nameOk s = true) {c : UInt8} (hc : c ∈ s.data.toList) : c ≠ 32 ∧ c ≠ 58 ∧ c ≠ 10 := by
 unfold nameOk letters at h
 rw [Bool.and_eq_true, List.all_eq_true] at h
 have := of_decide_eq_true (h.2 c hc)
 refine ⟨?_, ?_, ?_⟩ <;> (rintro rfl; revert this; decide)
theorem midB_mem {r : Rul} (h : isRule r = true) {c : UInt8} (hc : c ∈ midB r) : c ∈ WB ∨ c = 94 ∨ c = 36 := by
 obtain ⟨hf, -⟩ := rul_SOk h
 unfold midB at hc
 rcases List.mem_append.1 hc with hc | hc
 ·split at hc
  ·rw [List.mem_singleton] at hc; exact .inr (.inl hc)
  ·cases hc
 ·rcases List.mem_append.1 hc with hc | hc
  ·exact .inl (stepsB_mem hf hc)
  ·split at hc
   ·rw [List.mem_singleton] at hc; exact .inr (.inr hc)
   ·cases hc
theorem midB_ne {r : Rul} (h : isRule r = true) {c : UInt8} (hc : c ∈ midB r) : c ≠ 32 ∧ c ≠ 109 ∧ c ≠ 119 ∧ c ≠ 10 := by
 rcases midB_mem h hc with h | rfl | rfl
 ·have := wb_ne h; exact ⟨this.1, this.2.2.1, this.2.2.2.1, this.2.2.2.2.2.2.2.1⟩
 ·decide
 ·decide
theorem egoB_mem {e : Int} {c : UInt8} (h : c ∈ egoB e) : c ≠ 32 ∧ c ≠ 10 := by
 unfold egoB at h
 split at h
 ·revert c; decide
 ·split at h
  ·revert c; decide
  ·cases h
theorem index_app {x y st : Bs} {s0 : UInt8} : (∀ c ∈ x, c ≠ s0) → Lib.index (x ++ (s0 :: st) ++ y) (s0 :: st) = x.length := by
 induction x with
 | nil =>
   intro _
   show Lib.index (s0 :: (st ++ y)) (s0 :: st) = _
   rw [Lib.index, if_pos (by simp)]
   rfl
 | cons c x ih =>
   intro h
   have ih := ih fun c hc => h c (List.mem_cons_of_mem _ hc)
   have hc := h c List.mem_cons_self
   show Lib.index (c :: (x ++ (s0 :: st) ++ y)) (s0 :: st) = _
   rw [Lib.index, if_neg (by simp; exact fun e => absurd e.symm hc), ih, if_neg (by simp)]
   rw [List.length_cons]; omega
theorem cut_app {x y st : Bs} {s0 : UInt8} (h : ∀ c ∈ x, c ≠ s0) : Lib.cut (x ++ (s0 :: st) ++ y) (s0 :: st) = (x, y, true) := by
 unfold Lib.cut
 rw [index_app h, if_pos (by omega), Int.toNat_natCast]
 have e1 : (x ++ (s0 :: st) ++ y).take x.length = x := by rw [List.append_assoc, List.take_left']; rfl
 have e2 : (x ++ (s0 :: st) ++ y).drop (x.length + (s0 :: st).length) = y := by rw [← List.length_append, List.drop_left']; rfl
 rw [e1, e2]
theorem suf_mem {w : Bs} {c : UInt8} (h : Lib.hasSuffix w [c] = true) : c ∈ w := by
 unfold Lib.hasSuffix at h
 rw [List.isSuffixOf_iff_suffix] at h
 obtain ⟨t, rfl⟩ := h
 simp
theorem suf_no {w : Bs} {c : UInt8} (h : ¬ c ∈ w) : Lib.hasSuffix w [c] = false := by
 cases e : Lib.hasSuffix w [c] with
 | false => rfl
 | true => exact absurd (suf_mem e) h
theorem suf_yes (w : Bs) (c : UInt8) : Lib.hasSuffix (w ++ [c]) [c] = true := by
 unfold Lib.hasSuffix
 rw [List.isSuffixOf_iff_suffix]
 exact ⟨w, rfl⟩
theorem pre_no {w : Bs} {c : UInt8} (h : ¬ c ∈ w) : Lib.hasPrefix w [c] = false := by
 unfold Lib.hasPrefix
 cases w with
 | nil => rfl
 | cons d w =>
   have : d ≠ c := fun e => h (by rw [e]; exact List.mem_cons_self)
   show ((c == d) && _) = false
   rw [show (c == d) = false from beq_eq_false_iff_ne.2 (Ne.symm this)]; rfl
theorem ruleI1_mid {r : Rul} (h : isRule r = true) : ruleI1 (midB r) = some (r.2.2.1, stepsB r.2.2.2.1) := by
 obtain ⟨hf, -⟩ := rul_SOk h
 obtain ⟨-, -, h3, -⟩ := isRule_facts h
 have n94 : ¬ (94 : UInt8) ∈ stepsB r.2.2.2.1 := fun hc => (wb_ne (stepsB_mem hf hc)).2.2.2.2.2.1 rfl
 have n36 : ¬ (36 : UInt8) ∈ stepsB r.2.2.2.1 := fun hc => (wb_ne (stepsB_mem hf hc)).2.2.2.2.2.2.1 rfl
 unfold midB
 rcases ag3 h3 with e | e | e <;> rw [e]
 ·rw [if_neg (by decide), if_neg (by decide), List.nil_append, List.append_nil]
  unfold ruleI1
  rw [pre_no n94, suf_no n36]; rfl
 ·rw [if_pos rfl, if_neg (by decide), List.append_nil]
  show ruleI1 (94 :: stepsB r.2.2.2.1) = _
  unfold ruleI1
  have e1 : Lib.hasPrefix (94 :: stepsB r.2.2.2.1) [94] = true := by simp [Lib.hasPrefix]
  rw [e1, if_pos rfl]
  show (if Lib.hasSuffix (stepsB r.2.2.2.1) [36] = true then none else some ((1 : Int), stepsB r.2.2.2.1)) = _
  rw [suf_no n36]; rfl
 ·rw [if_neg (by decide), if_pos rfl, List.nil_append]
  unfold ruleI1
  rw [pre_no (fun hc => by rcases List.mem_append.1 hc with hc | hc; exact n94 hc; revert hc; decide), suf_yes, List.dropLast_concat]; rfl
theorem ruleI_rule {r : Rul} (h : isRule r = true) : ruleI (ruleB r) = some r := by
 obtain ⟨hf, ht, hne, -⟩ := rul_SOk h
 obtain ⟨h1, h2, h3, -⟩ := isRule_facts h
 have c1 : Lib.cut (ruleB r) [58, 32] = (r.1.data.toList, egoB r.2.1 ++ midB r ++ [32, 45, 62, 32] ++ dotB (stepsB r.2.2.2.2), true) := cut_app fun c hc => (name_mem h1 hc).2.1
 have c2 : Lib.cut (egoB r.2.1 ++ midB r ++ [32, 45, 62, 32] ++ dotB (stepsB r.2.2.2.2)) [32, 45, 62, 32] = (egoB r.2.1 ++ midB r, dotB (stepsB r.2.2.2.2), true) := cut_app fun c hc => by
  rcases List.mem_append.1 hc with hc | hc
  ·exact (egoB_mem hc).1
  ·exact (midB_ne h hc).1
 have c3 : cutE (egoB r.2.1 ++ midB r) = (r.2.1, midB r) := cutE_ego h2 fun c hc => ⟨(midB_ne h (head_mem hc)).2.1, (midB_ne h (head_mem hc)).2.2.1⟩
 have c4 : (if dotB (stepsB r.2.2.2.2) = [46] then some [] else readI (dotB (stepsB r.2.2.2.2))) = some r.2.2.2.2 := by
  by_cases e : r.2.2.2.2 = []
  ·rw [e]; rfl
  ·rw [(dot_ne ht e).1, if_neg (dot_ne ht e).2, readI_steps ht]
 unfold ruleI
 rw [c1]
 dsimp only
 rw [c2]
 dsimp only
 rw [if_pos ⟨rfl, rfl⟩]
 unfold ruleI3
 rw [c3]
 dsimp only
 rw [ruleI1_mid h]
 show (readI (stepsB r.2.2.2.1)).bind _ = _
 rw [readI_steps hf]
 show ((if dotB (stepsB r.2.2.2.2) = [46] then some [] else readI (dotB (stepsB r.2.2.2.2)))).bind _ = _
 rw [c4]
 show (if isRule (txt r.1.data.toList, r.2.1, r.2.2.1, r.2.2.2.1, r.2.2.2.2) = true ∧ ruleTxt (txt r.1.data.toList, r.2.1, r.2.2.1, r.2.2.2.1, r.2.2.2.2) = txt (ruleB r) then some ((txt r.1.data.toList, r.2.1, r.2.2.1, r.2.2.2.1, r.2.2.2.2) : Rul) else none) = some r
 rw [show txt r.1.data.toList = r.1 from txt_list r.1]
 rw [if_pos (show isRule r = true ∧ ruleTxt r = txt (ruleB r) from ⟨h, ruleTxt_txt h⟩)]
theorem spl_no {b : UInt8} : ∀ {x : Bs}, (∀ c ∈ x, c ≠ b) → spl b x = [x]
 | [], _ => rfl
 | c :: x, h => by
   rw [spl, if_neg (h c List.mem_cons_self), spl_no fun d hd => h d (List.mem_cons_of_mem _ hd)]; rfl
theorem spl_app {b : UInt8} (y : Bs) : ∀ {x : Bs}, (∀ c ∈ x, c ≠ b) → spl b (x ++ b :: y) = x :: spl b y
 | [], _ => by simp [spl]
 | c :: x, h => by
   show spl b (c :: (x ++ b :: y)) = _
   rw [spl, if_neg (h c List.mem_cons_self), spl_app y fun d hd => h d (List.mem_cons_of_mem _ hd)]; rfl
end
section
def lnR (r : Rul) : Bs := [114, 117, 108, 101, 32] ++ ruleB r
def lnE (e : Ent) : Bs := [116, 101, 114, 109, 32] ++ (kinB e.1 ++ 32 :: e.2.data.toList)
def lns (y : Trm) : List Bs := y.1.map lnR ++ y.2.map lnE
def joinL (ls : List Bs) : Bs := ls.flatMap fun l => l ++ [10]
theorem rulesT_B : ∀ (rs : List Rul) (o : ByteArray), (∀ r ∈ rs, isRule r = true) → (rulesT rs o).data.toList = o.data.toList ++ joinL (rs.map lnR)
 | [], o, _ => by simp [rulesT, joinL]
 | r :: rs, o, h => by
   have ih := rulesT_B rs (o ++ ruleLn r) fun x hx => h x (List.mem_cons_of_mem _ hx)
   have e : rulesT (r :: rs) o = rulesT rs (o ++ ruleLn r) := rfl
   rw [e, ih, app_B]
   have e2 : (ruleLn r).data.toList = lnR r ++ [10] := by
    unfold ruleLn lnR
    rw [app_B, app_B, ruleTxt_B (h r List.mem_cons_self)]
   rw [e2]
   simp [joinL]
theorem entsT_B : ∀ (es : List Ent) (o : ByteArray), (∀ e ∈ es, isKin e.1 = true) → (entsT es o).data.toList = o.data.toList ++ joinL (es.map lnE)
 | [], o, _ => by simp [entsT, joinL]
 | e :: es, o, h => by
   have ih := entsT_B es (o ++ entLn e) fun x hx => h x (List.mem_cons_of_mem _ hx)
   have e1 : entsT (e :: es) o = entsT es (o ++ entLn e) := rfl
   rw [e1, ih, app_B]
   have e2 : (entLn e).data.toList = lnE e ++ [10] := by
    unfold entLn lnE
    rw [app_B, app_B, app_B, app_B, kinTxt_B (h e List.mem_cons_self)]
    simp
   rw [e2]
   simp [joinL]
theorem term_rules {y : Trm} (h : isTerm y = true) : ∀ r ∈ y.1, isRule r = true := by
 have h1 := (isTerm_facts h).1
 unfold areRules at h1
 simp only [Bool.and_eq_true, List.all_eq_true] at h1
 exact h1.2.1
theorem trmTxt_B {y : Trm} (h : isTerm y = true) : (trmTxt y).data.toList = joinL (lns y) := by
 unfold trmTxt
 rw [if_pos h, entsT_B _ _ fun e he => ((isTerm_facts h).2.2.1 e he).2.1, rulesT_B _ _ (term_rules h)]
 simp [joinL, lns]
theorem spl_join (x : Bs) (hx : ∀ c ∈ x, c ≠ 10) : ∀ ls : List Bs, (∀ l ∈ ls, ∀ c ∈ l, c ≠ 10) → spl 10 (joinL ls ++ x) = ls ++ [x]
 | [], _ => by simp [joinL, spl_no hx]
 | l :: ls, h => by
   have e : joinL (l :: ls) ++ x = l ++ 10 :: (joinL ls ++ x) := by simp [joinL]
   rw [e, spl_app _ (h l List.mem_cons_self), spl_join x hx ls fun k hk => h k (List.mem_cons_of_mem _ hk)]; rfl
theorem index_no {s : Bs} {b : UInt8} (h : ∀ c ∈ s, c ≠ b) : Lib.index s [b] = -1 := by
 induction s with
 | nil => rfl
 | cons c s ih =>
   have ih := ih fun d hd => h d (List.mem_cons_of_mem _ hd)
   have hc := h c List.mem_cons_self
   rw [Lib.index, if_neg (by show ¬ ((b == c && _) = true); rw [show (b == c) = false from beq_eq_false_iff_ne.2 (Ne.symm hc)]; simp), ih]; rfl
theorem split_spl (b : UInt8) : ∀ (n : Nat) (s : Bs), s.length ≤ n → Lib.split s [b] = spl b s
 | 0, s, h => by
   obtain rfl : s = [] := List.eq_nil_of_length_eq_zero (by omega)
   rfl
 | n + 1, s, h => by
   by_cases hb : b ∈ s
   ·obtain ⟨x, y, rfl, hx⟩ := List.eq_append_cons_of_mem hb
    have hx' : ∀ c ∈ x, c ≠ b := fun c hc e => hx (by rw [← e]; exact hc)
    have hi : Lib.index (x ++ b :: y) [b] = x.length := by
     have := index_app (x := x) (y := y) (st := []) (s0 := b) hx'
     rw [← this]; congr 1; simp
    have hd : (x ++ b :: y).drop (x.length + 1) = y := by
     rw [show x ++ b :: y = (x ++ [b]) ++ y by simp, List.drop_left' (by simp)]
    have hc := Lib.count_hit (s := x ++ b :: y) (sub := [b]) (i := x.length) (by simp) hi
    have ih := split_spl b n y (by rw [List.length_append, List.length_cons] at h; omega)
    unfold Lib.split at ih ⊢
    rw [hc, show [b].length = 1 from rfl, hd, Nat.add_comm 1, Lib.splitK, if_neg (by rw [hi]; simp), hi, Int.toNat_natCast, Nat.add_zero, show [b].length = 1 from rfl, hd, ih, spl_app y hx', List.take_left' rfl]
   ·have hx' : ∀ c ∈ s, c ≠ b := fun c hc e => hb (by rw [← e]; exact hc)
    unfold Lib.split
    rw [Lib.count_miss (index_no hx'), Lib.splitK, spl_no hx']
def rulZ : Rul := (⟨#[]⟩, 0, 0, [], [])
def textL (s : Bs) : Option (List Bs) := if s = [] then some [] else if Lib.hasSuffix s [10] = true then some (Lib.split s.dropLast [10]) else none
def lineI (y : Trm) (l : Bs) : Option Trm :=
 if Lib.hasPrefix l [114, 117, 108, 101, 32] = true then (ruleI (Lib.trimPrefix l [114, 117, 108, 101, 32])).map fun r => (y.1 ++ [r], y.2)
 else if Lib.hasPrefix l [116, 101, 114, 109, 32] = true ∧ (Lib.cut (Lib.trimPrefix l [116, 101, 114, 109, 32]) [32]).2.2 = true then
  (typeI (Lib.cut (Lib.trimPrefix l [116, 101, 114, 109, 32]) [32]).1).map fun t => (y.1, y.2 ++ [(t, txt (Lib.cut (Lib.trimPrefix l [116, 101, 114, 109, 32]) [32]).2.1)])
 else none
def linesI : List Bs → Trm → Option Trm
 | [], y => some y
 | l :: ls, y => (lineI y l).bind (linesI ls)
def parI (s : Bs) : Option Trm := (textL s).bind fun ls => if ls.length ≤ 72 then linesI ls ([], []) else none
def lineS1 (y : Trm) (l : Bs) : Trm := if 5 < l.length ∧ l.take 5 = [114, 117, 108, 101, 32] then (y.1 ++ [(ruleS (l.drop 5)).getD rulZ], y.2) else y
def lineS2 (y : Trm) (ps : List Bs) : Trm := match ps with
 | [a, k, t] => if a = [116, 101, 114, 109] then (y.1, y.2 ++ [((typeS k).getD (0, []), txt t)]) else y
 | _ => y
def lineS (y : Trm) (l : Bs) : Trm := lineS2 (lineS1 y l) (spl 32 l)
def parS (s : Bs) : Option Trm := if (spl 10 s).length ≤ 73 then some ((spl 10 s).foldl lineS ([], [])) else none
def fin (s : ByteArray) (o : Option Trm) : Option Trm := o.bind fun y => if isTerm y = true ∧ trmTxt y = s then some y else none
theorem lineI_rule {r : Rul} (h : isRule r = true) (y : Trm) : lineI y (lnR r) = some (y.1 ++ [r], y.2) := by
 have e1 : Lib.hasPrefix (lnR r) [114, 117, 108, 101, 32] = true := by simp [Lib.hasPrefix, lnR]
 have e2 : Lib.trimPrefix (lnR r) [114, 117, 108, 101, 32] = ruleB r := by rw [Lib.trimPrefix, if_pos e1]; rfl
 unfold lineI
 rw [if_pos e1, e2, ruleI_rule h]; rfl
theorem kinB_mem {t : Kin} (h : isKin t = true) {c : UInt8} (hc : c ∈ kinB t) : c ≠ 32 ∧ c ≠ 10 := by
 unfold kinB at hc
 rcases List.mem_append.1 hc with hc | hc
 ·exact egoB_mem hc
 ·rcases dotB_mem (kin_SOk h) hc with h | rfl
  ·have := wb_ne h; exact ⟨this.1, this.2.2.2.2.2.2.2.1⟩
  ·decide
theorem lineI_ent {e : Ent} (h : isKin e.1 = true) (y : Trm) : lineI y (lnE e) = some (y.1, y.2 ++ [e]) := by
 have e0 : Lib.hasPrefix (lnE e) [114, 117, 108, 101, 32] = false := rfl
 have e1 : Lib.hasPrefix (lnE e) [116, 101, 114, 109, 32] = true := by simp [Lib.hasPrefix, lnE]
 have e2 : Lib.trimPrefix (lnE e) [116, 101, 114, 109, 32] = kinB e.1 ++ 32 :: e.2.data.toList := by rw [Lib.trimPrefix, if_pos e1]; rfl
 have e3 : Lib.cut (kinB e.1 ++ 32 :: e.2.data.toList) [32] = (kinB e.1, e.2.data.toList, true) := by
  have := cut_app (x := kinB e.1) (y := e.2.data.toList) (st := []) (s0 := 32) fun c hc => (kinB_mem h hc).1
  rw [← this]; congr 1; simp
 unfold lineI
 rw [if_neg (by rw [e0]; decide), e2, e3]
 dsimp only
 rw [if_pos ⟨e1, rfl⟩, typeI_kin h, txt_list]; rfl
theorem lnR_mem {r : Rul} (h : isRule r = true) {c : UInt8} (hc : c ∈ lnR r) : c ≠ 10 := by
 obtain ⟨hf, ht, -⟩ := rul_SOk h
 obtain ⟨h1, -⟩ := isRule_facts h
 unfold lnR ruleB at hc
 simp only [List.mem_append] at hc
 rcases hc with hc | (hc | hc) | ((hc | hc) | hc) | hc
 ·revert c; decide
 ·exact (name_mem h1 hc).2.2
 ·revert c; decide
 ·exact (egoB_mem hc).2
 ·exact (midB_ne h hc).2.2.2
 ·revert c; decide
 ·rcases dotB_mem ht hc with h | rfl
  ·exact (wb_ne h).2.2.2.2.2.2.2.1
  ·decide
theorem lnE_mem {e : Ent} (h : isKin e.1 = true) (hn : nameOk e.2 = true) {c : UInt8} (hc : c ∈ lnE e) : c ≠ 10 := by
 have hd : ∀ c ∈ ([116, 101, 114, 109, 32] : Bs), c ≠ 10 := by decide
 unfold lnE at hc
 rcases List.mem_append.1 hc with hc | hc
 ·exact hd c hc
 ·rcases List.mem_append.1 hc with hc | hc
  ·exact (kinB_mem h hc).2
  ·rcases List.mem_cons.1 hc with rfl | hc
   ·decide
   ·exact (name_mem hn hc).2.2
theorem lns_mem {y : Trm} (h : isTerm y = true) : ∀ l ∈ lns y, ∀ c ∈ l, c ≠ 10 := fun l hl c hc => by
 unfold lns at hl
 rcases List.mem_append.1 hl with hl | hl
 ·obtain ⟨r, hr, rfl⟩ := List.mem_map.1 hl
  exact lnR_mem (term_rules h r hr) hc
 ·obtain ⟨e, he, rfl⟩ := List.mem_map.1 hl
  have := (isTerm_facts h).2.2.1 e he
  exact lnE_mem this.2.1 this.1 hc
theorem lns_len {y : Trm} (h : isTerm y = true) : (lns y).length ≤ 72 := by
 have h1 := (isTerm_facts h).1
 have h2 := (isTerm_facts h).2.1
 unfold areRules at h1
 simp only [Bool.and_eq_true, decide_eq_true_eq] at h1
 unfold lns
 rw [List.length_append, List.length_map, List.length_map]; omega
theorem linesI_rules : ∀ (rs : List Rul) (y : Trm) (ls : List Bs), (∀ r ∈ rs, isRule r = true) → linesI (rs.map lnR ++ ls) y = linesI ls (y.1 ++ rs, y.2)
 | [], y, ls, _ => by simp
 | r :: rs, y, ls, h => by
   show (lineI y (lnR r)).bind (linesI (rs.map lnR ++ ls)) = _
   rw [lineI_rule (h r List.mem_cons_self)]
   show linesI (rs.map lnR ++ ls) (y.1 ++ [r], y.2) = _
   rw [linesI_rules rs _ ls fun x hx => h x (List.mem_cons_of_mem _ hx)]
   simp
theorem linesI_ents : ∀ (es : List Ent) (y : Trm), (∀ e ∈ es, isKin e.1 = true) → linesI (es.map lnE) y = some (y.1, y.2 ++ es)
 | [], y, _ => by simp [linesI]
 | e :: es, y, h => by
   show (lineI y (lnE e)).bind (linesI (es.map lnE)) = _
   rw [lineI_ent (h e List.mem_cons_self)]
   show linesI (es.map lnE) (y.1, y.2 ++ [e]) = _
   rw [linesI_ents es _ fun x hx => h x (List.mem_cons_of_mem _ hx)]
   simp
theorem join_last {ls : List Bs} (h : ls ≠ []) : joinL ls ≠ [] ∧ Lib.hasSuffix (joinL ls) [10] = true ∧ ∃ i x, ls = i ++ [x] ∧ (joinL ls).dropLast = joinL i ++ x := by
 obtain ⟨i, x, rfl⟩ : ∃ i x, ls = i ++ [x] := ⟨ls.dropLast, ls.getLast h, (List.dropLast_concat_getLast h).symm⟩
 have e : joinL (i ++ [x]) = (joinL i ++ x) ++ [10] := by simp [joinL]
 rw [e]
 exact ⟨by simp, suf_yes _ _, i, x, rfl, List.dropLast_concat⟩
theorem parI_back {y : Trm} (h : isTerm y = true) : parI (joinL (lns y)) = some y := by
 have ht : textL (joinL (lns y)) = some (lns y) := by
  by_cases e : lns y = []
  ·rw [e]; rfl
  ·obtain ⟨h1, h2, i, x, h3, h4⟩ := join_last e
   unfold textL
   rw [if_neg h1, if_pos h2, h4, split_spl 10 _ _ (Nat.le_refl _), spl_join x (fun c hc => lns_mem h x (by rw [h3]; simp) c hc) i (fun l hl => lns_mem h l (by rw [h3]; simp [hl])), h3]
 unfold parI
 rw [ht]
 show (if (lns y).length ≤ 72 then linesI (lns y) ([], []) else none) = _
 rw [if_pos (lns_len h)]
 unfold lns
 rw [linesI_rules _ _ _ (term_rules h), linesI_ents _ _ fun e he => ((isTerm_facts h).2.2.1 e he).2.1]
 simp
theorem fin_some {s : ByteArray} {o : Option Trm} {y : Trm} : fin s o = some y ↔ (o = some y ∧ isTerm y = true ∧ trmTxt y = s) := by
 unfold fin
 cases o with
 | none => simp
 | some x =>
   show (if isTerm x = true ∧ trmTxt x = s then some x else none) = some y ↔ _
   by_cases e : isTerm x = true ∧ trmTxt x = s
   ·rw [if_pos e]
    constructor
    ·intro h; cases h; exact ⟨rfl, e⟩
    ·rintro ⟨h, -⟩; exact h
   ·rw [if_neg e]
    constructor
    ·intro h; cases h
    ·rintro ⟨h, h2⟩; cases h; exact absurd h2 e
theorem par_txt {y : Trm} (h : isTerm y = true) : fin (trmTxt y) (parI (trmTxt y).data.toList) = some y := fin_some.2 ⟨by rw [trmTxt_B h]; exact parI_back h, h, rfl⟩
end
section
def GX {α : Type} [Rep α] (S : Nat → Prop) (w : World) (E : TypeId) (v : Value) (xs : List α) : Prop :=
 ∃ css fps, w.ownsRow 0 E (Rep.sz α) v xs.length css.flatten ∧ Zip (Rep.rep true w) css xs fps ∧ (∀ b ∈ fps.flatten, S b ∧ some b ≠ v.ownBlock) ∧ (∀ g, v.ownBlock = some g → S g) ∧ fps.flatten.Nodup
section
variable {α : Type} [Rep α] {S : Nat → Prop} {w w' : World} {E : TypeId} {v : Value} {xs : List α}
theorem GX.lt (h : GX S w E v xs) {b : Nat} (e : v.ownBlock = some b) : b < w.heap.size ∧ S b := by
 obtain ⟨css, fps, ho, hz, hf, hg, hn⟩ := h
 exact ⟨(ho.lt b e).2, hg b e⟩
theorem GX.keep (h : GX S w E v xs) (k : ∀ b, b < w.heap.size → S b → w'.heap[b]? = w.heap[b]?) : GX S w' E v xs := by
 obtain ⟨css, fps, ho, hz, hf, hg, hn⟩ := h
 refine ⟨css, fps, ⟨ho.1, ?_⟩, hz.keep (fun b hb => k b (hz.lt b hb) (hf b hb).1), hf, hg, hn⟩
 rcases ho.2 with h | ⟨g, cap, cur, rfl, hb, hh, r⟩
 ·exact .inl h
 ·exact .inr ⟨g, cap, cur, rfl, hb, by rw [k g (ho.lt g rfl).2 (hg g rfl)]; exact hh, r⟩
theorem GX.below (h : GX S w E v xs) (hb : Below w.heap.size w w') : GX S w' E v xs := h.keep fun b hl _ => hb.block b hl
theorem GX.alloc (h : GX S w E v xs) (o : Obj) : GX S (w.alloc o) E v xs := h.below ((Below.refl _ _).alloc (Nat.le_refl _) o)
theorem GX.mono {S' : Nat → Prop} (h : GX S w E v xs) (k : ∀ b, b < w.heap.size → S b → S' b) : GX S' w E v xs := by
 obtain ⟨css, fps, ho, hz, hf, hg, hn⟩ := h
 exact ⟨css, fps, ho, hz, fun b hb => ⟨k b (hz.lt b hb) (hf b hb).1, (hf b hb).2⟩, fun g e => k g (ho.lt g e).2 (hg g e), hn⟩
theorem GX.len (h : GX S w E v xs) : ∃ ao cap, v = .slice ao xs.length cap ∧ xs.length ≤ cap ∧ cap ≤ maxLen := by
 obtain ⟨css, fps, ho, hz, hf, hg, hn⟩ := h
 rcases ho.2 with ⟨rfl, h⟩ | ⟨g, cap, cur, rfl, hbb, hh, h1, h2, r⟩
 ·rw [h]; exact ⟨none, 0, rfl, Nat.le_refl _, by simp [maxLen]⟩
 ·exact ⟨_, cap, rfl, h1, h2⟩
theorem GX.ow (h : GX S w E v xs) {lo hi : Nat} (k : ∀ b, b < w.heap.size → S b → lo ≤ b ∧ b < hi) : Ow lo hi w [v] xs := by
 obtain ⟨css, fps, ho, hz, hf, hg, hn⟩ := h
 rcases ho.2 with ⟨rfl, h⟩ | ⟨g, cap, cur, rfl, hbb, hh, h3, h4, h5, h6⟩
 ·exact ⟨[], ⟨_, rfl, none, 0, 0, rfl, h, Nat.le_refl _, by simp [maxLen], fun _ => rfl, .inl ⟨rfl, rfl⟩⟩, (fun _ h => by cases h), List.nodup_nil⟩
 ·refine ⟨g :: fps.flatten, ⟨_, rfl, some ⟨g, 0, none⟩, xs.length, cap, rfl, rfl, h3, h4, (fun h => by cases h), .inr ⟨g, 0, css, fps, rfl, (ho.lt g rfl).2, rfl, hz, ?_, ?_⟩⟩, ?_, List.nodup_cons.2 ⟨fun hm => (hf g hm).2 rfl, hn⟩⟩
  ·intro j c hj
   have := ho.cells (g := g) rfl j c hj
   by_cases hj0 : j = 0
   ·subst hj0; simpa [Addr.add] using this
   ·simpa [Addr.add, hj0] using this
  ·intro _ o
   simp [World.frozen?, hh]
  ·intro b hb
   rcases List.mem_cons.1 hb with rfl | hb
   ·exact k b (ho.lt b rfl).2 (hg b rfl)
   ·exact k b (hz.lt b hb) (hf b hb).1
theorem GX.rd (h : GX S w E v xs) : Rd true 0 w.heap.size w [v] xs := (h.ow (lo := 0) (hi := w.heap.size) fun b h1 _ => ⟨Nat.zero_le _, h1⟩).rd
theorem GX.lit1 (S : Nat → Prop) (w : World) (E : TypeId) {u : Value} {y : α} {lo hi : Nat} (hy : Ow lo hi w [u] y) (hS : ∀ b, lo ≤ b → b < hi → S b) (hw : S w.heap.size) : GX S (w.alloc (.cells #[u] E)) E (.slice (some ⟨w.heap.size, 0, none⟩) 1 1) [y] := by
 obtain ⟨fp, h1, h2, h3⟩ := hy
 have hs' : 1 = Rep.sz α := Rep.len h1
 refine ⟨[[u]], [fp], ?_, ⟨Rep.keep h1 fun b hb => Below.heap_alloc w _ b (Rep.lt h1 b hb), trivial⟩, ?_, ?_, by simpa using h3⟩
 ·exact ⟨by simp [← hs'], .inr ⟨w.heap.size, 1, #[u], rfl, Nat.zero_le _, heap_alloc_new w _, Nat.le_refl _, by simp [maxLen], by simp [← hs'], by simp [← hs']⟩⟩
 ·intro b hb
  have hb2 : b ∈ fp := by simpa using hb
  exact ⟨hS b (h2 b hb2).1 (h2 b hb2).2, by simp [Value.ownBlock]; have := Rep.lt h1 b hb2; omega⟩
 ·intro g e
  simp [Value.ownBlock] at e
  subst e; exact hw
end
section
variable {P : Program} {α : Type} [Rep α] {S : Nat → Prop} {w : World} {E : TypeId} {v : Value} {xs : List α}
theorem wpList_push_x {ops : Array Oper} {rest : List Oper} {o : Oper} {a : Act} {Q : Exit → Act → World → Prop} (hgd : o.guard = none) {s x : Operand} {t : TypeId}
  (ho : o.op = .call { callee := .builtin .append, args := #[s, x], argTypes := #[t, t] })
  {z0 : Value} {bytes : Nat} (hT : SlTy P t E z0 (Rep.sz α) bytes) (hsz : 0 < Rep.sz α) (hs : a.eval s = v)
  {ad : Addr} {c : Nat} (hx : a.eval x = .slice (some ad) 1 c) {cs : List Value} {y : α} {lx hx' : Nat} (hcells : ∀ j u, cs[j]? = some u → w.cell? (ad.add j) = some u)
  {w0 : World} (hG0 : GX S w0 E v xs) (hw0 : w0.heap.size ≤ lx) (hk0 : ∀ b, b < w0.heap.size → S b → w.heap[b]? = w0.heap[b]?)
  (hy : Ow lx hx' w cs y) (hSy : ∀ b, lx ≤ b → b < hx' → S b) (hSw : S w.heap.size) (h63 : xs.length + 1 ≤ maxLen) (hbytes : (xs.length + 1) * bytes ≤ 140737488355328)
  (h : ∀ v' w', GX S w' E v' (xs ++ [y]) → w.grownBy w' v.ownBlock → (v'.ownBlock = v.ownBlock ∨ v'.ownBlock = some w.heap.size) → wpList P ops Q rest (a.put o.dst v') w') : wpList P ops Q (o :: rest) a w := by
 obtain ⟨css, fps, ho1, hz1, hf, hg, hn⟩ := hG0
 obtain ⟨fp, hr, hz, hnd⟩ := hy
 have hown : w.ownsRow 0 E (Rep.sz α) v xs.length css.flatten := by
  refine ⟨ho1.1, ?_⟩
  rcases ho1.2 with h | ⟨g, cap, cur, rfl, hb, hh, r⟩
  ·exact .inl h
  ·exact .inr ⟨g, cap, cur, rfl, hb, by rw [hk0 g (ho1.lt g rfl).2 (hg g rfl)]; exact hh, r⟩
 have hzw : Zip (Rep.rep true w) css xs fps := hz1.keep fun b hb => hk0 b (hz1.lt b hb) (hf b hb).1
 have hlen : cs.length = 1 * Rep.sz α := by rw [Nat.one_mul]; exact Rep.len hr
 obtain ⟨v', w', hrun, ho', hgr, hv⟩ := run_app (P := P) w (t := t) (ty := o.type) hT hsz hown (ao := some ad) (m := 1) (c := c) hlen (fun h => by cases h) (fun a e => by simp only [Option.some.injEq] at e; subst e; exact hcells) (Rep.one hr) h63 hbytes (Nat.zero_le _)
 have hne1 : ∀ b ∈ fp, some b ≠ v.ownBlock := fun b hb e => by have := (ho1.lt b e.symm).2; have := (hz b hb).1; omega
 have hlt : ∀ b ∈ (fps ++ [fp]).flatten, b < w.heap.size ∧ some b ≠ v.ownBlock ∧ S b := by
  intro b hb
  simp only [List.flatten_append, List.mem_append, List.flatten_cons, List.flatten_nil, List.append_nil] at hb
  rcases hb with hb | hb
  ·exact ⟨hzw.lt b hb, (hf b hb).2, (hf b hb).1⟩
  ·exact ⟨Rep.lt hr b hb, hne1 b hb, hSy b (hz b hb).1 (hz b hb).2⟩
 refine wpList_plain hgd fun K hK => ?_
 unfold Oper.wp execOp
 simp only [ho, resolve, invoke, builtin, Sem.run_bind, Sem.run_pure, Result.andThen_ok, List.map_toArray, List.map_cons, List.map_nil, hs, hx]
 rw [hrun]
 refine hK _ _ (h v' w' ⟨css ++ [cs], fps ++ [fp], ?_, ?_, fun b hb => ⟨(hlt b hb).2.2, fun e => ?_⟩, fun g e => ?_, ?_⟩ hgr hv)
 ·rw [List.length_append, List.flatten_append]; simpa using ho'
 ·exact (hzw.snoc hr).keep fun b hb => hgr.block b (hlt b hb).1 (hlt b hb).2.1
 ·rcases hv with hv | hv
  ·exact (hlt b hb).2.1 (by rw [← hv]; exact e)
  ·rw [hv] at e; have := (hlt b hb).1; simp at e; omega
 ·rcases hv with hv | hv
  ·exact hg g (hv.symm.trans e)
  ·rw [hv] at e; simp at e; subst e; exact hSw
 ·rw [List.flatten_append]
  refine nodup_app hn (by simpa using hnd) fun x h1 h2 => ?_
  have h2 : x ∈ fp := by simpa using h2
  have := hz1.lt x h1
  have := (hz x h2).1
  omega
end
end
section
section
variable {α : Type} [Rep α] {S : Nat → Prop} {w w' : World} {E : TypeId} {v : Value} {xs : List α}
theorem GX.nil (S : Nat → Prop) (w : World) (E : TypeId) : GX (α := α) S w E (.slice none 0 0) [] :=
 ⟨[], [], by simpa using World.ownsRow_nil w 0 E (Rep.sz α), trivial, by simp, by simp [Value.ownBlock], List.nodup_nil⟩
theorem GX.fp (h : GX S w E v xs) : ∃ fp, Rep.rep true w [v] xs fp ∧ (∀ b ∈ fp, S b ∧ b < w.heap.size) ∧ fp.Nodup := by
 obtain ⟨css, fps, ho, hz, hf, hg, hn⟩ := h
 rcases ho.2 with ⟨rfl, h⟩ | ⟨g, cap, cur, rfl, hbb, hh, h3, h4, h5, h6⟩
 ·exact ⟨[], ⟨_, rfl, none, 0, 0, rfl, h, Nat.le_refl _, by simp [maxLen], fun _ => rfl, .inl ⟨rfl, rfl⟩⟩, (fun _ h => by cases h), List.nodup_nil⟩
 ·refine ⟨g :: fps.flatten, ⟨_, rfl, some ⟨g, 0, none⟩, xs.length, cap, rfl, rfl, h3, h4, (fun h => by cases h), .inr ⟨g, 0, css, fps, rfl, (ho.lt g rfl).2, rfl, hz, ?_, ?_⟩⟩, ?_, List.nodup_cons.2 ⟨fun hm => (hf g hm).2 rfl, hn⟩⟩
  ·intro j c hj
   have := ho.cells (g := g) rfl j c hj
   by_cases hj0 : j = 0
   ·subst hj0; simpa [Addr.add] using this
   ·simpa [Addr.add, hj0] using this
  ·intro _ o
   simp [World.frozen?, hh]
  ·intro b hb
   rcases List.mem_cons.1 hb with rfl | hb
   ·exact ⟨hg b rfl, (ho.lt b rfl).2⟩
   ·exact ⟨(hf b hb).1, hz.lt b hb⟩
end
def TwoX (K : Nat) (w : World) (v1 v2 : Value) (rs : List Rul) (es : List Ent) : Prop :=
 ∃ S1 S2 : Nat → Prop, (∀ b, S1 b → ¬ S2 b) ∧ (∀ b, S1 b → K ≤ b) ∧ (∀ b, S2 b → K ≤ b) ∧ GX S1 w 50 v1 rs ∧ GX S2 w 43 v2 es
section
variable {K : Nat} {w w' : World} {v1 v2 : Value} {rs : List Rul} {es : List Ent}
theorem TwoX.start (K : Nat) (w : World) : TwoX K w (.slice none 0 0) (.slice none 0 0) [] [] :=
 ⟨fun b => K ≤ b ∧ False, fun b => K ≤ b ∧ False, fun _ h => h.2.elim, fun _ h => h.1, fun _ h => h.1, GX.nil _ _ _, GX.nil _ _ _⟩
theorem TwoX.keep (h : TwoX K w v1 v2 rs es) (k : ∀ b, K ≤ b → b < w.heap.size → w'.heap[b]? = w.heap[b]?) : TwoX K w' v1 v2 rs es := by
 obtain ⟨S1, S2, hd, h1, h2, g1, g2⟩ := h
 exact ⟨S1, S2, hd, h1, h2, g1.keep fun b hb hs => k b (h1 b hs) hb, g2.keep fun b hb hs => k b (h2 b hs) hb⟩
theorem TwoX.below (h : TwoX K w v1 v2 rs es) (hb : Below w.heap.size w w') : TwoX K w' v1 v2 rs es := h.keep fun b _ hl => hb.block b hl
theorem TwoX.zone (h : TwoX K w v1 v2 rs es) (hz : Zone K w.heap.size w w') : TwoX K w' v1 v2 rs es := h.keep fun b h1 h2 => hz b h1 h2
theorem TwoX.len (h : TwoX K w v1 v2 rs es) : ∃ ao ac bo bc, v1 = .slice ao rs.length ac ∧ v2 = .slice bo es.length bc := by
 obtain ⟨S1, S2, hd, h1, h2, g1, g2⟩ := h
 obtain ⟨ao, ac, rfl, -⟩ := g1.len
 obtain ⟨bo, bc, rfl, -⟩ := g2.len
 exact ⟨ao, ac, bo, bc, rfl, rfl⟩
theorem TwoX.ow (h : TwoX K w v1 v2 rs es) : Ow K w.heap.size w [v1, v2] ((rs, es) : List Rul × List Ent) := by
 obtain ⟨S1, S2, hd, h1, h2, g1, g2⟩ := h
 obtain ⟨f1, r1, m1, n1⟩ := g1.fp
 obtain ⟨f2, r2, m2, n2⟩ := g2.fp
 refine ⟨f1 ++ f2, ⟨[v1], [v2], f1, f2, rfl, rfl, r1, r2⟩, fun b hb => ?_, ?_⟩
 ·rcases List.mem_append.1 hb with hb | hb
  ·exact ⟨h1 b (m1 b hb).1, (m1 b hb).2⟩
  ·exact ⟨h2 b (m2 b hb).1, (m2 b hb).2⟩
 ·rw [List.nodup_append]
  exact ⟨n1, n2, fun x hx y hy e => hd x (m1 x hx).1 (by rw [e]; exact (m2 y hy).1)⟩
end
section
variable {P : Program} {K : Nat} {w : World} {v1 v2 : Value} {rs : List Rul} {es : List Ent}
theorem wpList_push_t1 {ops : Array Oper} {rest : List Oper} {o : Oper} {a : Act} {Q : Exit → Act → World → Prop} (hgd : o.guard = none) {s x : Operand} {t : TypeId}
  (ho : o.op = .call { callee := .builtin .append, args := #[s, x], argTypes := #[t, t] })
  {z0 : Value} {bytes : Nat} (hT : SlTy P t 50 z0 (Rep.sz Rul) bytes) (hs : a.eval s = v1)
  {ad : Addr} {c : Nat} (hx : a.eval x = .slice (some ad) 1 c) {cs : List Value} {y : Rul} {lx hx' : Nat} (hcells : ∀ j u, cs[j]? = some u → w.cell? (ad.add j) = some u)
  {w0 : World} (hG0 : TwoX K w0 v1 v2 rs es) (hK : K ≤ w0.heap.size) (hw0 : w0.heap.size ≤ lx) (hb : Below w0.heap.size w0 w)
  (hy : Ow lx hx' w cs y) (h63 : rs.length + 1 ≤ maxLen) (hbytes : (rs.length + 1) * bytes ≤ 140737488355328)
  (h : ∀ ao ac w', TwoX K w' (.slice ao (rs.length + 1) ac) v2 (rs ++ [y]) es → Below K w w' → Zone w0.heap.size w.heap.size w w' → wpList P ops Q rest (a.put o.dst (.slice ao (rs.length + 1) ac)) w') : wpList P ops Q (o :: rest) a w := by
 obtain ⟨S1, S2, hd, h1, h2, g1, g2⟩ := hG0
 refine wpList_push_x (S := fun b => S1 b ∨ w0.heap.size ≤ b) hgd ho hT (by show (0 : Nat) < 5; omega) hs hx hcells (g1.mono fun b _ h => .inl h) hw0 (fun b hl _ => hb.block b hl) hy (fun b hb _ => .inr (by omega)) (.inr hb.size) h63 hbytes (fun v' w' hG hgr hv => ?_)
 obtain ⟨ao, ac, e, -⟩ := hG.len
 rw [List.length_append] at e
 have e : v' = .slice ao (rs.length + 1) ac := e
 subst e
 refine h _ _ w' ⟨_, fun b => S2 b ∧ b < w0.heap.size, ?_, ?_, fun b hb => h2 b hb.1, hG, ?_⟩ ((Below.refl K w).grown hgr (Nat.le_trans hK hb.size) fun k hk => h1 k (g1.lt hk).2) (Zone.grown (Zone.refl _ _ _) hgr (Nat.le_refl _) fun k hk => .inl (g1.lt hk).1)
 ·intro b hb hc
  rcases hb with hb | hb
  ·exact hd b hb hc.1
  ·omega
 ·intro b hb
  rcases hb with hb | hb
  ·exact h1 b hb
  ·omega
 ·refine (g2.mono fun b hl h => ⟨h, hl⟩).keep fun b hl hS => (hgr.block b (Nat.lt_of_lt_of_le hl hb.size) fun e => hd b (g1.lt e.symm).2 hS.1).trans (hb.block b hl)
theorem wpList_push_t2 {ops : Array Oper} {rest : List Oper} {o : Oper} {a : Act} {Q : Exit → Act → World → Prop} (hgd : o.guard = none) {s x : Operand} {t : TypeId}
  (ho : o.op = .call { callee := .builtin .append, args := #[s, x], argTypes := #[t, t] })
  {z0 : Value} {bytes : Nat} (hT : SlTy P t 43 z0 (Rep.sz Ent) bytes) (hs : a.eval s = v2)
  {ad : Addr} {c : Nat} (hx : a.eval x = .slice (some ad) 1 c) {cs : List Value} {y : Ent} {lx hx' : Nat} (hcells : ∀ j u, cs[j]? = some u → w.cell? (ad.add j) = some u)
  {w0 : World} (hG0 : TwoX K w0 v1 v2 rs es) (hK : K ≤ w0.heap.size) (hw0 : w0.heap.size ≤ lx) (hb : Below w0.heap.size w0 w)
  (hy : Ow lx hx' w cs y) (h63 : es.length + 1 ≤ maxLen) (hbytes : (es.length + 1) * bytes ≤ 140737488355328)
  (h : ∀ ao ac w', TwoX K w' v1 (.slice ao (es.length + 1) ac) rs (es ++ [y]) → Below K w w' → Zone w0.heap.size w.heap.size w w' → wpList P ops Q rest (a.put o.dst (.slice ao (es.length + 1) ac)) w') : wpList P ops Q (o :: rest) a w := by
 obtain ⟨S1, S2, hd, h1, h2, g1, g2⟩ := hG0
 refine wpList_push_x (S := fun b => S2 b ∨ w0.heap.size ≤ b) hgd ho hT (by show (0 : Nat) < 3; omega) hs hx hcells (g2.mono fun b _ h => .inl h) hw0 (fun b hl _ => hb.block b hl) hy (fun b hb _ => .inr (by omega)) (.inr hb.size) h63 hbytes (fun v' w' hG hgr hv => ?_)
 obtain ⟨ao, ac, e, -⟩ := hG.len
 rw [List.length_append] at e
 have e : v' = .slice ao (es.length + 1) ac := e
 subst e
 refine h _ _ w' ⟨fun b => S1 b ∧ b < w0.heap.size, _, ?_, fun b hb => h1 b hb.1, ?_, ?_, hG⟩ ((Below.refl K w).grown hgr (Nat.le_trans hK hb.size) fun k hk => h2 k (g2.lt hk).2) (Zone.grown (Zone.refl _ _ _) hgr (Nat.le_refl _) fun k hk => .inl (g2.lt hk).1)
 ·intro b hc hb
  rcases hb with hb | hb
  ·exact hd b hc.1 hb
  ·omega
 ·intro b hb
  rcases hb with hb | hb
  ·exact h2 b hb
  ·omega
 ·refine (g1.mono fun b hl h => ⟨h, hl⟩).keep fun b hl hS => (hgr.block b (Nat.lt_of_lt_of_le hl hb.size) fun e => hd b hS.1 (g2.lt e.symm).2).trans (hb.block b hl)
end
def TwoQ (Q : Nat → Prop) (w : World) (v1 v2 : Value) (rs : List Rul) (es : List Ent) : Prop :=
 ∃ S1 S2 : Nat → Prop, (∀ b, S1 b → ¬ S2 b) ∧ (∀ b, S1 b → Q b) ∧ (∀ b, S2 b → Q b) ∧ GX S1 w 50 v1 rs ∧ GX S2 w 43 v2 es
section
variable {K : Nat} {Q : Nat → Prop} {w w' : World} {v1 v2 : Value} {rs : List Rul} {es : List Ent}
theorem TwoX.q (h : TwoX K w v1 v2 rs es) (k : ∀ b, K ≤ b → b < w.heap.size → Q b) : TwoQ Q w v1 v2 rs es := by
 obtain ⟨S1, S2, hd, h1, h2, g1, g2⟩ := h
 exact ⟨fun b => S1 b ∧ b < w.heap.size, fun b => S2 b ∧ b < w.heap.size, fun b h k => hd b h.1 k.1, fun b h => k b (h1 b h.1) h.2, fun b h => k b (h2 b h.1) h.2, g1.mono fun b hl h => ⟨h, hl⟩, g2.mono fun b hl h => ⟨h, hl⟩⟩
theorem TwoQ.x (h : TwoQ Q w v1 v2 rs es) (k : ∀ b, Q b → K ≤ b) : TwoX K w v1 v2 rs es := by
 obtain ⟨S1, S2, hd, h1, h2, g1, g2⟩ := h
 exact ⟨S1, S2, hd, fun b h => k b (h1 b h), fun b h => k b (h2 b h), g1, g2⟩
theorem TwoQ.keep (h : TwoQ Q w v1 v2 rs es) (k : ∀ b, Q b → b < w.heap.size → w'.heap[b]? = w.heap[b]?) : TwoQ Q w' v1 v2 rs es := by
 obtain ⟨S1, S2, hd, h1, h2, g1, g2⟩ := h
 exact ⟨S1, S2, hd, h1, h2, g1.keep fun b hb hs => k b (h1 b hs) hb, g2.keep fun b hb hs => k b (h2 b hs) hb⟩
theorem TwoQ.below (h : TwoQ Q w v1 v2 rs es) (hb : Below w.heap.size w w') : TwoQ Q w' v1 v2 rs es := h.keep fun b _ hl => hb.block b hl
theorem TwoQ.len (h : TwoQ Q w v1 v2 rs es) : ∃ ao ac bo bc, v1 = .slice ao rs.length ac ∧ v2 = .slice bo es.length bc := by
 obtain ⟨S1, S2, hd, h1, h2, g1, g2⟩ := h
 obtain ⟨ao, ac, rfl, -⟩ := g1.len
 obtain ⟨bo, bc, rfl, -⟩ := g2.len
 exact ⟨ao, ac, bo, bc, rfl, rfl⟩
end
section
variable {P : Program} {Q0 : Nat → Prop} {w : World} {v1 v2 : Value} {rs : List Rul} {es : List Ent}
end
theorem Ow.ent_mk {lo hi : Nat} {w : World} {te : Int} {tl : List Stp} {v : Value} {q : ByteArray} (h : Ow lo hi w [.int .i64 te, v] ((te, tl) : Kin)) (hq : q.size ≤ maxLen) : Ow lo hi w [.int .i64 te, v, .string q] (((te, tl), q) : Ent) := by
 obtain ⟨fp, h1, h2, h3⟩ := h
 obtain ⟨v', e, hti, hr⟩ := repKin_inv h1
 simp only [List.cons.injEq, and_true] at e
 obtain ⟨-, rfl⟩ := e
 exact ⟨fp, dEnt_mk hti hq hr, h2, h3⟩
end
section
theorem spl_mem (b : UInt8) : ∀ (s : Bs) (p : Bs), (∀ l ∈ addHd p (spl b s), l.length ≤ p.length + s.length) ∧ (addHd p (spl b s)).length ≤ s.length + 1
 | [], p => by simp [spl, addHd]
 | c :: s, p => by
   by_cases e : c = b
   ·have h1 := (spl_mem b s []).1
    have h2 := (spl_mem b s []).2
    rw [addHd_nil] at h1 h2
    rw [spl, if_pos e]
    show (∀ l ∈ (p ++ []) :: spl b s, _) ∧ ((p ++ []) :: spl b s).length ≤ _
    refine ⟨fun l hl => ?_, by rw [List.length_cons, List.length_cons]; omega⟩
    rcases List.mem_cons.1 hl with rfl | hl
    ·simp
    ·have := h1 l hl
     rw [List.length_cons]; simp at this; omega
   ·have h := spl_mem b s (p ++ [c])
    rw [spl, if_neg e, addHd_app]
    refine ⟨fun l hl => ?_, by have := h.2; rw [List.length_cons]; omega⟩
    have := h.1 l hl
    rw [List.length_append] at this
    simp at this ⊢; omega
theorem spl_len (b : UInt8) (s : Bs) : (∀ l ∈ spl b s, l.length ≤ s.length) ∧ (spl b s).length ≤ s.length + 1 := by
 have h := spl_mem b s []
 rw [addHd_nil] at h
 simpa using h
theorem textL_len {s : Bs} {ls : List Bs} (h : textL s = some ls) : (∀ l ∈ ls, l.length ≤ s.length) ∧ ls.length ≤ s.length + 1 := by
 unfold textL at h
 split at h
 ·cases h; simp
 ·split at h
  ·cases h
   rw [split_spl 10 _ _ (Nat.le_refl _)]
   have h2 := spl_len 10 s.dropLast
   have h3 : s.dropLast.length ≤ s.length := by simp
   exact ⟨fun l hl => Nat.le_trans (h2.1 l hl) h3, by omega⟩
  ·cases h
theorem hasSuf_any (w : World) (s p : ByteArray) (hs : s.size ≤ maxLen) (b : Bool) (hb : b = Lib.hasSuffix s.data.toList p.data.toList) :
  Calls Tryz.prog 59 #[.string s, .string p] w (PostQ w (.bool b)) := by
 subst hb
 unfold maxLen at hs
 exact Any.strings_HasSuffix lyHas s p w (by omega)
theorem split_any (w : World) (m : Int) (hm : w.cell? ⟨0, 0, none⟩ = some (.int .i64 m)) (s : ByteArray) (hs : s.size ≤ 1048576) (X : List ByteArray) (hX : X = (Lib.split s.data.toList [10]).map txt) :
  Calls Tryz.prog 60 #[.string s, .string ⟨#[10]⟩] w (PostOw w X) := by
 refine (Any.strings_Split { lySpl with } lySpl.i9 s ⟨#[10]⟩ m w (by omega) hm (by decide)).mono ?_
 rintro e w' ⟨rfl, rfl⟩
 have hl := Lib.splitB_all ⟨#[10]⟩ (by decide) 0 _ s rfl
 have hd : (Lib.splitB ⟨#[10]⟩ 0 (Lib.countB s ⟨#[10]⟩) s) = X := by
  have h := Lib.splitB_data ⟨#[10]⟩ 0 (Lib.countB s ⟨#[10]⟩) s
  have h2 : (Lib.splitB ⟨#[10]⟩ 0 (Lib.countB s ⟨#[10]⟩) s).map (fun x => txt x.data.toList) = X := by
   rw [hX]
   unfold Lib.split
   rw [show Lib.count s.data.toList [10] = Lib.countB s ⟨#[10]⟩ from rfl, ← show (⟨#[10]⟩ : ByteArray).data.toList = [10] from rfl, ← h, List.map_map]; rfl
  rw [← h2]
  have e : (fun x : ByteArray => txt x.data.toList) = id := funext fun x => txt_list x
  rw [e, List.map_id]
 rw [← hl, hd]
 have hx : ∀ x ∈ X, x.size ≤ 1048576 := fun x hx => by
  rw [hX] at hx
  obtain ⟨l, hl, rfl⟩ := List.mem_map.1 hx
  rw [split_spl 10 _ _ (Nat.le_refl _)] at hl
  rw [size_txt]
  have := (spl_len 10 s.data.toList).1 l hl
  rw [← Lib.size_eq] at this; omega
 have hn : X.length ≤ 1048577 := by
  rw [hX, List.length_map, split_spl 10 _ _ (Nat.le_refl _)]
  have := (spl_len 10 s.data.toList).2
  rw [← Lib.size_eq] at this; omega
 exact ⟨_, rfl, (Ow.strs_lit0 w _ X (fun x h => by have := hx x h; unfold maxLen; omega) (by unfold maxLen; omega)).mono (Nat.le_refl _) (by simp), bwT⟩
set_option maxRecDepth 20000 in
set_option maxHeartbeats 4000000 in
theorem textLinesI_any (w : World) (m : Int) (hm : w.cell? ⟨0, 0, none⟩ = some (.int .i64 m)) (s : ByteArray) (hs : s.size ≤ 1048576) (O : Option (List Bs)) (hO : O = textL s.data.toList) :
  Calls Tryz.prog 23 #[.string s] w (PostLB w ((O.getD []).map txt) O.isSome) := by
 have HM := Lib.hid hm
 have HO := Lib.hid hO
 clear hm hO
 go_enter Tryz.func23, Tryz.ntmps23
 by_cases h0 : s.data.toList = []
 ·obtain rfl : O = some [] := by rw [HO.out, textL, if_pos h0]
  have e0 : s.toList.isEmpty = true := by rw [ByteArray.toList_eq, h0]; rfl
  clear HO h0
  go_wp2
  go_ret2
  exact ⟨_, rfl, Ow.nil _ _ _, bwT⟩
 have e0 : s.toList.isEmpty = false := by
  rw [ByteArray.toList_eq]
  cases e : s.data.toList with
  | nil => exact absurd e h0
  | cons _ _ => rfl
 obtain ⟨b, hb⟩ : ∃ b, b = Lib.hasSuffix s.data.toList [10] := ⟨_, rfl⟩
 have HB := Lib.hid hb
 have HO2 := Lib.hid (show O = if b = true then some (Lib.split s.data.toList.dropLast [10]) else none by rw [HO.out, textL, if_neg h0, hb])
 have hs1 : 1 ≤ s.size := by
  rw [Lib.size_eq]
  cases e : s.data.toList with
  | nil => exact absurd e h0
  | cons _ _ => simp
 clear hb HO h0
 go_wp2_with fail
 refine (hasSuf_any _ s ⟨#[10]⟩ (by unfold maxLen; omega) b HB.out).mono ?_
 rintro e1 w1 ⟨rfl, hw1⟩
 cases b
 ·obtain rfl : O = none := HO2.out
  clear HO2 HB
  rw [hw1]
  go_wp2
  go_ret2
  exact ⟨_, rfl, Ow.nil _ _ _, bwT⟩
 have hi0 : (0 : Int) ≤ (s.size : Int) - 1 := by omega
 have hi1 : (s.size : Int) - 1 ≤ (s.size : Int) := by omega
 have hX := Lib.hid (show (O.getD []).map txt = (Lib.split (s.extract 0 (s.size - 1)).data.toList [10]).map txt by rw [HO2.out, txt_init, list_txt]; rfl)
 have hV := Lib.hid (show O.isSome = true by rw [HO2.out]; rfl)
 have hsx : (s.extract 0 (s.size - 1)).size ≤ 1048576 := by simp; omega
 rw [hw1]
 clear HO2 HB hw1
 go_wp2_with fail
 refine (split_any _ m (oldc bwT (World.block_lt_of_cell? _ _ HM.out) HM.out) (s.extract 0 (s.size - 1)) hsx _ hX.out).mono ?_
 rintro e2 w2 ⟨u2, rfl, ho2, hb2⟩
 obtain ⟨xa, xn, xc, rfl, -⟩ := ho2.rd.shape
 have HO3 := Lib.hid ho2
 have hV2 := hV.out
 clear ho2 hX HM
 go_wp2
 go_ret2
 exact ⟨_, by rw [hV2]; rfl, HO3.out, bwT⟩
set_option maxRecDepth 20000 in
set_option maxHeartbeats 16000000 in
theorem parseTrmI_any (w : World) (m : Int) (hm : w.cell? ⟨0, 0, none⟩ = some (.int .i64 m)) (hgl : 0 < w.heap.size) (s : ByteArray) (hs : s.size ≤ 1048576) (O : Option Trm) (hO : O = fin s (parI s.data.toList)) :
  Calls Tryz.prog 6 #[.string s] w (PostOw2B w (O.getD ([], [])) O.isSome) := by
 obtain ⟨T, hT⟩ : ∃ T, T = textL s.data.toList := ⟨_, rfl⟩
 have HT := Lib.hid hT
 have HO := Lib.hid (show O = fin s (T.bind fun ls => if ls.length ≤ 72 then linesI ls ([], []) else none) by rw [hO, parI, hT])
 have HLL := Lib.hid (show ∀ ls, T = some ls → ∀ l ∈ ls, l.length ≤ 1048576 from fun ls e l hl => by
  have := (textL_len (hT.symm.trans e)).1 l hl
  rw [← Lib.size_eq] at this; omega)
 have HM := Lib.hid hm
 clear hm hO hT
 go_enter Tryz.func6, Tryz.ntmps6
 go_wp2_with fail
 refine (textLinesI_any _ m (oldc bwT hgl HM.out) s hs T HT.out).mono ?_
 rintro e6 w6 ⟨xv, rfl, hox, hbw6⟩
 have hpw6 : Below w.heap.size w w6 := Below.after bwT hbw6 szT
 have sw6 := hpw6.size
 have hBw6 : Below w.heap.size w w6 := hpw6
 have l_r : w.heap.size < w6.heap.size := by have := hbw6.size; simp at this; omega
 have q_r0 : w6.cell? ⟨w.heap.size, 0, none⟩ = some (.slice none 0 0) := oldc hbw6 ltT (by simp [go_sem])
 have q_r1 : w6.cell? ⟨w.heap.size, 1, none⟩ = some (.slice none 0 0) := oldc hbw6 ltT (by simp [go_sem])
 have f_r : ∀ o, w6.frozen? ⟨w.heap.size, o, none⟩ = false := fun o => (hbw6.frozen (p := ⟨w.heap.size, o, none⟩) ltT).trans (by simp [go_sem])
 clear hbw6 hpw6
 obtain ⟨xao, xn, xcap, rfl, hxn, -⟩ := hox.rd.shape
 rcases T with _ | ls
 ·obtain rfl : O = none := HO.out
  clear HO hox HT HLL
  go_wp2
  exact bodyPost_ret (v := .tuple #[.agg #[.slice none 0 0, .slice none 0 0], .bool false]) (by simp [results, go_sem, *]) rfl ⟨_, _, rfl, (TwoX.start w.heap.size _).ow, bwT⟩
 have hxn2 : ls.length = xn := by rw [← hxn]; simp
 subst hxn2
 clear hxn
 have HLS := Lib.hid (show Rd true _ _ _ _ (ls.map txt) from hox.rd)
 have HLB := Lib.hid (HLL.out ls rfl)
 by_cases h72 : ls.length ≤ 72
 rotate_left
 ·obtain rfl : O = none := by
   rw [HO.out]
   show fin s (if ls.length ≤ 72 then linesI ls ([], []) else none) = none
   rw [if_neg h72]; rfl
  have hI : (72 : Int) < (ls.length : Int) := by omega
  clear HO hox HT HLL HLS HLB h72
  go_wp2
  exact bodyPost_ret (v := .tuple #[.agg #[.slice none 0 0, .slice none 0 0], .bool false]) (by simp [results, go_sem, *]) rfl ⟨_, _, rfl, (TwoX.start w.heap.size _).ow, bwT⟩
 have hI : ¬ (72 : Int) < (ls.length : Int) := by omega
 obtain ⟨P, hP⟩ : ∃ P, P = linesI ls ([], []) := ⟨_, rfl⟩
 have HO2 := Lib.hid (show O = fin s P by
  rw [HO.out, hP]
  show fin s (if ls.length ≤ 72 then linesI ls ([], []) else none) = _
  rw [if_pos h72])
 have HP0 := Lib.hid hP.symm
 obtain ⟨wL, hwL⟩ : ∃ W : World, W = w6 := ⟨_, rfl⟩
 subst hwL
 have hBL : Below w.heap.size w wL := hBw6
 have sL := hBL.size
 have r0 := q_r0
 have r1 := q_r1
 have rf := f_r
 have lr : w.heap.size < wL.heap.size := l_r
 obtain ⟨WY, hWY⟩ : ∃ W : World, W = wL.alloc (.cells #[.slice none 0 0, .slice none 0 0] 25) := ⟨_, rfl⟩
 have hbY : Below wL.heap.size wL WY := by subst hWY; exact bwT
 have g0 : WY.cell? ⟨wL.heap.size, 0, none⟩ = some (.slice none 0 0) := by subst hWY; simp [go_sem]
 have g1 : WY.cell? ⟨wL.heap.size, 1, none⟩ = some (.slice none 0 0) := by subst hWY; simp [go_sem]
 have gf : ∀ o, WY.frozen? ⟨wL.heap.size, o, none⟩ = false := by subst hWY; intro o; simp [go_sem]
 have lY : wL.heap.size < WY.heap.size := by subst hWY; simp
 clear hP HO hox HT HLL q_r0 q_r1 f_r l_r
 go_wp2
 rw [← hWY]
 clear hWY
 go_loopw [8, 9, 10, 11, 12, 13, 14, 15, 16, 17, 18, 19, 35] (fun _ _ _ _ _ _ _ _ _ _ _ _ s35 wl => ∃ (k : Nat) (v1 v2 : Value) (rs : List Rul) (es : List Ent), k ≤ ls.length ∧ s35 = .int .i64 k ∧ wl.cell? ⟨wL.heap.size, 0, none⟩ = some v1 ∧ wl.cell? ⟨wL.heap.size, 1, none⟩ = some v2 ∧ (∀ o, wl.frozen? ⟨wL.heap.size, o, none⟩ = false) ∧ wL.heap.size < wl.heap.size ∧ Hid (TwoX (wL.heap.size + 1) wl v1 v2 rs es) ∧ Hid (linesI (ls.drop k) (rs, es) = P) ∧ rs.length + es.length ≤ k ∧ Below wL.heap.size wL wl) (fun _ _ _ _ _ _ _ _ _ _ _ _ s35 _ => ls.length - (intOf s35).toNat)
 case atStart => exact ⟨0, _, _, [], [], Nat.zero_le _, rfl, g0, g1, gf, lY, Lib.hid (TwoX.start _ _), Lib.hid HP0.out, Nat.le_refl _, hbY⟩
 case round =>
  clear g0 g1 gf lY hbY HP0
  obtain ⟨wb, hwb⟩ : ∃ wm : World, wm = wr := ⟨_, rfl⟩
  subst hwb
  obtain ⟨k, v1, v2, rs, es, hk, rfl, g0, g1, gf, lY, HG, HP, hrl, hbb⟩ := hrel
  obtain ⟨a1, c1, a2, c2, rfl, rfl⟩ := HG.out.len
  have sB := hbb.size
  have hBb : Below w.heap.size w wb := hBL.trans (hbb.mono sL)
  have y0 := oldc hbb lr r0
  have y1 := oldc hbb lr r1
  have yf : ∀ o, wb.frozen? ⟨w.heap.size, o, none⟩ = false := fun o => (hbb.frozen (p := ⟨w.heap.size, o, none⟩) lr).trans (rf o)
  have lrb : w.heap.size < wb.heap.size := by omega
  have nY1 : ¬ wL.heap.size = w.heap.size := by omega
  have nY2 : ¬ w.heap.size = wL.heap.size := by omega
  by_cases hkl : k < ls.length
  ·have hkI : (k : Int) < (ls.length : Int) := by omega
   obtain ⟨l, hl⟩ : ∃ l, ls[k]? = some l := ⟨_, List.getElem?_eq_getElem hkl⟩
   obtain ⟨bx, ofx, x, hxa, hx, x0, -⟩ := (HLS.out.below hbb).str_at (i := k) hkl
   subst hxa
   have hxl : x = txt l := by
    have h := hx.out
    rw [List.getElem?_map, hl] at h
    exact (Option.some.inj h).symm
   have HXL := Lib.hid (show x.data.toList = l by rw [hxl, list_txt])
   have hxs : x.size ≤ 1048576 := by rw [hxl, size_txt]; exact HLB.out l (List.mem_of_getElem? hl)
   have HPL := Lib.hid (show (lineI (rs, es) l).bind (linesI (ls.drop (k + 1))) = P by rw [← HP.out, drop_cons hl]; rfl)
   obtain ⟨x1, hx1⟩ : ∃ y, y = txt (Lib.trimPrefix x.data.toList [114, 117, 108, 101, 32]) := ⟨_, rfl⟩
   obtain ⟨b1, hlet_b1⟩ : ∃ r, r = Lib.hasPrefix x.data.toList [114, 117, 108, 101, 32] := ⟨_, rfl⟩
   have HB1 := Lib.hid hlet_b1
   clear hlet_b1
   have HX1 := Lib.hid hx1
   have sx1 : x1.size ≤ x.size := by rw [hx1, size_txt]; have := trimPre_len x.data.toList [114, 117, 108, 101, 32]; rw [← Lib.size_eq] at this; exact this
   clear hl hx hxl HP hx1
   go_wp2_with fail
   refine (cutPre_any _ x ⟨#[114, 117, 108, 101, 32]⟩ x1 b1 HX1.out HB1.out).mono ?_
   rintro e2 w2 ⟨rfl, hw2⟩
   obtain rfl := hw2.symm
   cases b1
   rotate_left
   ·obtain ⟨O1, hO1⟩ : ∃ q, q = ruleI x1.data.toList := ⟨_, rfl⟩
    have HO1 := Lib.hid hO1
    have HLN := Lib.hid (show lineI (rs, es) l = O1.map fun r => (rs ++ [r], es) by
     rw [lineI, ← HXL.out, if_pos HB1.out.symm, hO1, HX1.out, list_txt])
    clear hO1 HB1 HX1
    go_wp2_with fail
    refine (parseRuleI_any _ m (oldc hBb hgl HM.out) (Nat.lt_of_lt_of_le hgl hBb.size) x1 (by omega) O1 HO1.out).mono ?_
    rintro e3 w3 ⟨z0, z1, z2, z3, z4, rfl, ho3, hb3⟩
    obtain ⟨ru, hru⟩ : ∃ r, r = O1.getD rul0 := ⟨_, rfl⟩
    rw [← hru] at ho3
    have HRU := Lib.hid hru
    obtain ⟨nm, sx, pl, fr, tw⟩ := ru
    obtain ⟨vfr, vtw, e1, -, -, -, hfr, htw⟩ := Rd.dRul ho3.rd
    simp only [List.cons.injEq, and_true] at e1
    obtain ⟨rfl, rfl, rfl, rfl, rfl⟩ := e1
    obtain ⟨fao, fn, fcap, rfl, -⟩ := hfr.shape
    obtain ⟨tao, tn, tcap, rfl, -⟩ := htw.shape
    have s3 := hb3.size
    have t0 := oldc hb3 lY g0
    have t1 := oldc hb3 lY g1
    have tf : ∀ o, w3.frozen? ⟨wL.heap.size, o, none⟩ = false := fun o => (hb3.frozen (p := ⟨wL.heap.size, o, none⟩) lY).trans (gf o)
    have u0 := oldc hb3 lrb y0
    have u1 := oldc hb3 lrb y1
    have uf : ∀ o, w3.frozen? ⟨w.heap.size, o, none⟩ = false := fun o => (hb3.frozen (p := ⟨w.heap.size, o, none⟩) lrb).trans (yf o)
    have l3 : wL.heap.size < w3.heap.size := by omega
    have lr3 : w.heap.size < w3.heap.size := by omega
    have n1 : ¬ wL.heap.size = w3.heap.size := by omega
    have n2 : ¬ w3.heap.size = wL.heap.size := by omega
    have n3 : ¬ w.heap.size = w3.heap.size := by omega
    have n4 : ¬ w3.heap.size = w.heap.size := by omega
    have hB3 : Below w.heap.size w w3 := hBb.trans (hb3.mono (by omega))
    have HOR := Lib.hid ho3
    clear ho3 hfr htw hru
    rcases O1 with _ | ru1
    ·obtain rfl : O = none := by
      rw [HO2.out, ← HPL.out, HLN.out]; rfl
     clear HO2 HPL HLN HOR HRU HG HO1 hb3
     go_wp2
     refine bodyPost_ret (v := .tuple #[.agg #[.slice none 0 0, .slice none 0 0], .bool false]) ?_ rfl ⟨_, _, rfl, (TwoX.start w.heap.size _).ow, ?_⟩
     ·simp [results, Tryz.results6, go_sem, u0, u1, uf, n1, n2, n3, n4, lr3]
     ·exact bwT
    have HPN := Lib.hid (show linesI (ls.drop (k + 1)) (rs ++ [(nm, sx, pl, fr, tw)], es) = P by
     rw [← HPL.out, HLN.out, HRU.out]; rfl)
    clear HPL HLN HRU HO1
    go_wp2_with (at_builtin; refine wpList_push_t1 rfl rfl slRule rfl (ad := ⟨w3.heap.size + 1, 0, none⟩) rfl (cs := [.string nm, .int .i64 sx, .int .i64 pl, .slice fao fn fcap, .slice tao tn tcap]) (y := ((nm, sx, pl, fr, tw) : Rul)) (lx := wb.heap.size) (hx' := w3.heap.size) ?c1 (w0 := wb) HG.out ?c2 (Nat.le_refl _) ?c3 (HOR.out.below ?c4) (by unfold maxLen; omega) (by omega) ?_)
    case c1 =>
     intro j c hj
     match j, hj with
     | 0, hj => simp at hj; subst hj; simp [Addr.add, go_sem]
     | 1, hj => simp at hj; subst hj; simp [Addr.add, go_sem]
     | 2, hj => simp at hj; subst hj; simp [Addr.add, go_sem]
     | 3, hj => simp at hj; subst hj; simp [Addr.add, go_sem]
     | 4, hj => simp at hj; subst hj; simp [Addr.add, go_sem]
    case c2 => omega
    case c3 => exact Below.trans hb3 bwT
    case c4 => exact bwT
    intro a5 c5 w5 hT5 hb5 _
    have hp5 : Below (wL.heap.size + 1) wb w5 := (hb3.mono (by omega)).trans (Below.trans (show Below (wL.heap.size + 1) w3 _ from bwT) hb5)
    have HT5 := Lib.hid hT5
    have h0 := oldc hp5 (Nat.lt_succ_self _) g0
    have h1 := oldc hp5 (Nat.lt_succ_self _) g1
    have hf5 : ∀ o, w5.frozen? ⟨wL.heap.size, o, none⟩ = false := fun o => (hp5.frozen (p := ⟨wL.heap.size, o, none⟩) (Nat.lt_succ_self _)).trans (gf o)
    have s5 := hp5.size
    obtain ⟨W8, hW8⟩ : ∃ W : World, W = w5.setCell ⟨wL.heap.size, 0, none⟩ (.slice a5 (rs.length + 1) c5) := ⟨_, rfl⟩
    have m0 : W8.cell? ⟨wL.heap.size, 0, none⟩ = some (.slice a5 (rs.length + 1) c5) := by rw [hW8]; exact World.cell?_setCell_same _ _ _ h0
    have m1 : W8.cell? ⟨wL.heap.size, 1, none⟩ = some (.slice a2 es.length c2) := by rw [hW8]; simp [go_sem, h1]
    have mf : ∀ o, W8.frozen? ⟨wL.heap.size, o, none⟩ = false := by rw [hW8]; intro o; exact frozen_setCell _ _ _ _ _ (hf5 o)
    have ml : wL.heap.size < W8.heap.size := by rw [hW8]; simp <;> omega
    have HT8 := Lib.hid (show TwoX (wL.heap.size + 1) W8 (.slice a5 (rs.length + 1) c5) (.slice a2 es.length c2) (rs ++ [(nm, sx, pl, fr, tw)]) es by rw [hW8]; exact HT5.out.zone zmT)
    have hb8 : Below wL.heap.size wL W8 := by rw [hW8]; exact (hbb.trans (hp5.mono (by omega))).setCell (Nat.le_refl _) _
    go_upto_region 20 with fail
    rw [← hW8]
    clear hW8 hT5 HT5 HOR hb3 hb5 hp5 HG t0 t1 tf u0 u1 uf h0 h1 hf5 g0 g1 gf
    go_wp2
    go_roundw
    case rel => exact ⟨k + 1, _, _, _, _, by omega, by go_num, m0, m1, mf, ml, HT8, HPN, by simp; omega, hb8⟩
    case measure => simp [intOf]; omega
   ·obtain ⟨x2, hx2⟩ : ∃ y, y = txt (Lib.trimPrefix x.data.toList [116, 101, 114, 109, 32]) := ⟨_, rfl⟩
    obtain ⟨b2, hlet_b2⟩ : ∃ r, r = Lib.hasPrefix x.data.toList [116, 101, 114, 109, 32] := ⟨_, rfl⟩
    have HB2 := Lib.hid hlet_b2
    clear hlet_b2
    have HX2 := Lib.hid hx2
    have hx2l : x2.data.toList = Lib.trimPrefix x.data.toList [116, 101, 114, 109, 32] := by rw [hx2, list_txt]
    have sx2 : x2.size ≤ x.size := by rw [hx2, size_txt]; have := trimPre_len x.data.toList [116, 101, 114, 109, 32]; rw [← Lib.size_eq] at this; exact this
    obtain ⟨A, hA⟩ : ∃ y, y = txt (Lib.cut x2.data.toList [32]).1 := ⟨_, rfl⟩
    obtain ⟨Bt, hBt⟩ : ∃ y, y = txt (Lib.cut x2.data.toList [32]).2.1 := ⟨_, rfl⟩
    obtain ⟨c, hc⟩ : ∃ y, y = (Lib.cut x2.data.toList [32]).2.2 := ⟨_, rfl⟩
    obtain ⟨O1, hO1⟩ : ∃ q, q = typeI A.data.toList := ⟨_, rfl⟩
    have sA : A.size ≤ x2.size := by rw [hA, size_txt]; have := (cut_len x2.data.toList [32]).1; rw [← Lib.size_eq] at this; exact this
    have sBt : Bt.size ≤ x2.size := by rw [hBt, size_txt]; have := (cut_len x2.data.toList [32]).2; rw [← Lib.size_eq] at this; exact this
    have HLN := Lib.hid (show lineI (rs, es) l = if b2 = true ∧ c = true then O1.map fun t => (rs, es ++ [(t, Bt)]) else none by
     rw [lineI, ← HXL.out, if_neg (by rw [← HB1.out]; decide), ← hx2l, ← hc, ← HB2.out, hO1, hA, hBt, list_txt])
    have HA := Lib.hid hA
    have HBt := Lib.hid hBt
    have HC := Lib.hid hc
    have HO1 := Lib.hid hO1
    clear hx2 hx2l hA hBt hc hO1 HB1 HX1
    go_wp2_with fail
    refine (cutPre_any _ x ⟨#[116, 101, 114, 109, 32]⟩ x2 b2 HX2.out HB2.out).mono ?_
    rintro e3 w3 ⟨rfl, hw3⟩
    obtain rfl := hw3.symm
    go_wp2_with fail
    refine (cut_any _ m (oldc hBb hgl HM.out) x2 ⟨#[32]⟩ A Bt (by omega) c HA.out HBt.out HC.out).mono ?_
    rintro e4 w4 ⟨rfl, hb4⟩
    have s4 := hb4.size
    go_wp2_with fail
    refine (parseTypeI_any _ A (by omega) O1 HO1.out).mono ?_
    rintro e5 w5 ⟨ta, tb, rfl, ho5, hb5'⟩
    have hb5 : Below wb.heap.size wb w5 := hb4.trans (hb5'.mono s4)
    obtain ⟨t, ht⟩ : ∃ t, t = O1.getD (0, []) := ⟨_, rfl⟩
    rw [← ht] at ho5
    have HTT := Lib.hid ht
    obtain ⟨te, tl⟩ := t
    obtain ⟨rfl, -, hts⟩ := ho5.rd.kin
    obtain ⟨bao, bn, bcap, rfl, -⟩ := hts.shape
    have s5 := hb5.size
    have t0 := oldc hb5 lY g0
    have t1 := oldc hb5 lY g1
    have tf : ∀ o, w5.frozen? ⟨wL.heap.size, o, none⟩ = false := fun o => (hb5.frozen (p := ⟨wL.heap.size, o, none⟩) lY).trans (gf o)
    have u0 := oldc hb5 lrb y0
    have u1 := oldc hb5 lrb y1
    have uf : ∀ o, w5.frozen? ⟨w.heap.size, o, none⟩ = false := fun o => (hb5.frozen (p := ⟨w.heap.size, o, none⟩) lrb).trans (yf o)
    have l5 : wL.heap.size < w5.heap.size := by omega
    have lr5 : w.heap.size < w5.heap.size := by omega
    have n1 : ¬ wL.heap.size = w5.heap.size := by omega
    have n2 : ¬ w5.heap.size = wL.heap.size := by omega
    have n3 : ¬ w.heap.size = w5.heap.size := by omega
    have n4 : ¬ w5.heap.size = w.heap.size := by omega
    have hB5 : Below w.heap.size w w5 := hBb.trans (hb5.mono (by omega))
    have HOR := Lib.hid (show Ow wb.heap.size w5.heap.size w5 [.int .i64 te, .slice bao bn bcap] ((te, tl) : Kin) from ho5.mono s4 (Nat.le_refl _))
    clear ho5 hts ht hb4 hb5' HX2 HB2 HA HBt HC HO1
    cases b2
    ·obtain rfl : O = none := by
      rw [HO2.out, ← HPL.out, HLN.out, if_neg (fun h => by cases h.1)]; rfl
     clear HO2 HPL HLN HOR HTT HG hb5
     go_wp2
     refine bodyPost_ret (v := .tuple #[.agg #[.slice none 0 0, .slice none 0 0], .bool false]) ?_ rfl ⟨_, _, rfl, (TwoX.start w.heap.size _).ow, ?_⟩
     ·simp [results, Tryz.results6, go_sem, u0, u1, uf, n1, n2, n3, n4, lr5]
     ·exact bwT
    cases c
    ·obtain rfl : O = none := by
      rw [HO2.out, ← HPL.out, HLN.out, if_neg (fun h => by cases h.2)]; rfl
     clear HO2 HPL HLN HOR HTT HG hb5
     go_wp2
     refine bodyPost_ret (v := .tuple #[.agg #[.slice none 0 0, .slice none 0 0], .bool false]) ?_ rfl ⟨_, _, rfl, (TwoX.start w.heap.size _).ow, ?_⟩
     ·simp [results, Tryz.results6, go_sem, u0, u1, uf, n1, n2, n3, n4, lr5]
     ·exact bwT
    rcases O1 with _ | t1x
    ·obtain rfl : O = none := by
      rw [HO2.out, ← HPL.out, HLN.out, if_pos ⟨rfl, rfl⟩]; rfl
     clear HO2 HPL HLN HOR HTT HG hb5
     go_wp2
     refine bodyPost_ret (v := .tuple #[.agg #[.slice none 0 0, .slice none 0 0], .bool false]) ?_ rfl ⟨_, _, rfl, (TwoX.start w.heap.size _).ow, ?_⟩
     ·simp [results, Tryz.results6, go_sem, u0, u1, uf, n1, n2, n3, n4, lr5]
     ·exact bwT
    have HPN := Lib.hid (show linesI (ls.drop (k + 1)) (rs, es ++ [((te, tl), Bt)]) = P by
     rw [← HPL.out, HLN.out, if_pos ⟨rfl, rfl⟩, HTT.out]; rfl)
    clear HPL HLN HTT
    go_wp2_with (at_builtin; refine wpList_push_t2 rfl rfl slEntry rfl (ad := ⟨w5.heap.size + 1, 0, none⟩) rfl (cs := [.int .i64 te, .slice bao bn bcap, .string Bt]) (y := ((te, tl), Bt)) (lx := wb.heap.size) (hx' := w5.heap.size) ?c1 (w0 := wb) HG.out ?c2 (Nat.le_refl _) ?c3 ((HOR.out.ent_mk (by unfold maxLen; omega)).below ?c4) (by unfold maxLen; omega) (by omega) ?_)
    case c1 =>
     intro j c hj
     match j, hj with
     | 0, hj => simp at hj; subst hj; simp [Addr.add, go_sem]
     | 1, hj => simp at hj; subst hj; simp [Addr.add, go_sem]
     | 2, hj => simp at hj; subst hj; simp [Addr.add, go_sem]
    case c2 => omega
    case c3 => exact Below.trans hb5 bwT
    case c4 => exact bwT
    intro a6 c6 w6 hT6 hb6 _
    have hp6 : Below (wL.heap.size + 1) wb w6 := (hb5.mono (by omega)).trans (Below.trans (show Below (wL.heap.size + 1) w5 _ from bwT) hb6)
    have HT6 := Lib.hid hT6
    have h0 := oldc hp6 (Nat.lt_succ_self _) g0
    have h1 := oldc hp6 (Nat.lt_succ_self _) g1
    have hf6 : ∀ o, w6.frozen? ⟨wL.heap.size, o, none⟩ = false := fun o => (hp6.frozen (p := ⟨wL.heap.size, o, none⟩) (Nat.lt_succ_self _)).trans (gf o)
    have s6 := hp6.size
    obtain ⟨W8, hW8⟩ : ∃ W : World, W = w6.setCell ⟨wL.heap.size, 1, none⟩ (.slice a6 (es.length + 1) c6) := ⟨_, rfl⟩
    have m0 : W8.cell? ⟨wL.heap.size, 0, none⟩ = some (.slice a1 rs.length c1) := by rw [hW8]; simp [go_sem, h0]
    have m1 : W8.cell? ⟨wL.heap.size, 1, none⟩ = some (.slice a6 (es.length + 1) c6) := by rw [hW8]; exact World.cell?_setCell_same _ _ _ h1
    have mf : ∀ o, W8.frozen? ⟨wL.heap.size, o, none⟩ = false := by rw [hW8]; intro o; exact frozen_setCell _ _ _ _ _ (hf6 o)
    have ml : wL.heap.size < W8.heap.size := by rw [hW8]; simp <;> omega
    have HT8 := Lib.hid (show TwoX (wL.heap.size + 1) W8 (.slice a1 rs.length c1) (.slice a6 (es.length + 1) c6) rs (es ++ [((te, tl), Bt)]) by rw [hW8]; exact HT6.out.zone zmT)
    have hb8 : Below wL.heap.size wL W8 := by rw [hW8]; exact (hbb.trans (hp6.mono (by omega))).setCell (Nat.le_refl _) _
    go_upto_region 20 with fail
    rw [← hW8]
    clear hW8 hT6 HT6 HOR hb5 hb6 hp6 HG t0 t1 tf u0 u1 uf h0 h1 hf6 g0 g1 gf
    go_wp2
    go_roundw
    case rel => exact ⟨k + 1, _, _, _, _, by omega, by go_num, m0, m1, mf, ml, HT8, HPN, by simp; omega, hb8⟩
    case measure => simp [intOf]; omega
  ·obtain rfl : k = ls.length := by omega
   have hkI : ¬ (ls.length : Int) < (ls.length : Int) := by omega
   have HPE := Lib.hid (show some (rs, es) = P by
    have h := HP.out
    rw [List.drop_length] at h
    exact h)
   obtain ⟨r1, hlet_r1⟩ : ∃ r, r = isTerm (rs, es) := ⟨_, rfl⟩
   have H1 := Lib.hid hlet_r1
   clear hlet_r1
   obtain ⟨R, hR⟩ : ∃ R, R = trmTxt (rs, es) := ⟨_, rfl⟩
   have HR := Lib.hid hR
   have HO3 := Lib.hid (show O = if r1 = true ∧ R = s then some (rs, es) else none by
    rw [HO2.out, ← HPE.out, H1.out, hR]; rfl)
   clear HP HPE HO2 hR
   go_wp2_with fail
   refine (isTermI_b _ _ _ rs es HG.out.ow.rd r1 H1.out).mono ?_
   rintro e2 w5 ⟨rfl, hb5⟩
   have s5 := hb5.size
   have t0 := oldc hb5 lY g0
   have t1 := oldc hb5 lY g1
   have tf : ∀ o, w5.frozen? ⟨wL.heap.size, o, none⟩ = false := fun o => (hb5.frozen (p := ⟨wL.heap.size, o, none⟩) lY).trans (gf o)
   have u0 := oldc hb5 lrb y0
   have u1 := oldc hb5 lrb y1
   have uf : ∀ o, w5.frozen? ⟨w.heap.size, o, none⟩ = false := fun o => (hb5.frozen (p := ⟨w.heap.size, o, none⟩) lrb).trans (yf o)
   have l5 : wL.heap.size < w5.heap.size := by omega
   have lr5 : w.heap.size < w5.heap.size := by omega
   have n1 : ¬ wL.heap.size = w5.heap.size := by omega
   have n2 : ¬ w5.heap.size = wL.heap.size := by omega
   have n3 : ¬ w.heap.size = w5.heap.size := by omega
   have n4 : ¬ w5.heap.size = w.heap.size := by omega
   have hB5 : Below w.heap.size w w5 := hBb.trans (hb5.mono (by omega))
   have HG5 := Lib.hid (HG.out.below hb5)
   clear HG hb5 g0 g1 gf y0 y1 yf
   cases r1
   ·obtain rfl : O = none := by rw [HO3.out, if_neg (fun h => by cases h.1)]
    clear HO3 HG5 H1 HR
    go_wp2
    refine bodyPost_ret (v := .tuple #[.agg #[.slice none 0 0, .slice none 0 0], .bool false]) ?_ rfl ⟨_, _, rfl, (TwoX.start w.heap.size _).ow, ?_⟩
    ·simp [results, Tryz.results6, go_sem, u0, u1, uf, n1, n2, n3, n4, lr5]
    ·exact bwT
   go_wp2_with fail
   refine (formatTrmI_any _ _ _ (rs, es) HG5.out.ow.rd R HR.out).mono ?_
   rintro e3 w6 ⟨rfl, hb6⟩
   have s6 := hb6.size
   have t0 := oldc hb6 l5 t0
   have t1 := oldc hb6 l5 t1
   have u0 := oldc hb6 lr5 u0
   have u1 := oldc hb6 lr5 u1
   have uf : ∀ o, w6.frozen? ⟨w.heap.size, o, none⟩ = false := fun o => (hb6.frozen (p := ⟨w.heap.size, o, none⟩) lr5).trans (uf o)
   have hB6 : Below w.heap.size w w6 := hB5.trans (hb6.mono (by omega))
   have HG6 := Lib.hid (HG5.out.below hb6)
   have lr5 : w.heap.size < w6.heap.size := by omega
   clear HG5 hb6 tf
   by_cases e : R = s
   ·have e1 : (R.toList == s.toList) = true := by rw [text_eq]; exact decide_eq_true e
    have e2 : (R.toList != s.toList) = false := by rw [bne, e1]; rfl
    obtain rfl : O = some (rs, es) := by rw [HO3.out, if_pos ⟨trivial, e⟩]
    clear HO3 H1 HR e
    go_wp2
    refine bodyPost_ret (v := .tuple #[.agg #[.slice a1 rs.length c1, .slice a2 es.length c2], .bool true]) ?_ rfl ⟨_, _, rfl, (HG6.out.zone zmT).ow.mono (by omega) (Nat.le_refl _), ?_⟩
    ·simp [results, Tryz.results6, go_sem, u0, u1, uf, t0, t1, nY1, nY2]
    ·exact bwT
   ·have e1 : (R.toList == s.toList) = false := by rw [text_eq]; exact decide_eq_false e
    have e2 : (R.toList != s.toList) = true := by rw [bne, e1]; rfl
    obtain rfl : O = none := by rw [HO3.out, if_neg (fun h => e h.2)]
    clear HO3 H1 HR e HG6
    go_wp2
    refine bodyPost_ret (v := .tuple #[.agg #[.slice none 0 0, .slice none 0 0], .bool false]) ?_ rfl ⟨_, _, rfl, (TwoX.start w.heap.size _).ow, ?_⟩
    ·simp [results, Tryz.results6, go_sem, u0, u1, uf, n1, n2, n3, n4, lr5]
    ·exact bwT
end
end Go.Proofs.YtdpkldapobbnpaaGreatDoor
