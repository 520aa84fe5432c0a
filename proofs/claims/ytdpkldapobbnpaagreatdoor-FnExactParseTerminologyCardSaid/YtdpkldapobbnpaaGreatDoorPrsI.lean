/- Contracts: how the program cuts texts and reads steps. Written by prsi_gen.py. -/
import Derived.Test.YtdpkldapobbnpaaGreatDoorPrsS2
import Derived.Test.YtdpkldapobbnpaaGreatDoorShfS
namespace Go.Proofs.YtdpkldapobbnpaaGreatDoor
set_option linter.unusedVariables false
set_option linter.unusedSimpArgs false
open Go.RowKit

/-- A value comes back; the world is as it was. -/
def PostQ (w : World) (v : Value) (e : Ending) (w' : World) : Prop := e = .returned v ∧ w' = w
/-- A list of the call's own and a Bool come back. -/
def PostLB {α : Type} [Rep α] (w : World) (x : α) (b : Bool) (e : Ending) (w' : World) : Prop :=
  ∃ u, e = .returned (.tuple #[u, .bool b]) ∧ Ow w.heap.size w'.heap.size w' [u] x ∧ Below w.heap.size w w'
theorem cutPre_any (w : World) (s p r : ByteArray) (b : Bool) (hr : r = txt (Lib.trimPrefix s.data.toList p.data.toList)) (hb : b = Lib.hasPrefix s.data.toList p.data.toList) :
    Calls Tryz.prog 24 #[.string s, .string p] w (PostQ w (.tuple #[.string r, .bool b])) := by
  subst hr hb
  exact Any.strings_CutPrefix lyPre s p w
theorem cutSuf_any (w : World) (s p r : ByteArray) (hs : s.size ≤ maxLen) (b : Bool) (hr : r = txt (Lib.trimSuffix s.data.toList p.data.toList)) (hb : b = Lib.hasSuffix s.data.toList p.data.toList) :
    Calls Tryz.prog 63 #[.string s, .string p] w (PostQ w (.tuple #[.string r, .bool b])) := by
  subst hr hb
  unfold maxLen at hs
  exact Any.strings_CutSuffix lySuf s p w (by omega)
theorem cut_any (w : World) (m : Int) (hm : w.cell? ⟨0, 0, none⟩ = some (.int .i64 m)) (s p a b : ByteArray) (hs : s.size ≤ 1048576) (c : Bool) (ha : a = txt (Lib.cut s.data.toList p.data.toList).1) (hb : b = txt (Lib.cut s.data.toList p.data.toList).2.1) (hc : c = (Lib.cut s.data.toList p.data.toList).2.2) :
    Calls Tryz.prog 26 #[.string s, .string p] w (PostV w (.tuple #[.string a, .string b, .bool c])) := by
  subst ha hb hc
  refine (Any.strings_Cut { lyCut with } s p m w (by omega) hm).mono ?_
  rintro e w' ⟨rfl, n, rfl⟩
  exact ⟨rfl, below_drewN (Below.refl _ _) n⟩
theorem idx_any (w : World) (c : UInt8) (ci k : Int) (hc : ci = (c.toNat : Int)) (hk : k + 1 = knd c) :
    Calls Tryz.prog 106 #[.string ⟨#[70, 77, 66, 90, 83, 68, 72, 87]⟩, .int .u8 ci] w (PostQ w (.int .i64 k)) := by
  refine (Any.strings_IndexByte lyIdx ⟨#[70, 77, 66, 90, 83, 68, 72, 87]⟩ ci w).mono ?_
  rintro e w' ⟨rfl, rfl⟩
  subst hc
  have : k = Lib.indexByte lts c := by unfold knd at hk; omega
  subst this
  refine ⟨?_, rfl⟩
  simp [lts]

set_option maxRecDepth 20000 in
set_option maxHeartbeats 4000000 in
theorem cutEgoI_any (w : World) (s : ByteArray) (e : Int) (r : ByteArray) (he : e = (cutE s.data.toList).1) (hr : r = txt (cutE s.data.toList).2) :
    Calls Tryz.prog 62 #[.string s] w (PostV w (.tuple #[.int .i64 e, .string r])) := by
  have HE := Lib.hid he
  have HR := Lib.hid hr
  obtain ⟨b1, hlet_b1⟩ : ∃ r, r = Lib.hasPrefix s.data.toList [109, 58] := ⟨_, rfl⟩
  have H1 := Lib.hid hlet_b1
  clear hlet_b1
  obtain ⟨b2, hlet_b2⟩ : ∃ r, r = Lib.hasPrefix s.data.toList [119, 58] := ⟨_, rfl⟩
  have H2 := Lib.hid hlet_b2
  clear hlet_b2
  obtain ⟨X1, hX1⟩ : ∃ X, X = egoTxt 1 := ⟨_, rfl⟩
  obtain ⟨X2, hX2⟩ : ∃ X, X = egoTxt 2 := ⟨_, rfl⟩
  obtain ⟨r1, hr1⟩ : ∃ r, r = txt (Lib.trimPrefix s.data.toList X1.data.toList) := ⟨_, rfl⟩
  obtain ⟨r2, hr2⟩ : ∃ r, r = txt (Lib.trimPrefix s.data.toList X2.data.toList) := ⟨_, rfl⟩
  have HB1 := Lib.hid (show b1 = Lib.hasPrefix s.data.toList X1.data.toList by rw [H1.out, hX1]; rfl)
  have HB2 := Lib.hid (show b2 = Lib.hasPrefix s.data.toList X2.data.toList by rw [H2.out, hX2]; rfl)
  have HT1 := Lib.hid (show b1 = true → r1 = txt (s.data.toList.drop 2) by intro h; rw [hr1, Lib.trimPrefix, ← HB1.out, h, hX1]; rfl)
  have HT2 := Lib.hid (show b2 = true → r2 = txt (s.data.toList.drop 2) by intro h; rw [hr2, Lib.trimPrefix, ← HB2.out, h, hX2]; rfl)
  have HX1 := Lib.hid hX1
  have HX2 := Lib.hid hX2
  have HR1 := Lib.hid hr1
  have HR2 := Lib.hid hr2
  clear he hr hX1 hX2 hr1 hr2
  go_enter Tryz.func62, Tryz.ntmps62
  go_wp2
  go_loopw [4, 5, 6] (fun s4 _ _ wr => ∃ k : Int, (k = 1 ∨ k = 2 ∨ k = 3) ∧ s4 = .int .i64 k ∧ Hid (1 < k → b1 = false) ∧ Hid (2 < k → b2 = false) ∧ Below w.heap.size w wr) (fun s4 _ _ _ => (4 - intOf s4).toNat)
  case atStart => exact ⟨1, .inl rfl, rfl, Lib.hid (fun h => absurd h (by decide)), Lib.hid (fun h => absurd h (by decide)), Below.refl _ _⟩
  case round =>
    obtain ⟨wb, hwb⟩ : ∃ wm : World, wm = wr := ⟨_, rfl⟩
    subst hwb
    obtain ⟨k, hk, rfl, hk1, hk2, hbb⟩ := hrel
    have sB := hbb.size
    rcases hk with rfl | rfl | rfl
    · clear hk1 hk2
      go_wp2_with fail
      refine (prefixI_any _ 1 (by omega) X1 HX1.out).mono ?_
      rintro e1 w1 ⟨rfl, hb1⟩
      have hB1 : Below w.heap.size w w1 := Below.after hbb hb1 sB
      go_wp2_with fail
      refine (cutPre_any _ s X1 r1 b1 HR1.out HB1.out).mono ?_
      rintro e2 w2 ⟨rfl, rfl⟩
      cases b1
      · go_wp2
        go_roundw
        case rel => exact ⟨2, .inr (.inl rfl), rfl, Lib.hid (fun _ => by first | trivial | rfl), Lib.hid (fun h => absurd h (by decide)), hB1⟩
        case measure => simp [intOf]
      · obtain rfl : e = 1 := by rw [HE.out, cutE, ← H1.out]; rfl
        obtain rfl : r = r1 := by rw [HR.out, HT1.out rfl, cutE, ← H1.out]; rfl
        go_wp2
        go_ret2
        exact ⟨rfl, hB1⟩
    · obtain rfl : b1 = false := hk1.out (by decide)
      clear hk1 hk2
      go_wp2_with fail
      refine (prefixI_any _ 2 (by omega) X2 HX2.out).mono ?_
      rintro e1 w1 ⟨rfl, hb1⟩
      have hB1 : Below w.heap.size w w1 := Below.after hbb hb1 sB
      go_wp2_with fail
      refine (cutPre_any _ s X2 r2 b2 HR2.out HB2.out).mono ?_
      rintro e2 w2 ⟨rfl, rfl⟩
      cases b2
      · go_wp2
        go_roundw
        case rel => exact ⟨3, .inr (.inr rfl), rfl, Lib.hid (fun _ => by first | trivial | rfl), Lib.hid (fun _ => by first | trivial | rfl), hB1⟩
        case measure => simp [intOf]
      · obtain rfl : e = 2 := by rw [HE.out, cutE, ← H1.out, ← H2.out]; rfl
        obtain rfl : r = r2 := by rw [HR.out, HT2.out rfl, cutE, ← H1.out, ← H2.out]; rfl
        go_wp2
        go_ret2
        exact ⟨rfl, hB1⟩
    · obtain rfl : b1 = false := hk1.out (by decide)
      obtain rfl : b2 = false := hk2.out (by decide)
      obtain rfl : e = 0 := by rw [HE.out, cutE, ← H1.out, ← H2.out]; rfl
      obtain rfl : r = s := by rw [HR.out, cutE, ← H1.out, ← H2.out]; exact txt_list _
      clear hk1 hk2
      go_wp2
      go_ret2
      exact ⟨rfl, hbb⟩
theorem drop_at {l : Bs} {i : Nat} {c : UInt8} (h : l[i]? = some c) : l.drop i = c :: l.drop (i + 1) := drop_cons h
theorem readI_age {l : Bs} {i : Nat} {c d : UInt8} (hc : l[i]? = some c) (h : c = 101 ∨ c = 121) (hd : l[i + 1]? = some d) : readI (l.drop i) = if knd d = 0 then none else (readI (l.drop (i + 2))).map ((knd d, if c = 101 then 1 else 2) :: ·) := by
  rw [drop_at hc, drop_at hd, readI, if_pos h]
theorem readI_age_end {l : Bs} {i : Nat} {c : UInt8} (hc : l[i]? = some c) (h : c = 101 ∨ c = 121) (hd : l.length ≤ i + 1) : readI (l.drop i) = none := by
  rw [drop_at hc, List.drop_eq_nil_of_le hd, readI, if_pos h]
theorem readI_one {l : Bs} {i : Nat} {c : UInt8} (hc : l[i]? = some c) (h : ¬ (c = 101 ∨ c = 121)) : readI (l.drop i) = if knd c = 0 then none else (readI (l.drop (i + 1))).map ((knd c, 0) :: ·) := by
  rw [drop_at hc]
  match l.drop (i + 1) with
  | [] => simp [readI, h]
  | d :: r => rw [readI, if_neg h]
set_option maxRecDepth 20000 in
set_option maxHeartbeats 16000000 in
theorem readI_any (w : World) (s : ByteArray) (hs : s.size ≤ 1099511627776) (O : Option (List Stp)) (hO : O = readI s.data.toList) :
    Calls Tryz.prog 64 #[.string s] w (PostLB w (O.getD []) O.isSome) := by
  have HO := Lib.hid (show (readI (s.data.toList.drop 0)).map (([] : List Stp) ++ ·) = O by rw [hO, List.drop_zero]; cases readI s.data.toList <;> simp)
  clear hO
  go_enter Tryz.func64, Tryz.ntmps64
  go_wp2
  go_loopw [4, 5, 6] (fun s4 s5 _ wr => ∃ (i : Nat) (P : List Stp), i ≤ s.size ∧ P.length ≤ i ∧ s5 = .int .i64 i ∧ Hid ((readI (s.data.toList.drop i)).map (P ++ ·) = O) ∧ Hid (GL true w.heap.size w.heap.size wr.heap.size wr 106 s4 P) ∧ Below w.heap.size w wr) (fun _ s5 _ _ => s.size - (intOf s5).toNat)
  case atStart => exact ⟨0, [], Nat.zero_le _, Nat.le_refl _, rfl, HO, Lib.hid (GL.start _ _ _ _ _ _), Below.refl _ _⟩
  case round =>
    obtain ⟨wb, hwb⟩ : ∃ wm : World, wm = wr := ⟨_, rfl⟩
    subst hwb
    obtain ⟨i, P, hi, hP, rfl, hT, hG, hbb⟩ := hrel
    have sB := hbb.size
    obtain ⟨pao, pcap, rfl, -, -⟩ := hG.out.len
    by_cases hlt : i < s.size
    rotate_left
    · have hI : ¬ (i : Int) < (s.size : Int) := by omega
      obtain rfl : O = some P := by
        rw [← hT.out, show s.data.toList.drop i = [] from List.drop_eq_nil_of_le (by rw [← Lib.size_eq]; omega), readI]; simp
      have HOW := Lib.hid (hG.out.ow (l0 := w.heap.size) (Nat.le_refl _) (Nat.le_refl _))
      clear hT hG
      go_wp2
      go_ret2
      exact ⟨_, rfl, HOW.out, hbb⟩
    have hI : (i : Int) < (s.size : Int) := by omega
    have hc := byte_at s hlt
    obtain ⟨c, hcc⟩ : ∃ c, c = s[i]'hlt := ⟨_, rfl⟩
    rw [← hcc] at hc
    by_cases c1 : c = 101
    · have k1 : (((s[i]'hlt).toNat : Int) == 101) = true := by rw [← hcc, c1]; rfl
      by_cases hl2 : i + 1 < s.size
      rotate_left
      · obtain rfl : O = none := by rw [← hT.out, readI_age_end hc (.inl c1) (by rw [← Lib.size_eq]; omega)]; rfl
        have hE : ((i : Int) + 1 == (s.size : Int)) = true := by rw [beq_iff_eq]; omega
        clear hT hG hc hcc c1 
        go_wp2
        go_ret2
        exact ⟨_, rfl, Ow.nil _ _ _, bwT⟩
      have hI2 : (i : Int) + 1 < (s.size : Int) := by omega
      have hE : ((i : Int) + 1 == (s.size : Int)) = false := by rw [beq_eq_false_iff_ne]; omega
      have hd := byte_at s hl2
      obtain ⟨d, hdd⟩ : ∃ d, d = s[i + 1]'hl2 := ⟨_, rfl⟩
      rw [← hdd] at hd
      have HN := Lib.hid (readI_age hc (.inl c1) hd)
      rw [show (if c = 101 then (1 : Int) else 2) = 1 from if_pos c1] at HN
      obtain ⟨kk, hkk⟩ : ∃ kk : Int, kk + 1 = knd d := ⟨knd d - 1, by omega⟩
      have hkr := knd_range d
      rw [← hkk] at HN hkr
      have HKK := Lib.hid hkk
      have HDD := Lib.hid (show ((s[i + 1]'hl2).toNat : Int) = (d.toNat : Int) by rw [← hdd])
      clear hkk hdd hc hcc hd c1
      go_wp2_with fail
      refine (idx_any _ d _ kk HDD.out HKK.out).mono ?_
      rintro e2 w2 ⟨rfl, rfl⟩
      by_cases hz : kk + 1 = 0
      · have hz1 : (kk + 1 == 0) = true := by simp [hz]
        obtain rfl : O = none := by rw [← hT.out, HN.out, if_pos hz]; rfl
        clear hT HN hG
        go_wp2
        go_ret2
        exact ⟨_, rfl, Ow.nil _ _ _, bwT⟩
      have hz1 : (kk + 1 == 0) = false := by simp [hz]
      have HT2 := Lib.hid (show (readI (s.data.toList.drop (i + 2))).map ((P ++ [(kk + 1, 1)]) ++ ·) = O by
        rw [← hT.out, HN.out, if_neg hz]
        cases readI (s.data.toList.drop (i + 2)) <;> simp)
      clear hT HN hz
      go_wp2_with (at_builtin; refine wpList_push rfl rfl slStep (by show (0 : Nat) < 2; omega) (hG.out.below ?b1x2).top rfl (ad := ⟨wb.heap.size + 1, 0, none⟩) rfl (cs := [.int .i64 (kk + 1), .int .i64 1]) (y := (kk + 1, 1)) (lx := wb.heap.size + 2) (hx' := wb.heap.size + 2) ?c1x2 (It.flat (z := true) (w0 := wb) (fp := []) (repStp_mk (by unfold I64; omega) (by unfold I64; omega))) ?c4x2 (.inl ?c5x2) (by unfold maxLen; omega) (by omega) ?c2x2 ?_)
      case b1x2 => exact bwT
      case c1x2 =>
        intro j c hj
        match j, hj with
        | 0, hj => simp at hj; subst hj; simp [Addr.add, go_sem]
        | 1, hj => simp at hj; subst hj; simp [Addr.add, go_sem]
      case c4x2 => omega
      case c5x2 => simp
      case c2x2 => simp; omega
      intro v' w1 hG1 _ hb1
      have HG := Lib.hid hG1
      have hB1 : Below w.heap.size w w1 := Below.trans (show Below w.heap.size w _ from bwT) hb1
      have hPl : (P ++ [(kk + 1, 1)]).length ≤ i + 2 := by simp; omega
      clear hG hG1 hb1
      go_wp2
      go_roundw
      case rel => exact ⟨i + 2, P ++ [(kk + 1, 1)], by omega, hPl, by go_num, HT2, HG, hB1⟩
      case measure => simp [intOf]; omega
    have k1 : (((s[i]'hlt).toNat : Int) == 101) = false := by rw [← hcc, beq_eq_false_iff_ne]; intro e; exact c1 (UInt8.toNat.inj (by have : (101 : UInt8).toNat = 101 := rfl; omega))
    by_cases c2 : c = 121
    · have k2 : (((s[i]'hlt).toNat : Int) == 121) = true := by rw [← hcc, c2]; rfl
      by_cases hl2 : i + 1 < s.size
      rotate_left
      · obtain rfl : O = none := by rw [← hT.out, readI_age_end hc (.inr c2) (by rw [← Lib.size_eq]; omega)]; rfl
        have hE : ((i : Int) + 1 == (s.size : Int)) = true := by rw [beq_iff_eq]; omega
        clear hT hG hc hcc c1 c2
        go_wp2
        go_ret2
        exact ⟨_, rfl, Ow.nil _ _ _, bwT⟩
      have hI2 : (i : Int) + 1 < (s.size : Int) := by omega
      have hE : ((i : Int) + 1 == (s.size : Int)) = false := by rw [beq_eq_false_iff_ne]; omega
      have hd := byte_at s hl2
      obtain ⟨d, hdd⟩ : ∃ d, d = s[i + 1]'hl2 := ⟨_, rfl⟩
      rw [← hdd] at hd
      have HN := Lib.hid (readI_age hc (.inr c2) hd)
      rw [show (if c = 101 then (1 : Int) else 2) = 2 from if_neg c1] at HN
      obtain ⟨kk, hkk⟩ : ∃ kk : Int, kk + 1 = knd d := ⟨knd d - 1, by omega⟩
      have hkr := knd_range d
      rw [← hkk] at HN hkr
      have HKK := Lib.hid hkk
      have HDD := Lib.hid (show ((s[i + 1]'hl2).toNat : Int) = (d.toNat : Int) by rw [← hdd])
      clear hkk hdd hc hcc hd c1 c2
      go_wp2_with fail
      refine (idx_any _ d _ kk HDD.out HKK.out).mono ?_
      rintro e2 w2 ⟨rfl, rfl⟩
      by_cases hz : kk + 1 = 0
      · have hz1 : (kk + 1 == 0) = true := by simp [hz]
        obtain rfl : O = none := by rw [← hT.out, HN.out, if_pos hz]; rfl
        clear hT HN hG
        go_wp2
        go_ret2
        exact ⟨_, rfl, Ow.nil _ _ _, bwT⟩
      have hz1 : (kk + 1 == 0) = false := by simp [hz]
      have HT2 := Lib.hid (show (readI (s.data.toList.drop (i + 2))).map ((P ++ [(kk + 1, 2)]) ++ ·) = O by
        rw [← hT.out, HN.out, if_neg hz]
        cases readI (s.data.toList.drop (i + 2)) <;> simp)
      clear hT HN hz
      go_wp2_with (at_builtin; refine wpList_push rfl rfl slStep (by show (0 : Nat) < 2; omega) (hG.out.below ?b1x3).top rfl (ad := ⟨wb.heap.size + 1, 0, none⟩) rfl (cs := [.int .i64 (kk + 1), .int .i64 2]) (y := (kk + 1, 2)) (lx := wb.heap.size + 2) (hx' := wb.heap.size + 2) ?c1x3 (It.flat (z := true) (w0 := wb) (fp := []) (repStp_mk (by unfold I64; omega) (by unfold I64; omega))) ?c4x3 (.inl ?c5x3) (by unfold maxLen; omega) (by omega) ?c2x3 ?_)
      case b1x3 => exact bwT
      case c1x3 =>
        intro j c hj
        match j, hj with
        | 0, hj => simp at hj; subst hj; simp [Addr.add, go_sem]
        | 1, hj => simp at hj; subst hj; simp [Addr.add, go_sem]
      case c4x3 => omega
      case c5x3 => simp
      case c2x3 => simp; omega
      intro v' w1 hG1 _ hb1
      have HG := Lib.hid hG1
      have hB1 : Below w.heap.size w w1 := Below.trans (show Below w.heap.size w _ from bwT) hb1
      have hPl : (P ++ [(kk + 1, 2)]).length ≤ i + 2 := by simp; omega
      clear hG hG1 hb1
      go_wp2
      go_roundw
      case rel => exact ⟨i + 2, P ++ [(kk + 1, 2)], by omega, hPl, by go_num, HT2, HG, hB1⟩
      case measure => simp [intOf]; omega
    have k2 : (((s[i]'hlt).toNat : Int) == 121) = false := by rw [← hcc, beq_eq_false_iff_ne]; intro e; exact c2 (UInt8.toNat.inj (by have : (121 : UInt8).toNat = 121 := rfl; omega))
    have hE : ((i : Int) == (s.size : Int)) = false := by rw [beq_eq_false_iff_ne]; omega
    have HN := Lib.hid (readI_one hc (fun h => by rcases h with h | h; exact c1 h; exact c2 h))
    obtain ⟨d, hdd⟩ : ∃ d, d = s[i]'hlt := ⟨_, rfl⟩
    rw [show c = d from hcc.trans hdd.symm] at HN
    obtain ⟨kk, hkk⟩ : ∃ kk : Int, kk + 1 = knd d := ⟨knd d - 1, by omega⟩
    have hkr := knd_range d
    rw [← hkk] at HN hkr
    have HKK := Lib.hid hkk
    have HDD := Lib.hid (show ((s[i]'hlt).toNat : Int) = (d.toNat : Int) by rw [← hdd])
    clear hkk hdd hc hcc c1 c2
    go_wp2_with fail
    refine (idx_any _ d _ kk HDD.out HKK.out).mono ?_
    rintro e2 w2 ⟨rfl, rfl⟩
    by_cases hz : kk + 1 = 0
    · have hz1 : (kk + 1 == 0) = true := by simp [hz]
      obtain rfl : O = none := by rw [← hT.out, HN.out, if_pos hz]; rfl
      clear hT HN hG
      go_wp2
      go_ret2
      exact ⟨_, rfl, Ow.nil _ _ _, bwT⟩
    have hz1 : (kk + 1 == 0) = false := by simp [hz]
    have HT2 := Lib.hid (show (readI (s.data.toList.drop (i + 1))).map ((P ++ [(kk + 1, 0)]) ++ ·) = O by
      rw [← hT.out, HN.out, if_neg hz]
      cases readI (s.data.toList.drop (i + 1)) <;> simp)
    clear hT HN hz
    go_wp2_with (at_builtin; refine wpList_push rfl rfl slStep (by show (0 : Nat) < 2; omega) (hG.out.below ?b1x1).top rfl (ad := ⟨wb.heap.size + 1, 0, none⟩) rfl (cs := [.int .i64 (kk + 1), .int .i64 0]) (y := (kk + 1, 0)) (lx := wb.heap.size + 2) (hx' := wb.heap.size + 2) ?c1x1 (It.flat (z := true) (w0 := wb) (fp := []) (repStp_mk (by unfold I64; omega) (by unfold I64; omega))) ?c4x1 (.inl ?c5x1) (by unfold maxLen; omega) (by omega) ?c2x1 ?_)
    case b1x1 => exact bwT
    case c1x1 =>
      intro j c hj
      match j, hj with
      | 0, hj => simp at hj; subst hj; simp [Addr.add, go_sem]
      | 1, hj => simp at hj; subst hj; simp [Addr.add, go_sem]
    case c4x1 => omega
    case c5x1 => simp
    case c2x1 => simp; omega
    intro v' w1 hG1 _ hb1
    have HG := Lib.hid hG1
    have hB1 : Below w.heap.size w w1 := Below.trans (show Below w.heap.size w _ from bwT) hb1
    have hPl : (P ++ [(kk + 1, 0)]).length ≤ i + 1 := by simp; omega
    clear hG hG1 hb1
    go_wp2
    go_roundw
    case rel => exact ⟨i + 1, P ++ [(kk + 1, 0)], by omega, hPl, by go_num, HT2, HG, hB1⟩
    case measure => simp [intOf]; omega
end Go.Proofs.YtdpkldapobbnpaaGreatDoor
