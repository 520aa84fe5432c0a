/- The walk of the law FnCalled. -/
import Derived.Test.YtcbhdmmohdnjbaaGreatCld
import Derived.Test.YtcbhdmmohdnjbaaGreatTwb
import Derived.Test.YtcbhdmmohdnjbaaGreatPplS
import Derived.Test.YtcbhdmmohdnjbaaGreatMfB
import Derived.Test.YtcbhdmmohdnjbaaGreatTrdM
namespace Go.Proofs.YtcbhdmmohdnjbaaGreat
set_option linter.unusedVariables false
set_option linter.unusedSimpArgs false
open Go.RowKit
set_option maxHeartbeats 100000000
theorem nodup_take {α : Type} {l : List α} (h : l.Nodup) {i k : Nat} {x z : α} (hk : k < i) (hx : l[k]? = some x) (hz : l[i]? = some z) : ¬ x = z := fun e => by
 obtain ⟨h1, e1⟩ := List.getElem?_eq_some_iff.1 hx
 obtain ⟨h2, e2⟩ := List.getElem?_eq_some_iff.1 hz
 exact List.pairwise_iff_getElem.1 h k i h1 h2 hk (e1.trans (e.trans e2.symm))
set_option maxRecDepth 20000 in
theorem walk_FnCalled (w : World) (c0a : Value) (code : List UInt8) (h0 : Rd false 0 w.heap.size w [c0a] code) :
  Calls Tryz.prog 6 #[c0a] w (PostB w true) := by
 obtain ⟨ao0, len0, cap0, hcs0, hln0, hcn0, hcm0, -⟩ := h0.shape
 subst hcs0
 subst hln0
 unfold maxLen at hcm0
 have hle0 : code.length ≤ 9223372036854775807 := by omega
 clear hcm0 hcn0
 by_cases hg0 : 1048576 < code.length
 ·go_enter Tryz.func6, Tryz.ntmps6
  go_wp2
  go_ret
  exact ⟨rfl, bwT⟩
 have hq1 : code.length ≤ 1048576 := by omega
 have HC0 := Hd h0
 clear h0 hg0
 go_enter Tryz.func6, Tryz.ntmps6
 go_wp2_with fail
 refine (crowd_any _ _ code HC0.out hq1 12 omT).mono ?_
 rintro e1 w1 ⟨fa, fb, f, rfl, hf, hfb, hb1⟩
 have hB1 : Below w.heap.size w w1 := hb1
 have s1 := hB1.size
 have HFB := Hd hfb.out.1
 have hfp := hfb.out.2.1
 have hf40 := hfb.out.2.2
 obtain ⟨fao, fn, fcap, hfa, hfn, -⟩ := hf.fam.1.shape
 obtain ⟨uao, un, ucap, hub, hun, -⟩ := hf.fam.2.shape
 subst hfa
 subst hub
 subst hfn
 subst hun
 have HF := Hd hf
 clear hb1 hfb hf
 go_wp2_with fail
 refine (fresh_any _ _ code (HC0.out.below (hB1.trans (Below.mono (show Below w1.heap.size w1 _ from bwT) s1))) hq1 3 omT omT).mono ?_
 rintro e2 w2 ⟨u, cs, rfl, hou, hcl, hb2⟩
 have hp2 : Below w1.heap.size w1 w2 := Below.after bwT hb2 szT
 have s2 := hp2.size
 have f0 : w2.cell? ⟨w1.heap.size, 0, none⟩ = some (.slice fao f.1.length fcap) := oldc hb2 ltT sgT
 have f1 : w2.cell? ⟨w1.heap.size, 1, none⟩ = some (.slice uao f.2.length ucap) := oldc hb2 ltT sgT
 have lf : w1.heap.size < w2.heap.size := by have := hb2.size; simp at this; omega
 have HU := Hd hou.rd
 clear hb2 hou
 go_wp2_with fail
 refine (makeTerms_any _ _ cs HU.out omT).mono ?_
 rintro e3 w3 ⟨ya, yb, y, rfl, hy, HTY, hb3⟩
 have hp3 : Below w1.heap.size w1 w3 := hp2.trans (hb3.mono s2)
 have s3 := hp3.size
 have f0 := oldc hb3 lf f0
 have f1 := oldc hb3 lf f1
 have lf : w1.heap.size < w3.heap.size := ltL lf hb3.size
 obtain ⟨rao, rn, rcap, eao, en, ecap, rfl, rfl⟩ := shapeTrm hy
 obtain ⟨hyr, hye⟩ := hy.trm
 obtain ⟨_, _, _, er, hrn, -⟩ := hyr.shape
 obtain ⟨_, _, _, ee, hen, -⟩ := hye.shape
 simp only [Value.slice.injEq] at er ee
 obtain ⟨rfl, rfl, rfl⟩ := er
 obtain ⟨rfl, rfl, rfl⟩ := ee
 subst hrn
 subst hen
 have hes : y.2.length ≤ 60 := (isTerm_facts HTY.out).2.1
 have HY := Hd hy
 have HYE := Hd hye
 clear hb3 hy hyr hye HU hp2 s2
 go_wp2_with fail
 refine (who_any _ _ code (HC0.out.below (hB1.trans (hp3.trans (Below.mono (show Below w3.heap.size w3 _ from bwT) s3) |>.mono s1))) hq1 1 omT omT _ _ f (HF.out.below (hp3.trans (Below.mono (show Below w3.heap.size w3 _ from bwT) s3))) hfp hf40).mono ?_
 rintro e4 w4 ⟨a, rfl, ⟨ha0, ha1⟩, hb4⟩
 have hp34 : Below w3.heap.size w3 w4 := Below.after bwT hb4 szT
 have y0 : w4.cell? ⟨w3.heap.size, 0, none⟩ = some (.slice rao y.1.length rcap) := oldc hb4 ltT sgT
 have y1 : w4.cell? ⟨w3.heap.size, 1, none⟩ = some (.slice eao y.2.length ecap) := oldc hb4 ltT sgT
 have ly : w3.heap.size < w4.heap.size := by have := hb4.size; simp at this; omega
 have f0 := oldc hp34 lf f0
 have f1 := oldc hp34 lf f1
 have lf : w1.heap.size < w4.heap.size := by omega
 have hp4 : Below w1.heap.size w1 w4 := hp3.trans (hp34.mono s3)
 have s4 := hp4.size
 clear hb4
 go_wp2_with fail
 refine (who_any _ _ code (HC0.out.below (hB1.trans (hp4.mono s1))) hq1 2 omT omT _ _ f (HF.out.below hp4) hfp hf40).mono ?_
 rintro e5 w5 ⟨b, rfl, ⟨hb0, hb1⟩, hb5⟩
 have hp35 : Below w3.heap.size w3 w5 := hp34.trans (hb5.mono hp34.size)
 have hp5 : Below w1.heap.size w1 w5 := hp4.trans (hb5.mono s4)
 have s5 := hp5.size
 have f0 := oldc hb5 lf f0
 have f1 := oldc hb5 lf f1
 have y0 := oldc hb5 ly y0
 have y1 := oldc hb5 ly y1
 have lf : w1.heap.size < w5.heap.size := ltL lf hb5.size
 have ly : w3.heap.size < w5.heap.size := ltL ly hb5.size
 clear hb5 hp4 s4 hp34
 go_wp2_with fail
 refine (at_any _ _ code (HC0.out.below (hB1.trans (hp5.mono s1))) hq1 3 omT omT).mono ?_
 rintro e6 w6 ⟨x, rfl, hx, hb6⟩
 obtain ⟨m, hm⟩ : ∃ m : Int, m = x % 3 := ⟨_, rfl⟩
 have u6 : x.tmod 3 = m := by rw [hm]; exact Int.tmod_eq_emod_of_nonneg hx.1
 have hm0 : 0 ≤ m := by omega
 have hm1 : m ≤ 2 := by omega
 have hp36 : Below w3.heap.size w3 w6 := hp35.trans (hb6.mono hp35.size)
 have hp6 : Below w1.heap.size w1 w6 := hp5.trans (hb6.mono s5)
 have s6 := hp6.size
 have f0 := oldc hb6 lf f0
 have f1 := oldc hb6 lf f1
 have y0 := oldc hb6 ly y0
 have y1 := oldc hb6 ly y1
 have lf : w1.heap.size < w6.heap.size := ltL lf hb6.size
 have ly : w3.heap.size < w6.heap.size := ltL ly hb6.size
 have HIA := Hd (show I64 a by unfold I64; omega)
 have HIB := Hd (show I64 b by unfold I64; omega)
 clear hb6 hp5 s5 hp35 hm
 go_wp2_with fail
 refine (termsBtI_any _ _ _ _ _ f y (HF.out.below hp6) (HY.out.below hp36) a b HIA.out HIB.out (1 + m)).mono ?_
 rintro e7 w7 ⟨mv, rfl, hom, hb7⟩
 obtain ⟨n, hn⟩ : ∃ n : Int, n = 1 + m := ⟨_, rfl⟩
 rw [← hn] at hom ⊢
 clear hn hm0 hm1
 have hp37 : Below w3.heap.size w3 w7 := hp36.trans (hb7.mono hp36.size)
 have hp7 : Below w1.heap.size w1 w7 := hp6.trans (hb7.mono s6)
 have s7 := hp7.size
 have f0 := oldc hb7 lf f0
 have f1 := oldc hb7 lf f1
 have y0 := oldc hb7 ly y0
 have y1 := oldc hb7 ly y1
 have lf : w1.heap.size < w7.heap.size := ltL lf hb7.size
 have ly : w3.heap.size < w7.heap.size := ltL ly hb7.size
 obtain ⟨M, hM⟩ : ∃ M, M = twX f y a b n := ⟨_, rfl⟩
 rw [← hM] at hom
 have hM6 : M.length ≤ 600 := by rw [hM]; exact twX_len f y a b n
 have HND := Hd (show M.Nodup by rw [hM]; exact twX_nodup f y a b n)
 have HCI := Hd (show ∀ s, b ∈ pplX f y a s n ↔ s ∈ M from fun s => by rw [hM]; exact called_iff HTY.out HFB.out ha0 ha1 hb0 hb1)
 obtain ⟨mao, mn, mcap, rfl, hmn, -⟩ := hom.rd.shape
 subst hmn
 have HM := Hd hom.rd
 have HF7 := Hd (HF.out.below hp7)
 have HY7 := Hd (HY.out.below hp37)
 have HE7 := Hd (HYE.out.below hp37)
 have hB7 : Below w.heap.size w w7 := hB1.trans (hp7.mono s1)
 clear hb7 hom hM hp6 s6 hp36 HF HY HYE u6 hx hp7 hp37 s7 hp3 s3
 go_wp2
 go_loopw [9, 10, 11, 44] (fun _ _ _ s44 wr => ∃ i : Nat, i ≤ M.length ∧ s44 = .int .i64 i ∧ Below w7.heap.size w7 wr) (fun _ _ _ s44 _ => M.length - (intOf s44).toNat)
 case atStart => exact ⟨0, Nat.zero_le _, rfl, Below.refl _ _⟩
 case round =>
  obtain ⟨wb, hwb⟩ : ∃ wm : World, wm = wr := ⟨_, rfl⟩
  subst hwb
  obtain ⟨i, hi1, rfl, hbb⟩ := hrel
  have sbb := hbb.size
  have f0 := oldc hbb lf f0
  have f1 := oldc hbb lf f1
  have y0 := oldc hbb ly y0
  have y1 := oldc hbb ly y1
  by_cases hli : i < M.length
  ·have hI : (i : Int) < (M.length : Int) := by omega
   obtain ⟨b8, off8, s, hao, hs, c0, -⟩ := (HM.out.below hbb).str_at (i := i) hli
   subst hao
   have HS := Hd hs.out
   clear hs
   go_wp2_with fail
   refine (pplI_any _ _ _ _ _ f y (HF7.out.below (hbb.trans (Below.mono (show Below wb.heap.size wb _ from bwT) sbb))) (HY7.out.below (hbb.trans (Below.mono (show Below wb.heap.size wb _ from bwT) sbb))) a HIA.out s n).mono ?_
   rintro e8 w8 ⟨pv, rfl, hop, hb8⟩
   have hp8 : Below wb.heap.size wb w8 := Below.after bwT hb8 szT
   obtain ⟨pao, pn, pcap, rfl, hpn, -⟩ := hop.rd.shape
   have HP := Hd hop.rd
   have HIN := Hd (show true = decide (b ∈ pplX f y a s n) from (decide_eq_true ((HCI.out s).2 (List.mem_of_getElem? HS.out))).symm)
   clear hb8 hop c0
   go_wp2_with fail
   refine (hasL_b _ _ _ (HP.out.below bwT) b true HIN.out).mono ?_
   rintro e9 w9 ⟨rfl, hb9⟩
   have hp9 : Below wb.heap.size wb w9 := hp8.trans (Below.after bwT hb9 szT |>.mono hp8.size)
   have hp79 : Below w7.heap.size w7 w9 := hbb.trans (hp9.mono sbb)
   clear hb9 hp8 HP HIN hpn
   go_wp2
   go_loopw [11] (fun s11 wr => ∃ k : Nat, k ≤ i ∧ s11 = .int .i64 k ∧ Below w7.heap.size w7 wr) (fun s11 _ => i - (intOf s11).toNat)
   case atStart => exact ⟨0, Nat.zero_le _, rfl, hp79⟩
   case round =>
    obtain ⟨wl, hwl⟩ : ∃ wm : World, wm = wr := ⟨_, rfl⟩
    subst hwl
    obtain ⟨k, hk1, rfl, hbl⟩ := hrel
    by_cases hki : k < i
    ·have hKI : (k : Int) < (i : Int) := by omega
     have hKM : (k : Int) < (M.length : Int) := by omega
     obtain ⟨_, _, q, hao, hq, c1, -⟩ := (HM.out.below hbl).str_at (i := k) omT
     simp only [Option.some.injEq, Addr.mk.injEq, and_true] at hao
     obtain ⟨rfl, rfl⟩ := hao
     have hqs : (q.toList == s.toList) = false := by rw [text_eq]; exact decide_eq_false (nodup_take HND.out hki hq.out HS.out)
     clear hq
     go_wp2
     go_roundw
     case rel => exact ⟨k + 1, by omega, by go_num, hbl.trans (Below.mono (show Below wl.heap.size wl _ from bwT) hbl.size)⟩
     case measure => simp [intOf]; omega
    ·have hki2 : k = i := by omega
     subst hki2
     have hKI : ¬ ((k : Nat) : Int) < ((k : Nat) : Int) := by omega
     go_wp2
     go_roundw
     case rel => exact ⟨k + 1, by omega, by go_num, hbl.trans (Below.mono (show Below wl.heap.size wl _ from bwT) hbl.size)⟩
     case measure => simp [intOf]; omega
  ·have hiM : i = M.length := by omega
   subst hiM
   have hI : ¬ ((M.length : Nat) : Int) < ((M.length : Nat) : Int) := by omega
   have HBB := Hd hbb
   have lf8 : w1.heap.size < wb.heap.size := ltL lf sbb
   have ly8 : w3.heap.size < wb.heap.size := ltL ly sbb
   clear hbb
   go_wp2
   go_loopw [13, 14, 16, 17, 73, 79] (fun _ _ _ _ s73 _ wr => ∃ i : Nat, i ≤ y.2.length ∧ s73 = .int .i64 i ∧ Below wb.heap.size wb wr) (fun _ _ _ _ s73 _ _ => y.2.length - (intOf s73).toNat)
   case atStart => exact ⟨0, Nat.zero_le _, rfl, bwT⟩
   case round =>
    obtain ⟨wl, hwl⟩ : ∃ wm : World, wm = wr := ⟨_, rfl⟩
    subst hwl
    obtain ⟨i, hi1, rfl, hbl⟩ := hrel
    have hb7l : Below w7.heap.size w7 wl := HBB.out.trans (hbl.mono sbb)
    have s7l := hb7l.size
    have f0 := oldc hbl lf8 f0
    have f1 := oldc hbl lf8 f1
    have y0 := oldc hbl ly8 y0
    have y1 := oldc hbl ly8 y1
    have sbl := hbl.size
    by_cases hli : i < y.2.length
    ·have hIy : (i : Int) < (y.2.length : Int) := by omega
     obtain ⟨eb, eoff, tye, tyl, tm, vtyl, hao, hx, c0, c1, c2, -, -, htl, -, -, -, hbl2⟩ := (HE7.out.below hb7l).dEnt_at hli
     subst hao
     obtain ⟨lao, ln, lcap, rfl, -⟩ := htl.shape
     clear hx htl
     go_wp2
     go_loopw [14, 16, 79] (fun s14 _ s79 wr => ∃ (k : Nat) (q : Bool), k ≤ M.length ∧ s79 = .int .i64 k ∧ s14 = .bool q ∧ Hid (q = decide (tm ∈ M.take k)) ∧ wr.cell? ⟨wl.heap.size, 1, none⟩ = some (.slice lao ln lcap) ∧ wr.cell? ⟨wl.heap.size, 2, none⟩ = some (.string tm) ∧ wl.heap.size < wr.heap.size ∧ Below wl.heap.size wl wr) (fun _ _ s79 _ => M.length - (intOf s79).toNat)
     case atStart => exact ⟨0, false, Nat.zero_le _, rfl, rfl, Hd spT, by simp [go_sem], by simp [go_sem], by simp, bwT⟩
     case round =>
      obtain ⟨wk, hwk⟩ : ∃ wm : World, wm = wr := ⟨_, rfl⟩
      subst hwk
      obtain ⟨k, q, hk1, rfl, rfl, HQ, d1, d2, le, hbk⟩ := hrel
      have hb7k : Below w7.heap.size w7 wk := hb7l.trans (hbk.mono s7l)
      have sbk := hbk.size
      by_cases hkM : k < M.length
      ·have hKM : (k : Int) < (M.length : Int) := by omega
       obtain ⟨_, _, z, hao, hz, c3, -⟩ := (HM.out.below hb7k).str_at (i := k) hkM
       subst hao
       obtain ⟨r, hlet_r⟩ : ∃ r, r = decide (z = tm) := ⟨_, rfl⟩
       have HE := Hd hlet_r
       clear hlet_r
       have hzt : (z.toList == tm.toList) = r := by rw [text_eq, HE.out]
       have HQ2 := Hd (show (q || r) = decide (tm ∈ M.take (k + 1)) by
        rw [take_snoc hz.out, HQ.out, HE.out]
        simp only [List.mem_append, List.mem_singleton, Bool.decide_or, eq_comm])
       clear hz HE HQ
       cases q
       ·go_wp2
        go_roundw
        case rel => exact ⟨k + 1, _, by omega, by go_num, rfl, HQ2, by simpa using d1, by simpa using d2, by simpa using le, hbk.trans (Below.mono (show Below wk.heap.size wk _ from bwT) hbk.size)⟩
        case measure => simp [intOf]; omega
       ·go_wp2
        go_roundw
        case rel => exact ⟨k + 1, _, by omega, by go_num, rfl, HQ2, by simpa using d1, by simpa using d2, by simpa using le, hbk.trans (Below.mono (show Below wk.heap.size wk _ from bwT) hbk.size)⟩
        case measure => simp [intOf]; omega
      ·have hkM2 : k = M.length := by omega
       subst hkM2
       have hKM : ¬ ((M.length : Nat) : Int) < ((M.length : Nat) : Int) := by omega
       have HQ3 := Hd (show q = decide (tm ∈ M) by rw [HQ.out, List.take_length])
       have HQ4 := Hd (show q = decide (b ∈ pplX f y a tm n) by rw [HQ3.out]; exact decide_eq_decide.2 (HCI.out tm).symm)
       have hqq : (q != q) = false := by simp
       have lfl : w1.heap.size < wl.heap.size := ltL lf8 sbl
       have lyl : w3.heap.size < wl.heap.size := ltL ly8 sbl
       have f0 := oldc hbk lfl f0
       have f1 := oldc hbk lfl f1
       have y0 := oldc hbk lyl y0
       have y1 := oldc hbk lyl y1
       have lfk : w1.heap.size < wk.heap.size := ltL lfl sbk
       have lyk : w3.heap.size < wk.heap.size := ltL lyl sbk
       have s7k := hb7k.size
       clear HQ HQ3
       go_wp2_with fail
       refine (pplI_any _ _ _ _ _ f y (HF7.out.below (hb7k.trans (Below.mono (show Below wk.heap.size wk _ from bwT) s7k))) (HY7.out.below (hb7k.trans (Below.mono (show Below wk.heap.size wk _ from bwT) s7k))) a HIA.out tm n).mono ?_
       rintro e8 w8 ⟨pv, rfl, hop, hb8⟩
       have hp8 : Below wk.heap.size wk w8 := Below.after bwT hb8 szT
       have s8 := hp8.size
       obtain ⟨pao, pn, pcap, rfl, hpn, -⟩ := hop.rd.shape
       subst hpn
       have HP := Hd hop.rd
       have hpl : (pplX f y a tm n).length ≤ 40 := pplX_40 f y a tm n
       have f0 := oldc hp8 lfk f0
       have f1 := oldc hp8 lfk f1
       have y0 := oldc hp8 lyk y0
       have y1 := oldc hp8 lyk y1
       have d1 := oldc hp8 le d1
       have d2 := oldc hp8 le d2
       have hb78 : Below w7.heap.size w7 w8 := hb7k.trans (hp8.mono s7k)
       have s78 := hb78.size
       clear hb8 hop
       obtain ⟨PL, hPL⟩ : ∃ L, L = pplX f y a tm n := ⟨_, rfl⟩
       have HPL := Hd hPL
       rw [← hPL] at hpl HP ⊢
       clear hPL
       have hpp : ((PL.length : Int) != (PL.length : Int)) = false := by simp
       go_wp2_with fail
       refine (pplS_any _ _ _ _ _ f y (HF7.out.below (hb78.trans (Below.mono (show Below w8.heap.size w8 _ from bwT) s78))) (HY7.out.below (hb78.trans (Below.mono (show Below w8.heap.size w8 _ from bwT) s78))) a HIA.out tm n).mono ?_
       rintro e9 w9 ⟨pv9, rfl, hop9, hb9⟩
       have hp9 : Below w8.heap.size w8 w9 := Below.after bwT hb9 szT
       rw [← HPL.out] at hop9
       obtain ⟨pao9, pn9, pcap9, rfl, hpn9, -⟩ := hop9.rd.shape
       subst hpn9
       have HIN := Hd (show q = decide (b ∈ PL) by rw [HPL.out]; exact HQ4.out)
       have HP9 := Hd (HP.out.below hp9)
       have hbl9 : Below wl.heap.size wl w9 := hbk.trans ((hp8.trans (hp9.mono s8)).mono sbk)
       clear hb9 hop9 HQ4 HP hp9 hp8 f0 f1 y0 y1 d1 d2
       go_wp2_with fail
       refine (hasL_b _ _ _ (HP9.out.below bwT) b q HIN.out).mono ?_
       rintro e10 w10 ⟨rfl, hb10⟩
       have hbl10 : Below wl.heap.size wl w10 := hbl9.trans ((Below.after bwT hb10 szT).mono hbl9.size)
       have hbb10 : Below wb.heap.size wb w10 := hbl.trans (hbl10.mono sbl)
       clear hb10 HP9 HIN
       go_wp2
       go_roundw
       case rel => exact ⟨i + 1, by omega, by go_num, hbb10.trans (Below.mono (show Below w10.heap.size w10 _ from bwT) hbb10.size)⟩
       case measure => simp [intOf]; omega
    ·have hiy : i = y.2.length := by omega
     subst hiy
     have hIy : ¬ ((y.2.length : Nat) : Int) < ((y.2.length : Nat) : Int) := by omega
     go_wp2
     go_ret
     exact ⟨rfl, hB7.trans ((hb7l.trans (Below.mono (show Below wl.heap.size wl _ from bwT) s7l)).mono hB7.size)⟩
end Go.Proofs.YtcbhdmmohdnjbaaGreat
