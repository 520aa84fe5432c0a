/- Contract of spread (impl). -/
import Derived.Test.YtefbbbhidnnchaaTieI
import Derived.Test.YtefbbbhidnnchaaQue
namespace Go.Proofs.Ytefbbbhidnnchaa
set_option linter.unusedVariables false
set_option linter.unusedSimpArgs false
open Go.RowKit

def PostSp (f : Fam) (c : Cls) (g o1 : List Int) (w : World) (e : Ending) (w' : World) : Prop := ∃ (t : Bool) (o' : List Int) (u : Value), e = .returned (.tuple #[u, .bool t]) ∧ Ow w.heap.size w'.heap.size w' [u] o' ∧ Below w.heap.size w w' ∧ Hid (t = true → (∃ ao cap, u = .slice ao f.1.length cap) ∧ AInn f c g o1 o' ∧ ACon f c g o') ∧ Hid (t = false → u = .slice none 0 0 ∧ ¬ ∃ k, AVal f c g k ∧ Agr f.1.length k o1)
theorem edges_len (f : Fam) (c : Cls) : (edges f c).length ≤ 2 * f.1.length + f.2.length := by
  have := edTo_len f c f.1.length
  unfold edges
  rw [List.length_append, edU_len]; omega

set_option maxRecDepth 20000 in
set_option maxHeartbeats 16000000 in
theorem spread_any {z z1 z2 : Bool} {lo hi lo1 hi1 lo2 hi2 : Nat} (w : World) (vt vo vg : Value) (f : Fam) (c : Cls) (g o : List Int) (hT : Rd z lo hi w [vt] (tiesOf (edges f c))) (hO : Rd z1 lo1 hi1 w [vo] o) (hg : Rd z2 lo2 hi2 w [vg] g) (hE : EdOk f c) (h40 : f.1.length ≤ 40) (h60 : f.2.length ≤ 60) (hN : c.1.length ≤ 8) (hgl : g.length = f.1.length) (p : Nat) (hp : p < f.1.length) (hA : AOut f c g p o) (hm : ¬ 0 ≤ mrk o p) (y : Nat) (hy : y < c.1.length) :
    Calls Try.prog 45 #[vt, vo, vg, .int .i64 p, .int .i64 y] w (PostSp f c g (o.set p y) w) := by
  obtain ⟨T, hTT⟩ : ∃ T, T = tiesOf (edges f c) := ⟨_, rfl⟩
  rw [← hTT] at hT
  have hTl : T.length ≤ 280 := by rw [hTT, tiesOf_len]; have := edges_len f c; omega
  have HTO := Lib.hid (show ∀ t ∈ T, TieOk f c g t by rw [hTT]; exact tieOk hE g)
  have HTT := Lib.hid hTT
  have hol : o.length = f.1.length := hA.rng.1
  obtain ⟨ao, n, cap, rfl, hn, hnc, hcm, hnone⟩ := hT.shape
  obtain ⟨ao2, n2, cap2, rfl, hn2, hnc2, hcm2, hnone2⟩ := hO.shape
  obtain ⟨ao3, n3, cap3, rfl, hn3, hnc3, hcm3, hnone3⟩ := hg.shape
  subst hn
  rw [hol] at hn2
  rw [hgl] at hn3
  subst hn2 hn3
  unfold maxLen at *
  have HS0 := Lib.hid (Spr.start hA hp hm hE (y := (y : Int)) (by omega) (by omega))
  have HE := Lib.hid hE
  have HOL := Lib.hid hol
  have HGL := Lib.hid hgl
  have hol40 : o.length ≤ 40 := by omega
  obtain ⟨gb, goff, rfl, -, -, gbl⟩ := hg.pos (by omega)
  have hTz := Lib.hid hT.top
  have hgz := Lib.hid hg.top
  clear hTT hE hA hm hnone hnone2 hnone3 hol hgl hT hg
  go_enter Try.func45, Try.ntmps45
  go_wp2_with (at_builtin; refine wpList_spread_flat rfl rfl slInt (by show (0 : Nat) < 1; omega) (GL.start true w.heap.size w.heap.size w.heap.size w _) rfl rfl hO (by unfold maxLen; simp; omega) (by simp; omega) (Nat.le_refl _) ?_)
  intro v1 w1 hG1 _ hb1
  have s1 := hb1.size
  (try simp only [List.nil_append] at hG1)
  have how := GL.ow (l0 := w.heap.size) hG1 (Nat.le_refl _) (Nat.le_refl _)
  obtain ⟨aoN, capN, rfl, hcN1, hcN2⟩ : ∃ ao cap, v1 = .slice ao f.1.length cap ∧ f.1.length ≤ cap ∧ cap ≤ maxLen := by have := hG1.len; rw [HOL.out] at this; exact this
  obtain ⟨fp, hm, hz, hnd⟩ := how
  obtain ⟨b5, off5, y5, rfl, hy5, hcy, hy1, hy2, hbm, hbl5, hfz⟩ := rep_int_at hm (i := p) hp
  have hfz := hfz rfl
  have hb5z := hz b5 hbm.out
  have hset := rep_int_set hm hy5.out ⟨hy1, hy2⟩ (y := y) ⟨by omega, by omega⟩
  have hpI : (p : Int) < (f.1.length : Int) := by omega
  have hw2 : Below w.heap.size w ((w1.setCell ⟨b5, off5 + p, none⟩ (.int .i64 y)).alloc (.cells #[.int .i64 p] 3)) := (hb1.setCell (p := ⟨b5, off5 + p, none⟩) (by show w.heap.size ≤ b5; omega) _).alloc (by simp; omega) _
  have hQ0 := Lib.hid (QL.one (w := (w1.setCell ⟨b5, off5 + p, none⟩ (.int .i64 y)).alloc (.cells #[.int .i64 p] 3)) (lo := w1.heap.size) (x := (p : Int)) ⟨by omega, by omega⟩ (Nat.le_refl _) (E := 3) (fr := (0, 0)) (by have := heap_alloc_new (w1.setCell ⟨b5, off5 + p, none⟩ (.int .i64 y)) (.cells #[.int .i64 p] 3); rwa [show (w1.setCell ⟨b5, off5 + p, none⟩ (Value.int .i64 y)).heap.size = w1.heap.size from by simp] at this) (fun o => by have := World.frozen?_alloc_new (w1.setCell ⟨b5, off5 + p, none⟩ (.int .i64 y)) #[.int .i64 p] 3 o; simpa using this))
  have hM0 := Lib.hid (show Ow w.heap.size w1.heap.size ((w1.setCell ⟨b5, off5 + p, none⟩ (.int .i64 y)).alloc (.cells #[.int .i64 p] 3)) [.slice (some ⟨b5, off5, none⟩) f.1.length capN] (o.set p y) from ⟨fp, Rep.keep hset (fun b hb => Below.heap_alloc _ _ b (by have := (hz b hb).2; simpa using this)), hz, hnd⟩)
  clear hG1 hm hz hnd hset hO hbm hy5
  go_wp2
  go_loopg [13] (unm f.1.length (o.set p y) + 1) (fun gk s13 wr => ∃ (td o' : List Int), Hid (QL w1.heap.size wr s13 td) ∧ Hid (Ow w.heap.size w1.heap.size wr [.slice (some ⟨b5, off5, none⟩) f.1.length capN] o') ∧ Hid (Spr f c g (o.set p y) td o') ∧ Hid (unm f.1.length o' + td.length = gk) ∧ Below w.heap.size w wr ∧ w1.heap.size ≤ wr.heap.size ∧ gk ≤ 41)
  case atStart => exact ⟨[(p : Int)], o.set p y, hQ0, hM0, HS0, Lib.hid rfl, hw2, by simp, by have := unm_le f.1.length (o.set p y); omega⟩
  case round =>
    clear hQ0 hM0 HS0 hw2 hcy hfz hbl5
    obtain ⟨wb, hwb⟩ : ∃ wm : World, wm = wr := ⟨_, rfl⟩
    subst hwb
    obtain ⟨td, o', hQ, hM, HS, HG, hbw, hsz, hgk⟩ := hrel
    cases td with
    | nil =>
      obtain ⟨qg, qo, qc, rfl, -⟩ := hQ.out.nilLen
      have HC := Lib.hid (And.intro HS.out.inn (HS.out.con HE.out))
      have HM := Lib.hid (hM.out.mono (Nat.le_refl _) hsz)
      clear hQ HS HG hM
      go_wp2
      exact bodyPost_ret (v := .tuple #[.slice (some ⟨b5, off5, none⟩) f.1.length capN, .bool true]) (by simp [results, go_sem]) rfl ⟨true, o', _, rfl, HM.out, hbw, Lib.hid (fun _ => ⟨⟨_, _, rfl⟩, HC.out⟩), Lib.hid (fun h => by cases h)⟩
    | cons a td =>
      obtain ⟨qg, qo, qc, rfl, hq1, hq2, hcq, hqi, hqlo, hqs, hQ1, hQ2⟩ := hQ.out.front
      obtain ⟨ha0, ha1, ha2⟩ := HS.out.tds a (by simp)
      obtain ⟨an, rfl⟩ := Int.eq_ofNat_of_zero_le ha0
      rw [Int.toNat_natCast] at ha2
      have han : an < f.1.length := by omega
      have hcx := hM.out.rd.num (i := an) han
      have hcg := (hgz.out.below hbw).num (i := an) han
      obtain ⟨x, hx⟩ : ∃ x, x = mrk o' an := ⟨_, rfl⟩
      obtain ⟨gv, hgv⟩ : ∃ x, x = mrk g an := ⟨_, rfl⟩
      rw [show getI o' (an : Int) = x from hx.symm] at hcx
      rw [show getI g (an : Int) = gv from hgv.symm] at hcg
      rw [← hx] at ha2
      have hqlen : (0 : Int) < ((td.length + 1 : Nat) : Int) := by omega
      have hqc : qc ≤ 9223372036854775807 := by unfold maxLen at hq2; omega
      have hQN1 := Lib.hid hQ1
      have hQN2 := Lib.hid hQ2
      have hML := Lib.hid (show unm f.1.length o' + td.length < gk by have := HG.out; rw [List.length_cons] at this; omega)
      have HX := Lib.hid hx
      have HV := Lib.hid hgv
      clear hQ hQ1 hQ2 HG hx hgv hq2
      go_upto_region 6 with fail
      go_cut [13, 92] from 26 (fun s13 s92 wx => wb = wx ∧ undef = s92 ∧ Hid (QL w1.heap.size wb s13 td))
      case first =>
        go_wp2
        all_goals go_meet
        all_goals first | exact ⟨rfl, rfl, hQN1⟩ | exact ⟨rfl, rfl, Lib.hid (hQN2.out (by first | rfl | assumption | omega))⟩
      obtain ⟨hwbc, hs92, hQN⟩ := hcut
      subst hwbc
      subst hs92
      obtain ⟨qg2, qo2, qc2, rfl, -⟩ := hQN.out
      clear hQN1 hQN2 hcq hqi
      by_cases e1 : 0 ≤ gv
      · by_cases e2 : gv = x
        · have HI := Lib.hid (HS.out.take (show GFit g o' an from fun _ => by rw [← HV.out, ← HX.out]; exact e2))
          rw [Int.toNat_natCast] at HI
          obtain rfl := e2
          clear HS HX HV
          go_wp2_with fail
          go_quiet (fail)
          have hQN := Lib.hid (hQN.out.keep (show Zone w1.heap.size wb.heap.size wb _ from zgT))
          go_wp2
          go_loopw [13, 16, 17, 52] (fun s13 _ _ s52 wr => ∃ (j : Nat) (td o' : List Int), j ≤ T.length ∧ s52 = .int .i64 j ∧ Hid (QL w1.heap.size wr s13 td) ∧ Hid (Ow w.heap.size w1.heap.size wr [.slice (some ⟨b5, off5, none⟩) f.1.length capN] o') ∧ Hid (SprIn f c g (o.set p y) an j td o') ∧ Hid (unm f.1.length o' + td.length < gk) ∧ Below w.heap.size w wr ∧ w1.heap.size ≤ wr.heap.size) (fun _ _ _ s52 _ => T.length - (intOf s52).toNat)
          case atStart => exact ⟨0, td, o', Nat.zero_le _, rfl, hQN, Lib.hid (hM.out.keep zgT), HI, hML, bwT, by simpa using hsz⟩
          case round =>
            clear hQN hM HI hML hbw hsz hcx hcg
            obtain ⟨wd, hwd⟩ : ∃ wm : World, wm = wr := ⟨_, rfl⟩
            subst hwd
            obtain ⟨j, td, o', hj1, rfl, hQ, hM, HS, hML, hbw, hsz⟩ := hrel
            by_cases hlj : j < T.length
            · have hIj : (j : Int) < (T.length : Int) := by omega
              obtain ⟨tb, toff, t, vb, rfl, ht, ct0, ct1, ct2, ti0, ti1, hby, -, -, tbl⟩ := (hTz.out.below hbw).tie_at hlj
              have htT := ht.out
              rw [HTT.out] at htT
              have hTk := HTO.out t (List.mem_of_getElem? ht.out)
              obtain ⟨t1, t2, π⟩ := t
              obtain ⟨⟨ta0, ta1⟩, ⟨tb0, tb1⟩, tln, trg, -, -⟩ := hTk
              dsimp only at ta0 ta1 tb0 tb1 tln trg ct0 ct1 ct2 ti0 ti1 hby
              obtain ⟨m1, rfl⟩ := Int.eq_ofNat_of_zero_le ta0
              obtain ⟨m2, rfl⟩ := Int.eq_ofNat_of_zero_le tb0
              rw [Int.toNat_natCast] at ta1 tb1
              obtain ⟨pao, pn, pcap, rfl, hpn, hpc, hpm, -⟩ := hby.shape
              have HT1 := Lib.hid htT
              have HTR := Lib.hid trg
              have tbw : tb < wd.heap.size := tbl
              clear ht htT trg
              by_cases et : m1 = an
              · subst et
                have hr := HS.out.inn.rng.2 m1 ta1
                have hcur := HS.out.cur.1
                obtain ⟨x, hx⟩ : ∃ x, x = mrk o' m1 := ⟨_, rfl⟩
                rw [← hx] at hr hcur
                obtain ⟨xn, rfl⟩ := Int.eq_ofNat_of_zero_le hcur
                have hxn : xn < c.1.length := by omega
                have hcx := hM.out.rd.num (i := m1) ta1
                rw [show getI o' (m1 : Int) = (xn : Int) from hx.symm] at hcx
                obtain ⟨z, hz⟩ : ∃ z, z = mrk o' m2 := ⟨_, rfl⟩
                have hcz := hM.out.rd.num (i := m2) tb1
                rw [show getI o' (m2 : Int) = z from hz.symm] at hcz
                have hxp : xn < pn := by omega
                obtain ⟨pb, poff, wv, rfl, hwv, hcw, hw1, hw2, -, hpb2, hpb3, -⟩ := hby.int_at (i := xn) hxp
                have hxpI : (xn : Int) < (pn : Int) := by omega
                have hm2I : (m2 : Int) < (f.1.length : Int) := by omega
                have hm1I : (m1 : Int) < (f.1.length : Int) := by omega
                have hwr := HTR.out (xn : Int) (by omega) (by omega)
                rw [show getI π (xn : Int) = wv from getI_at hwv.out] at hwr
                have HX := Lib.hid hx
                have HZ := Lib.hid hz
                have HW := Lib.hid (show getI π (mrk o' m1) = wv by rw [← hx]; exact getI_at hwv.out)
                have hM5 : b5 < w1.heap.size := hb5z.2
                have n51 : ¬ b5 = pb := by omega
                have n52 : ¬ pb = b5 := by omega
                have n53 : ¬ b5 = wd.heap.size := by omega
                have n54 : ¬ wd.heap.size = b5 := by omega
                have l5 : b5 < wd.heap.size := by omega
                have hrz := HS.out.inn.rng.2 m2 tb1
                rw [← hz] at hrz
                clear hx hz hwv hby HTR hpm
                by_cases ez : z < 0
                · have HN := Lib.hid (HS.out.put HE.out HT1.out (by simp) (by dsimp only; rw [Int.toNat_natCast, ← HZ.out]; exact ez))
                  dsimp only at HN
                  rw [Int.toNat_natCast, HW.out] at HN
                  have hnm : ¬ m1 = m2 := fun e => by subst e; have h1 := HX.out; have h2 := HZ.out; omega
                  have hmn : ¬ m2 = m1 := fun e => hnm e.symm
                  have hun := Lib.hid (show unm f.1.length (o'.set m2 wv) + (td ++ [(m2 : Int)]).length < gk by
                    have h1 := hML.out
                    have h2 := unm_set (y := wv) tb1 HS.out.inn.rng.1 (by rw [← HZ.out]; exact ez) hwr.1
                    rw [List.length_append, List.length_cons, List.length_nil]; omega)
                  have htd : td.length ≤ 41 := by have := hML.out; omega
                  obtain ⟨fp, hm, hz, hnd⟩ := hM.out
                  have hmA := Rep.keep hm (fun b hb => Below.heap_alloc wd (.cells #[.int .i64 m1, .int .i64 m2, .slice (some ⟨pb, poff, none⟩) pn pcap] 115) b (by have := (hz b hb).2; omega))
                  obtain ⟨_, _, y6, ee, hy6, hcy6, hy61, hy62, hbm, hbl6, hfz⟩ := rep_int_at hmA (i := m2) tb1
                  simp only [Option.some.injEq, Addr.mk.injEq, and_true] at ee
                  obtain ⟨rfl, rfl⟩ := ee
                  have hfz := hfz rfl
                  have hset := rep_int_set hmA hy6.out ⟨hy61, hy62⟩ (y := wv) ⟨by omega, by omega⟩
                  have HSET := Lib.hid hset
                  have HZ5 := Lib.hid hz
                  have HND5 := Lib.hid hnd
                  have HLT := Lib.hid (show ∀ b ∈ fp, b < wd.heap.size from fun b hb => by have := (hz b hb).2; omega)
                  clear HS HX HZ HW hM hmA hm hz hnd hy6 hset hcy6
                  go_wp2_with fail
                  go_quiet (fail)
                  go_wp2_with (at_builtin; refine wpList_qpush rfl rfl slInt (hQ.out.keep ?q1) rfl (ad := _) (c := _) rfl (y := (m2 : Int)) ⟨by omega, by omega⟩ ?c1 (by unfold maxLen; omega) (by omega) ?c2 ?_)
                  case q1 => exact zgT
                  case c1 => simp [go_sem]
                  case c2 => simp; omega
                  intro v6 w6 hQ6 hg6 hb6
                  have hzz := Below.zone hb6 w.heap.size
                  have HM6 : Ow w.heap.size w1.heap.size w6 [.slice (some ⟨b5, off5, none⟩) f.1.length capN] (o'.set m2 wv) := by
                    refine Ow.keep ?_ hzz
                    exact ⟨fp, Rep.keep HSET.out (fun b hb => Below.heap_alloc _ _ b (by have := HLT.out b hb; simp; omega)), HZ5.out, HND5.out⟩
                  have HM6 := Lib.hid HM6
                  have HQ6 := Lib.hid hQ6
                  have hbw6 : Below w.heap.size w w6 := Below.trans (show Below w.heap.size w _ from bwT) (hb6.mono s1)
                  have s6 := hb6.size
                  simp at s6
                  have hsz6 : w1.heap.size ≤ w6.heap.size := by omega
                  clear HSET HZ5 HND5 HLT hQ hQ6 hg6 hb6 hzz
                  go_wp2
                  go_roundw
                  case rel => exact ⟨j + 1, _, _, by omega, by go_num, HQ6, HM6, HN, hun, hbw6, hsz6⟩
                  case measure => simp [intOf]; omega
                · by_cases ew : z = wv
                  · have HN := Lib.hid (HS.out.same HT1.out (by dsimp only; rw [Int.toNat_natCast, ← HZ.out]; omega) (by dsimp only; rw [Int.toNat_natCast, ← HZ.out, HW.out]; exact ew))
                    obtain rfl := ew
                    clear HS HX HZ HW
                    go_wp2_with fail
                    go_quiet (fail)
                    go_wp2
                    go_roundw
                    case rel => exact ⟨j + 1, td, o', by omega, by go_num, Lib.hid (hQ.out.keep zgT), Lib.hid (hM.out.keep zgT), HN, hML, bwT, by simp; omega⟩
                    case measure => simp [intOf]; omega
                  · have HN := Lib.hid (HS.out.bad HE.out HT1.out (by simp) (by dsimp only; rw [Int.toNat_natCast, ← HZ.out]; omega) (by dsimp only; rw [Int.toNat_natCast, ← HZ.out, HW.out]; exact ew))
                    have ewb : (z == wv) = false := by simpa using ew
                    have ewn : (z != wv) = true := by simpa using ew
                    clear HS HX HZ HW hM hQ ew
                    go_wp2_with fail
                    go_quiet (fail)
                    go_wp2
                    exact bodyPost_ret (v := .tuple #[.slice none 0 0, .bool false]) (by simp [results, go_sem]) rfl ⟨false, [], _, rfl, Ow.nil _ _ _, bwT, Lib.hid (fun h => by cases h), Lib.hid (fun _ => ⟨rfl, HN.out⟩)⟩
              · have HN := Lib.hid (HS.out.skip HT1.out (by dsimp only; rw [Int.toNat_natCast]; exact et))
                have etn : ((m1 : Int) != (an : Int)) = true := by simp; omega
                have etb : ((m1 : Int) == (an : Int)) = false := by simp; omega
                clear HS HT1 HTR et hby
                go_wp2
                go_roundw
                case rel => exact ⟨j + 1, td, o', by omega, by go_num, Lib.hid (hQ.out.keep zgT), Lib.hid (hM.out.keep zgT), HN, hML, bwT, by simp; omega⟩
                case measure => simp [intOf]; omega
            · obtain rfl : j = T.length := by omega
              have nIj : ¬ (T.length : Int) < (T.length : Int) := by omega
              have HN := Lib.hid (SprIn.done (by have := HS.out; rw [HTT.out] at this; exact this))
              clear HS
              go_wp2
              go_roundg (unm f.1.length o' + td.length)
              case measure => exact hML.out
              case rel => exact ⟨td, o', hQ, hM, HN, Lib.hid rfl, hbw, hsz, by have := hML.out; omega⟩
        · have HN := Lib.hid (HS.out.badg (by rw [Int.toNat_natCast, ← HV.out]; exact e1) (by rw [Int.toNat_natCast, ← HV.out, ← HX.out]; exact e2))
          have e2b : (gv == x) = false := by simpa using e2
          have e2n : (gv != x) = true := by simpa using e2
          clear HS HX HV hM hQN e2
          go_wp2_with fail
          go_quiet (fail)
          go_wp2
          exact bodyPost_ret (v := .tuple #[.slice none 0 0, .bool false]) (by simp [results, go_sem]) rfl ⟨false, [], _, rfl, Ow.nil _ _ _, bwT, Lib.hid (fun h => by cases h), Lib.hid (fun _ => ⟨rfl, HN.out⟩)⟩
      · have HI := Lib.hid (HS.out.take (show GFit g o' an from fun h => by rw [← HV.out] at h; exact (e1 h).elim))
        rw [Int.toNat_natCast] at HI
        have e1d : decide (0 ≤ gv) = false := by simpa using e1
        clear HS HX HV
        go_wp2_with fail
        go_quiet (fail)
        have hQN := Lib.hid (hQN.out.keep (show Zone w1.heap.size wb.heap.size wb _ from zgT))
        go_wp2
        go_loopw [13, 16, 17, 52] (fun s13 _ _ s52 wr => ∃ (j : Nat) (td o' : List Int), j ≤ T.length ∧ s52 = .int .i64 j ∧ Hid (QL w1.heap.size wr s13 td) ∧ Hid (Ow w.heap.size w1.heap.size wr [.slice (some ⟨b5, off5, none⟩) f.1.length capN] o') ∧ Hid (SprIn f c g (o.set p y) an j td o') ∧ Hid (unm f.1.length o' + td.length < gk) ∧ Below w.heap.size w wr ∧ w1.heap.size ≤ wr.heap.size) (fun _ _ _ s52 _ => T.length - (intOf s52).toNat)
        case atStart => exact ⟨0, td, o', Nat.zero_le _, rfl, hQN, Lib.hid (hM.out.keep zgT), HI, hML, bwT, by simpa using hsz⟩
        case round =>
          clear hQN hM HI hML hbw hsz hcx hcg
          obtain ⟨wd, hwd⟩ : ∃ wm : World, wm = wr := ⟨_, rfl⟩
          subst hwd
          obtain ⟨j, td, o', hj1, rfl, hQ, hM, HS, hML, hbw, hsz⟩ := hrel
          by_cases hlj : j < T.length
          · have hIj : (j : Int) < (T.length : Int) := by omega
            obtain ⟨tb, toff, t, vb, rfl, ht, ct0, ct1, ct2, ti0, ti1, hby, -, -, tbl⟩ := (hTz.out.below hbw).tie_at hlj
            have htT := ht.out
            rw [HTT.out] at htT
            have hTk := HTO.out t (List.mem_of_getElem? ht.out)
            obtain ⟨t1, t2, π⟩ := t
            obtain ⟨⟨ta0, ta1⟩, ⟨tb0, tb1⟩, tln, trg, -, -⟩ := hTk
            dsimp only at ta0 ta1 tb0 tb1 tln trg ct0 ct1 ct2 ti0 ti1 hby
            obtain ⟨m1, rfl⟩ := Int.eq_ofNat_of_zero_le ta0
            obtain ⟨m2, rfl⟩ := Int.eq_ofNat_of_zero_le tb0
            rw [Int.toNat_natCast] at ta1 tb1
            obtain ⟨pao, pn, pcap, rfl, hpn, hpc, hpm, -⟩ := hby.shape
            have HT1 := Lib.hid htT
            have HTR := Lib.hid trg
            have tbw : tb < wd.heap.size := tbl
            clear ht htT trg
            by_cases et : m1 = an
            · subst et
              have hr := HS.out.inn.rng.2 m1 ta1
              have hcur := HS.out.cur.1
              obtain ⟨x, hx⟩ : ∃ x, x = mrk o' m1 := ⟨_, rfl⟩
              rw [← hx] at hr hcur
              obtain ⟨xn, rfl⟩ := Int.eq_ofNat_of_zero_le hcur
              have hxn : xn < c.1.length := by omega
              have hcx := hM.out.rd.num (i := m1) ta1
              rw [show getI o' (m1 : Int) = (xn : Int) from hx.symm] at hcx
              obtain ⟨z, hz⟩ : ∃ z, z = mrk o' m2 := ⟨_, rfl⟩
              have hcz := hM.out.rd.num (i := m2) tb1
              rw [show getI o' (m2 : Int) = z from hz.symm] at hcz
              have hxp : xn < pn := by omega
              obtain ⟨pb, poff, wv, rfl, hwv, hcw, hw1, hw2, -, hpb2, hpb3, -⟩ := hby.int_at (i := xn) hxp
              have hxpI : (xn : Int) < (pn : Int) := by omega
              have hm2I : (m2 : Int) < (f.1.length : Int) := by omega
              have hm1I : (m1 : Int) < (f.1.length : Int) := by omega
              have hwr := HTR.out (xn : Int) (by omega) (by omega)
              rw [show getI π (xn : Int) = wv from getI_at hwv.out] at hwr
              have HX := Lib.hid hx
              have HZ := Lib.hid hz
              have HW := Lib.hid (show getI π (mrk o' m1) = wv by rw [← hx]; exact getI_at hwv.out)
              have hM5 : b5 < w1.heap.size := hb5z.2
              have n51 : ¬ b5 = pb := by omega
              have n52 : ¬ pb = b5 := by omega
              have n53 : ¬ b5 = wd.heap.size := by omega
              have n54 : ¬ wd.heap.size = b5 := by omega
              have l5 : b5 < wd.heap.size := by omega
              have hrz := HS.out.inn.rng.2 m2 tb1
              rw [← hz] at hrz
              clear hx hz hwv hby HTR hpm
              by_cases ez : z < 0
              · have HN := Lib.hid (HS.out.put HE.out HT1.out (by simp) (by dsimp only; rw [Int.toNat_natCast, ← HZ.out]; exact ez))
                dsimp only at HN
                rw [Int.toNat_natCast, HW.out] at HN
                have hnm : ¬ m1 = m2 := fun e => by subst e; have h1 := HX.out; have h2 := HZ.out; omega
                have hmn : ¬ m2 = m1 := fun e => hnm e.symm
                have hun := Lib.hid (show unm f.1.length (o'.set m2 wv) + (td ++ [(m2 : Int)]).length < gk by
                  have h1 := hML.out
                  have h2 := unm_set (y := wv) tb1 HS.out.inn.rng.1 (by rw [← HZ.out]; exact ez) hwr.1
                  rw [List.length_append, List.length_cons, List.length_nil]; omega)
                have htd : td.length ≤ 41 := by have := hML.out; omega
                obtain ⟨fp, hm, hz, hnd⟩ := hM.out
                have hmA := Rep.keep hm (fun b hb => Below.heap_alloc wd (.cells #[.int .i64 m1, .int .i64 m2, .slice (some ⟨pb, poff, none⟩) pn pcap] 115) b (by have := (hz b hb).2; omega))
                obtain ⟨_, _, y6, ee, hy6, hcy6, hy61, hy62, hbm, hbl6, hfz⟩ := rep_int_at hmA (i := m2) tb1
                simp only [Option.some.injEq, Addr.mk.injEq, and_true] at ee
                obtain ⟨rfl, rfl⟩ := ee
                have hfz := hfz rfl
                have hset := rep_int_set hmA hy6.out ⟨hy61, hy62⟩ (y := wv) ⟨by omega, by omega⟩
                have HSET := Lib.hid hset
                have HZ5 := Lib.hid hz
                have HND5 := Lib.hid hnd
                have HLT := Lib.hid (show ∀ b ∈ fp, b < wd.heap.size from fun b hb => by have := (hz b hb).2; omega)
                clear HS HX HZ HW hM hmA hm hz hnd hy6 hset hcy6
                go_wp2_with fail
                go_quiet (fail)
                go_wp2_with (at_builtin; refine wpList_qpush rfl rfl slInt (hQ.out.keep ?q1) rfl (ad := _) (c := _) rfl (y := (m2 : Int)) ⟨by omega, by omega⟩ ?c1 (by unfold maxLen; omega) (by omega) ?c2 ?_)
                case q1 => exact zgT
                case c1 => simp [go_sem]
                case c2 => simp; omega
                intro v6 w6 hQ6 hg6 hb6
                have hzz := Below.zone hb6 w.heap.size
                have HM6 : Ow w.heap.size w1.heap.size w6 [.slice (some ⟨b5, off5, none⟩) f.1.length capN] (o'.set m2 wv) := by
                  refine Ow.keep ?_ hzz
                  exact ⟨fp, Rep.keep HSET.out (fun b hb => Below.heap_alloc _ _ b (by have := HLT.out b hb; simp; omega)), HZ5.out, HND5.out⟩
                have HM6 := Lib.hid HM6
                have HQ6 := Lib.hid hQ6
                have hbw6 : Below w.heap.size w w6 := Below.trans (show Below w.heap.size w _ from bwT) (hb6.mono s1)
                have s6 := hb6.size
                simp at s6
                have hsz6 : w1.heap.size ≤ w6.heap.size := by omega
                clear HSET HZ5 HND5 HLT hQ hQ6 hg6 hb6 hzz
                go_wp2
                go_roundw
                case rel => exact ⟨j + 1, _, _, by omega, by go_num, HQ6, HM6, HN, hun, hbw6, hsz6⟩
                case measure => simp [intOf]; omega
              · by_cases ew : z = wv
                · have HN := Lib.hid (HS.out.same HT1.out (by dsimp only; rw [Int.toNat_natCast, ← HZ.out]; omega) (by dsimp only; rw [Int.toNat_natCast, ← HZ.out, HW.out]; exact ew))
                  obtain rfl := ew
                  clear HS HX HZ HW
                  go_wp2_with fail
                  go_quiet (fail)
                  go_wp2
                  go_roundw
                  case rel => exact ⟨j + 1, td, o', by omega, by go_num, Lib.hid (hQ.out.keep zgT), Lib.hid (hM.out.keep zgT), HN, hML, bwT, by simp; omega⟩
                  case measure => simp [intOf]; omega
                · have HN := Lib.hid (HS.out.bad HE.out HT1.out (by simp) (by dsimp only; rw [Int.toNat_natCast, ← HZ.out]; omega) (by dsimp only; rw [Int.toNat_natCast, ← HZ.out, HW.out]; exact ew))
                  have ewb : (z == wv) = false := by simpa using ew
                  have ewn : (z != wv) = true := by simpa using ew
                  clear HS HX HZ HW hM hQ ew
                  go_wp2_with fail
                  go_quiet (fail)
                  go_wp2
                  exact bodyPost_ret (v := .tuple #[.slice none 0 0, .bool false]) (by simp [results, go_sem]) rfl ⟨false, [], _, rfl, Ow.nil _ _ _, bwT, Lib.hid (fun h => by cases h), Lib.hid (fun _ => ⟨rfl, HN.out⟩)⟩
            · have HN := Lib.hid (HS.out.skip HT1.out (by dsimp only; rw [Int.toNat_natCast]; exact et))
              have etn : ((m1 : Int) != (an : Int)) = true := by simp; omega
              have etb : ((m1 : Int) == (an : Int)) = false := by simp; omega
              clear HS HT1 HTR et hby
              go_wp2
              go_roundw
              case rel => exact ⟨j + 1, td, o', by omega, by go_num, Lib.hid (hQ.out.keep zgT), Lib.hid (hM.out.keep zgT), HN, hML, bwT, by simp; omega⟩
              case measure => simp [intOf]; omega
          · obtain rfl : j = T.length := by omega
            have nIj : ¬ (T.length : Int) < (T.length : Int) := by omega
            have HN := Lib.hid (SprIn.done (by have := HS.out; rw [HTT.out] at this; exact this))
            clear HS
            go_wp2
            go_roundg (unm f.1.length o' + td.length)
            case measure => exact hML.out
            case rel => exact ⟨td, o', hQ, hM, HN, Lib.hid rfl, hbw, hsz, by have := hML.out; omega⟩
end Go.Proofs.Ytefbbbhidnnchaa
