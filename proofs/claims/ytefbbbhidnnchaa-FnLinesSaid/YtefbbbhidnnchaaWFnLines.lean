/- The walk of the law FnLines. -/
import Derived.Test.YtefbbbhidnnchaaZ14M
import Derived.Test.YtefbbbhidnnchaaMkfH
import Derived.Test.YtefbbbhidnnchaaZ14R
import Derived.Test.YtefbbbhidnnchaaSame
import Derived.Test.YtefbbbhidnnchaaDblI
import Derived.Test.YtefbbbhidnnchaaZ14Q
namespace Go.Proofs.Ytefbbbhidnnchaa
set_option linter.unusedVariables false
set_option linter.unusedSimpArgs false
open Go.RowKit

theorem Rd.up {α : Type} [Rep α] {z : Bool} {lo : Nat} {w w' : World} {cs : List Value} {x : α} (h : Rd z lo w.heap.size w cs x) (hb : Below w.heap.size w w') : Rd z lo w'.heap.size w' cs x := (h.below hb).mono (Nat.le_refl _) hb.size
theorem GL.own_lt {α : Type} [Rep α] {nd : Bool} {lo lo' hi : Nat} {w : World} {E : TypeId} {v : Value} {xs : List α} (h : GL nd lo lo' hi w E v xs) : ∀ g, v.ownBlock = some g → g < hi := by
  obtain ⟨_, _, _, _, _, hg, _⟩ := h; exact hg
section
variable {P : Program} {α : Type} [Rep α] {nd : Bool} {lo lo' hi : Nat} {w : World} {E : TypeId} {v : Value} {xs : List α}
/-- As wpList_push; besides, where the row lies then. -/
theorem wpList_push_w {ops : Array Oper} {rest : List Oper} {o : Oper} {a : Act} {Q : Exit → Act → World → Prop} (hgd : o.guard = none) {s x : Operand} {t : TypeId}
    (ho : o.op = .call { callee := .builtin .append, args := #[s, x], argTypes := #[t, t] })
    {z0 : Value} {bytes : Nat} (hT : SlTy P t E z0 (Rep.sz α) bytes) (hsz : 0 < Rep.sz α) (hG : GL nd lo lo' hi w E v xs) (hs : a.eval s = v)
    {ad : Addr} {c : Nat} (hx : a.eval x = .slice (some ad) 1 c) {cs : List Value} {y : α} {lx hx' : Nat} (hcells : ∀ j u, cs[j]? = some u → w.cell? (ad.add j) = some u)
    (hy : It nd lx hx' w cs y) (hl : lo' ≤ lx) (hd : hi ≤ lx ∨ (hx' ≤ lo ∧ (nd = true → hx' ≤ lo'))) (h63 : xs.length + 1 ≤ maxLen) (hbytes : (xs.length + 1) * bytes ≤ 140737488355328) (hlo : lo ≤ w.heap.size)
    (h : ∀ v' w', GL nd lo lo' w'.heap.size w' E v' (xs ++ [y]) → w.grownBy w' v.ownBlock → Below lo w w' → (v'.ownBlock = v.ownBlock ∨ v'.ownBlock = some w.heap.size) → wpList P ops Q rest (a.put o.dst v') w') : wpList P ops Q (o :: rest) a w := by
  obtain ⟨fp, hr, hz, hn⟩ := hy
  have hG' := hG
  obtain ⟨css, fps, hown, _, hf, hg, _⟩ := hG'
  obtain ⟨v', w', hrun, h2, h3, hv, h5⟩ := run_push (P := P) (t := t) (ty := o.type) hT hsz hG (ao := some ad) (c := c) (css' := [cs]) (ys := [y]) (fps' := [fp]) ⟨hr, trivial⟩ (fun h => by cases h)
    (fun a e => by simp only [Option.some.injEq] at e; subst e; simpa using hcells)
    (fun b hb => by
      have hb' : b ∈ fp := by simpa using hb
      refine ⟨Nat.le_trans hl (hz b hb').1, fun e => ?_⟩
      have h1 := hg b e.symm
      have h2 := (hown.lt b e.symm).1
      have h3 := hz b hb'
      omega)
    (fun hnd => ⟨by simpa using hn hnd, fun b hb => by
      have hb' : b ∈ fp := by simpa using hb
      have h3 := hz b hb'
      rcases hd with hd | ⟨_, hd⟩
      · left; omega
      · right; have := hd hnd; omega⟩) (by simpa using h63) (by simpa using hbytes) hlo
  refine wpList_plain hgd fun K hK => ?_
  unfold Oper.wp execOp
  simp only [ho, resolve, invoke, builtin, Sem.run_bind, Sem.run_pure, Result.andThen_ok, List.map_toArray, List.map_cons, List.map_nil, hs, hx]
  simp only [List.length_cons, List.length_nil, Nat.zero_add] at hrun
  rw [hrun]
  exact hK _ _ (h v' w' h2 h3 h5 hv)
end
theorem seen_len {L : List (List Int)} {k j n : Nat} {g : List Int} (hg : L[k]? = some g) (h : L.flatten.length = n) : ((L.take k).flatten ++ g.take j).length ≤ n := by
  have e : L = L.take k ++ (g :: L.drop (k + 1)) := by
    obtain ⟨hk, he⟩ := List.getElem?_eq_some_iff.1 hg
    rw [← he, ← List.drop_eq_getElem_cons hk, List.take_append_drop]
  have h2 : (L.take k).flatten.length + (g.length + (L.drop (k + 1)).flatten.length) = n := by
    rw [← h]
    conv => rhs; rw [e]
    rw [List.flatten_append, List.flatten_cons, List.length_append, List.length_append]
  rw [List.length_append, List.length_take]; omega
theorem par1 {f : Fam} (hf : famB f = true) {E : Int} (hE : E = 1 ∨ E = 2) {i : Nat} (hi : i < f.1.length) : ∃ nm sx fa mo bo di, f.1[fo f.1 E i]? = some ((nm, sx, fa, mo, bo, di) : Per) ∧ (parX fa mo).length ≤ 1 := by
  have hP := (famB_facts hf).2.2.1
  have hq := fo_lt hP (Nat.le_refl _) E i hi
  obtain ⟨⟨nm, sx, fa, mo, bo, di⟩, hx⟩ : ∃ x, f.1[fo f.1 E i]? = some x := ⟨_, List.getElem?_eq_getElem hq⟩
  refine ⟨nm, sx, fa, mo, bo, di, hx, ?_⟩
  have h := fo_none hP hq (fo_le hP E i hi).2 hx
  unfold upQ at h
  unfold parX
  rcases hE with rfl | rfl
  · rw [if_pos rfl] at h
    simp only at h
    rw [h]
    by_cases h2 : 0 ≤ mo <;> simp [h2]
  · rw [if_neg (by decide)] at h
    simp only at h
    rw [h]
    by_cases h2 : 0 ≤ fa <;> simp [h2]
theorem same_eq {f : Fam} (hf : famB f = true) {E : Int} (hE : sexB E = true) {a b : Nat} (ha : a < f.1.length) (hb : b < f.1.length) : sameV f a b E = decide (fo f.1 E a = fo f.1 E b) := by
  unfold sameV inB
  rw [hf, hE, decide_eq_true (show (0 : Int) ≤ (a : Int) ∧ (a : Int) < (f.1.length : Int) by omega), decide_eq_true (show (0 : Int) ≤ (b : Int) ∧ (b : Int) < (f.1.length : Int) by omega), Int.toNat_natCast, Int.toNat_natCast]
  rfl
set_option maxRecDepth 20000 in
set_option maxHeartbeats 40000000 in
theorem walk_FnLines (w : World) (c0a : Value) (code : List UInt8) (h0 : Rd false 0 w.heap.size w [c0a] code) :
    Calls Try.prog 3 #[c0a] w (PostB w true) := by
  obtain ⟨ao0, len0, cap0, hcs0, hln0, hcn0, hcm0, -⟩ := h0.shape
  subst hcs0
  subst hln0
  unfold maxLen at hcm0
  have hle0 : code.length ≤ 9223372036854775807 := by omega
  clear hcm0 hcn0
  by_cases hg0 : 1048576 < code.length
  · go_enter Try.func3, Try.ntmps3
    go_wp2
    go_ret
    exact ⟨rfl, bwT⟩
  have hq1 : code.length ≤ 1048576 := by omega
  have HC := Lib.hid h0
  clear h0 hg0
  go_enter Try.func3, Try.ntmps3
  go_wp2_with fail
  refine (crowd_any _ _ code HC.out hq1 18 (by omega)).mono ?_
  rintro e1 w1 ⟨v1, v2, f, rfl, hrf, hff, hb1⟩
  obtain ⟨xa, xn, xc, ya, yn, yc, rfl, rfl⟩ := shapeFam hrf
  obtain ⟨_, _, _, ea, eb, -⟩ := (hrf.fam).1.shape
  simp only [Value.slice.injEq] at ea
  obtain ⟨rfl, rfl, rfl⟩ := ea
  subst eb
  have HR := Lib.hid hrf
  have HFF := Lib.hid hff.out
  have hB : Below w.heap.size w w1 := hb1
  obtain ⟨F, hF⟩ : ∃ F, F = w1.heap.size := ⟨_, rfl⟩
  obtain ⟨WA, hWA⟩ : ∃ W : World, W = w1.alloc (.cells #[.slice xa f.1.length xc, .slice ya yn yc] 26) := ⟨_, rfl⟩
  have hbx : Below w1.heap.size w1 WA := by rw [hWA]; exact (Below.refl _ _).alloc (Nat.le_refl _) _
  have q0 : WA.cell? ⟨F, 0, none⟩ = some (.slice xa f.1.length xc) := by rw [hWA, hF]; simp [go_sem]
  have q1 : WA.cell? ⟨F, 1, none⟩ = some (.slice ya yn yc) := by rw [hWA, hF]; simp [go_sem]
  have lF : F < WA.heap.size := by rw [hWA, hF]; simp
  replace HR := Lib.hid (HR.out.up hbx)
  replace hB := hB.trans (Below.mono hbx hB.size)
  go_upto_region 4 with fail
  rw [← hWA, ← hF]
  clear hWA hF hbx hrf hff hb1
  go_wp2_with fail
  refine (at_any _ _ code (HC.out.below hB) hq1 1 (by omega) (by omega)).mono ?_
  rintro e2 w2 ⟨x, rfl, hx, hb2⟩
  have u2 : x.tmod 2 = x % 2 := Int.tmod_eq_emod_of_nonneg hx.1
  obtain ⟨E, hE⟩ : ∃ E : Int, E = 1 + x % 2 := ⟨_, rfl⟩
  have hE2 : E = 1 ∨ E = 2 := by omega
  have hEw : IntKind.i64.wrap (1 + x % 2) = E := by rw [hE]; exact IntWalk.i64_in _ (by omega)
  have HSX := Lib.hid (show sexB E = true by rcases hE2 with rfl | rfl <;> rfl)
  replace HR := Lib.hid (HR.out.up hb2)
  replace q0 := oldc hb2 lF q0
  replace q1 := oldc hb2 lF q1
  replace lF := Nat.lt_of_lt_of_le lF hb2.size
  replace hB := hB.trans (Below.mono hb2 hB.size)
  clear hb2 hE
  go_wp2_with fail
  refine (who_any _ _ code (HC.out.below hB) hq1 2 (by omega) (by omega) _ _ f HR.out HFF.out.2.1 HFF.out.2.2).mono ?_
  rintro e3 w3 ⟨x3, rfl, hx3, hb3⟩
  obtain ⟨a, rfl⟩ := Int.eq_ofNat_of_zero_le hx3.1
  have haf : a < f.1.length := by have := hx3.2; omega
  replace HR := Lib.hid (HR.out.up hb3)
  replace q0 := oldc hb3 lF q0
  replace q1 := oldc hb3 lF q1
  replace lF := Nat.lt_of_lt_of_le lF hb3.size
  replace hB := hB.trans (Below.mono hb3 hB.size)
  clear hb3 hx3 hEw u2 hx
  go_wp2_with fail
  refine (who_any _ _ code (HC.out.below hB) hq1 3 (by omega) (by omega) _ _ f HR.out HFF.out.2.1 HFF.out.2.2).mono ?_
  rintro e4 w4 ⟨x4, rfl, hx4, hb4⟩
  obtain ⟨b, rfl⟩ := Int.eq_ofNat_of_zero_le hx4.1
  have hbf : b < f.1.length := by have := hx4.2; omega
  replace HR := Lib.hid (HR.out.up hb4)
  replace q0 := oldc hb4 lF q0
  replace q1 := oldc hb4 lF q1
  replace lF := Nat.lt_of_lt_of_le lF hb4.size
  replace hB := hB.trans (Below.mono hb4 hB.size)
  clear hb4 hx4
  have hf40 : f.1.length ≤ 40 := HFF.out.2.2
  have baI : I64 (a : Int) := by unfold I64; omega
  have bbI : I64 (b : Int) := by unfold I64; omega
  have HP := Lib.hid (famB_facts HFF.out.1).2.2.1
  go_upto_region 7 with fail
  go_cut [7] (fun s7 wx => Hid (GL (α := Int) true w4.heap.size w4.heap.size wx.heap.size wx 3 s7 []) ∧ Below w4.heap.size w4 wx)
  case first =>
    go_wp2_with fail
    go_meet
    exact ⟨Lib.hid (GL.lit0 true _ _ w4 _ (Nat.le_refl _)).top, bwT⟩
  case rest =>
    obtain ⟨HG0, hb5⟩ := hcut
    obtain ⟨w5, hw5⟩ : ∃ W : World, W = wc := ⟨_, rfl⟩
    subst hw5
    have HR5 := Lib.hid (HR.out.up hb5)
    have p0 := oldc hb5 lF q0
    have p1 := oldc hb5 lF q1
    have s45 := hb5.size
    obtain ⟨ga0, gc0, rfl, -, -⟩ := HG0.out.len
    go_wp2_with fail
    refine (linesOfI_any _ _ _ f HR5.out E).mono ?_
    rintro e6 w6 ⟨u6, rfl, ho6, hb6⟩
    obtain ⟨L, hL⟩ : ∃ L, L = linesV f E := ⟨_, rfl⟩
    rw [← hL] at ho6
    obtain ⟨la, ln, lc, rfl, hln, -⟩ := ho6.rd.shape
    subst hln
    have HLT := Lib.hid (show L = linesTo f.1 E f.1.length by rw [hL, linesV, HFF.out.1, HSX.out]; rfl)
    have HLL := Lib.hid (show L.flatten.length = f.1.length by rw [HLT.out]; exact linesTo_all HP.out E)
    have hL40 : L.length ≤ 40 := by have := linesTo_len f.1 E f.1.length; rw [← HLT.out] at this; omega
    have HL := Lib.hid ho6.rd
    have HG6 := Lib.hid ((HG0.out.below hb6).top)
    have HOB6 := Lib.hid (show ∀ g, (Value.slice ga0 ([] : List Int).length gc0).ownBlock = some g → g < w5.heap.size ∨ w6.heap.size ≤ g from fun g hg => .inl (HG0.out.own_lt g hg))
    have hb46 : Below w4.heap.size w4 w6 := hb5.trans (Below.mono hb6 hb5.size)
    have s56 := hb6.size
    clear hL ho6 hb6 HG0 hb5 HR5 p0 p1
    go_wp2
    go_loopw [7, 9, 11, 12, 13, 36, 42] (fun s7 _ _ _ _ s36 _ wl => ∃ k : Nat, k ≤ L.length ∧ s36 = .int .i64 k ∧ Hid (GL (α := Int) true w4.heap.size w4.heap.size wl.heap.size wl 3 s7 (L.take k).flatten) ∧ Hid (∀ g, s7.ownBlock = some g → g < w5.heap.size ∨ w6.heap.size ≤ g) ∧ Hid (Zone w5.heap.size w6.heap.size w6 wl) ∧ w6.heap.size ≤ wl.heap.size ∧ Below w4.heap.size w4 wl) (fun _ _ _ _ _ s36 _ _ => L.length - (intOf s36).toNat)
    case atStart => exact ⟨0, Nat.zero_le _, rfl, HG6, HOB6, Lib.hid (Zone.refl _ _ _), Nat.le_refl _, hb46⟩
    case round =>
      clear HG6 HOB6 hb46
      obtain ⟨wo, hwo⟩ : ∃ y : World, y = wr := ⟨_, rfl⟩
      subst hwo
      obtain ⟨k, hk, rfl, HGo, HOBo, HZo, s6o, hbo⟩ := hrel
      by_cases hkl : k < L.length
      · have hkI : (k : Int) < (L.length : Int) := by omega
        obtain ⟨gb, gof, g, gv, rfl, hg, g0, hgr, -, -, -⟩ := (HL.out.keep HZo.out).ints_at hkl
        obtain ⟨gga, ggn, ggc, rfl, hgn, -⟩ := hgr.shape
        subst hgn
        have HGR := Lib.hid hgr
        have HGK := Lib.hid hg.out
        have HSL := Lib.hid (fun j => seen_len (j := j) hg.out HLL.out)
        have hg40 : g.length ≤ 40 := by
          have h := HSL.out g.length
          rw [List.take_length, List.length_append] at h; omega
        have HGM := Lib.hid (show g ∈ linesTo f.1 E f.1.length by rw [← HLT.out]; exact List.mem_of_getElem? hg.out)
        obtain ⟨O0, hO0⟩ : ∃ O, O = (L.take k).flatten := ⟨_, rfl⟩
        rw [← hO0] at HGo HSL
        have HO0 := Lib.hid hO0
        clear hgr hg hO0
        obtain ⟨oa0, oc0, rfl, -, -⟩ := HGo.out.len
        go_wp2
        go_loopw [7, 11, 12, 13, 42] (fun s7 _ _ _ s42 wl => ∃ j : Nat, j ≤ g.length ∧ s42 = .int .i64 j ∧ Hid (GL (α := Int) true w4.heap.size w4.heap.size wl.heap.size wl 3 s7 (O0 ++ g.take j)) ∧ Hid (∀ g, s7.ownBlock = some g → g < w5.heap.size ∨ w6.heap.size ≤ g) ∧ Hid (Zone w5.heap.size w6.heap.size wo wl) ∧ w6.heap.size ≤ wl.heap.size ∧ Below w4.heap.size w4 wl) (fun _ _ _ _ s42 _ => g.length - (intOf s42).toNat)
        case atStart => exact ⟨0, Nat.zero_le _, rfl, Lib.hid (by rw [List.take_zero, List.append_nil]; exact HGo.out), HOBo, Lib.hid (Zone.refl _ _ _), s6o, hbo⟩
        case round =>
          clear HGo HOBo
          obtain ⟨wi, hwi⟩ : ∃ y : World, y = wr := ⟨_, rfl⟩
          subst hwi
          obtain ⟨j, hj, rfl, HGi, HOBi, HZi, s6i, hbi⟩ := hrel
          have HRi := Lib.hid (HR.out.up hbi)
          have r0 := oldc hbi lF q0
          have r1 := oldc hbi lF q1
          have lFi := Nat.lt_of_lt_of_le lF hbi.size
          have s4i := hbi.size
          have HGRi := Lib.hid ((HGR.out.keep HZi.out).mono (Nat.le_refl _) s6i)
          obtain ⟨O, hO⟩ : ∃ O, O = O0 ++ g.take j := ⟨_, rfl⟩
          rw [← hO] at HGi
          have hOl : O.length ≤ 40 := by rw [hO]; exact Nat.le_trans (HSL.out j) hf40
          have HO := Lib.hid hO
          clear hO
          obtain ⟨oa, oc, rfl, -, -⟩ := HGi.out.len
          have hBi := hB.trans (Below.mono hbi hB.size)
          by_cases hjl : j < g.length
          · have hjI : (j : Int) < (g.length : Int) := by omega
            obtain ⟨bx, ofx, p, rfl, hp, c0, -⟩ := HGRi.out.int_at hjl
            obtain ⟨i, rfl, hif, hmem, hnot⟩ := lines_at HP.out (by rw [← HLT.out]; exact HGK.out) hp.out
            rw [← HLT.out, ← HO0.out, ← HO.out] at hnot
            obtain ⟨nm, sx, fa, mo, bo, di, hxq, hp1⟩ := par1 HFF.out.1 hE2 hif
            obtain ⟨q, hq⟩ : ∃ q, q = fo f.1 E i := ⟨_, rfl⟩
            rw [← hq] at hmem hxq
            have hfv : true = foV f (i : Int) E := by
              unfold foV inB
              rw [HFF.out.1, HSX.out, decide_eq_true (show (0 : Int) ≤ (i : Int) ∧ (i : Int) < (f.1.length : Int) by omega)]
              rfl
            have hfx : (q : Int) = foX f (i : Int) E := by
              unfold foX
              rw [if_pos hfv.symm, Int.toNat_natCast, hq]
            have HFX := Lib.hid hfx
            have HFV := Lib.hid hfv
            have HN1 := Lib.hid (show false = decide ((i : Int) ∈ O) from (decide_eq_false hnot).symm)
            have HN2 := Lib.hid (show true = decide ((q : Int) ∈ g) from (decide_eq_true hmem).symm)
            have HXQ := Lib.hid hxq
            have HPI := Lib.hid hp.out
            obtain ⟨P, hP⟩ : ∃ P, P = parX fa mo := ⟨_, rfl⟩
            rw [← hP] at hp1
            have HPX := Lib.hid hP
            have hpB : ((P.length : Int) == 2) = false := by
              have : ¬ (P.length : Int) = 2 := by omega
              simpa using this
            have biI : I64 (i : Int) := by unfold I64; omega
            clear hp hmem hnot hxq hq hfv hfx hP
            go_wp2_with fail
            refine (founderOfI_b _ _ _ f HRi.out (i : Int) E biI (q : Int) true HFX.out HFV.out).mono ?_
            rintro e w7 ⟨rfl, hb7⟩
            have HG7 := Lib.hid ((HGi.out.below hb7).top)
            have HZ7 := Lib.hid (HZi.out.below hb7 s6i)
            have HR7 := Lib.hid (HRi.out.up hb7)
            have HGR7 := Lib.hid (HGRi.out.up hb7)
            have t0 := oldc hb7 lFi r0
            have t1 := oldc hb7 lFi r1
            have hb47 := hbi.trans (Below.mono hb7 hbi.size)
            have s7 := hb7.size
            have l7 := Nat.lt_of_lt_of_le lFi s7
            have HO7 := Lib.hid ((HG7.out.ow (Nat.le_refl _) (Nat.le_refl _)).rd)
            clear hb7 HGi HZi r0 r1 HFX HFV
            go_wp2_with fail
            refine (hasL_b _ _ O HO7.out (i : Int) false HN1.out).mono ?_
            rintro e w8 ⟨rfl, hb8⟩
            have HG8 := Lib.hid ((HG7.out.below hb8).top)
            have HZ8 := Lib.hid (HZ7.out.below hb8 (Nat.le_trans s6i s7))
            have HR8 := Lib.hid (HR7.out.up hb8)
            have HGR8 := Lib.hid (HGR7.out.up hb8)
            have t0 := oldc hb8 l7 t0
            have t1 := oldc hb8 l7 t1
            have hb48 := hb47.trans (Below.mono hb8 hb47.size)
            have s8 := hb8.size
            have l8 := Nat.lt_of_lt_of_le l7 s8
            clear hb8 HG7 HZ7 HR7 HO7 HN1
            go_wp2_with fail
            refine (hasL_b _ _ g HGR8.out (q : Int) true HN2.out).mono ?_
            rintro e w9 ⟨rfl, hb9⟩
            have HG9 := Lib.hid ((HG8.out.below hb9).top)
            have HZ9 := Lib.hid (HZ8.out.below hb9 (Nat.le_trans (Nat.le_trans s6i s7) s8))
            have HR9 := Lib.hid (HR8.out.up hb9)
            have t0 := oldc hb9 l8 t0
            have t1 := oldc hb9 l8 t1
            have hb49 := hb48.trans (Below.mono hb9 hb48.size)
            have s9 := hb9.size
            have l9 := Nat.lt_of_lt_of_le l8 s9
            clear hb9 HG8 HZ8 HR8 HN2 HGR8 HGR7
            go_wp2_with fail
            refine (parentsOfS_any _ _ _ f HR9.out HFF.out.1 q HXQ.out).mono ?_
            rintro e w10 ⟨u10, rfl, ho10, hb10⟩
            rw [← HPX.out] at ho10
            obtain ⟨pa, pn, pc, rfl, hpn, -⟩ := ho10.rd.shape
            subst hpn
            have HG10 := Lib.hid ((HG9.out.below hb10).top)
            have HZ10 := Lib.hid (HZ9.out.below hb10 (Nat.le_trans (Nat.le_trans (Nat.le_trans s6i s7) s8) s9))
            have hb410 := hb49.trans (Below.mono hb10 hb49.size)
            have s10 := hb10.size
            have s4a := hb410.size
            clear hb10 ho10 HG9 HZ9 HR9 t0 t1 HXQ
            go_wp2_with (at_builtin; refine wpList_push_w rfl rfl slInt (by show (0 : Nat) < 1; omega) (HG10.out.below bwT) rfl (ad := ⟨w10.heap.size, 0, none⟩) rfl (cs := [.int .i64 (i : Int)]) (y := (i : Int)) (lx := w10.heap.size) (hx' := w10.heap.size) (cells_one _ _ _) (It.int1 (w0 := w10) _ biI) (by first | omega | (simp; done) | (simp; omega)) (.inl (Nat.le_refl _)) (by unfold maxLen; omega) (by omega) (by first | omega | (simp; done) | (simp; omega)) ?_)
            intro v11 w11 hG11 hg11 hb11 hv11
            have hO2 : O ++ [(i : Int)] = O0 ++ g.take (j + 1) := by rw [take_snoc HPI.out, ← List.append_assoc, ← HO.out]
            rw [hO2] at hG11
            have HG11 := Lib.hid hG11
            have hZ11 : Zone w5.heap.size w6.heap.size wo w11 := fun b h1 h2 => by
              rw [hg11.block b (by simp; omega) (fun e => by have := HOBi.out b e.symm; omega), Below.heap_alloc _ _ b (by omega)]
              exact HZ10.out b h1 h2
            have s11 := hg11.size
            simp only [World.size_alloc] at s11
            have HOB11 := Lib.hid (show ∀ g, v11.ownBlock = some g → g < w5.heap.size ∨ w6.heap.size ≤ g from fun g hg => by
              rcases hv11 with h | h
              · exact HOBi.out g (h ▸ hg)
              · rw [h] at hg; simp at hg; omega)
            have hb4b : Below w4.heap.size w4 w11 := hb410.trans (Below.trans (show Below w4.heap.size w10 _ from bwT) hb11)
            have HZ11 := Lib.hid hZ11
            clear hG11 hg11 hv11 hb11 HG10 HZ10 hZ11 HOBi hO2
            go_wp2
            go_roundw
            case rel => exact ⟨j + 1, by omega, by go_num, HG11, HOB11, HZ11, by omega, hb4b⟩
            case measure => simp [intOf]; omega
          · obtain rfl : j = g.length := by omega
            have hjI : ¬ (g.length : Int) < (g.length : Int) := by omega
            have HGn := Lib.hid (show GL (α := Int) true w4.heap.size w4.heap.size wi.heap.size wi 3 (.slice oa O.length oc) (L.take (k + 1)).flatten by
              have e : O = (L.take (k + 1)).flatten := by rw [HO.out, List.take_length, HO0.out, take_snoc HGK.out, List.flatten_append, List.flatten_cons, List.flatten_nil, List.append_nil]
              rw [← e]; exact HGi.out)
            have HZn := Lib.hid (HZo.out.trans HZi.out)
            obtain ⟨ra, hra⟩ : ∃ r, r = decide ((a : Int) ∈ g) := ⟨_, rfl⟩
            have HRA := Lib.hid hra
            clear HGi HZi HO
            cases ra
            · clear hra
              go_upto_region 19 with fail
              refine wp_region_held_drew (S := (fun w' => w'.cell? ⟨F, 0, none⟩ = some (.slice xa f.1.length xc) ∧ w'.cell? ⟨F, 1, none⟩ = some (.slice ya yn yc))) (by kernel_rfl) ?_ (fun hHeld => ?_)
              · first | exact trivial | ((try dsimp only); go_keep)
              refine tkR 0 (v := ?_) ?_ ?_
              rotate_left
              · intro w hSw; (try dsimp only at hSw); go_simp <;> with_reducible rfl
              try simp only [Act.put, List.setIfInBounds_toArray, List.set_cons_zero, List.set_cons_succ]
              refine tkR 1 (v := ?_) ?_ ?_
              rotate_left
              · intro w hSw; (try dsimp only at hSw); go_simp <;> with_reducible rfl
              try simp only [Act.put, List.setIfInBounds_toArray, List.set_cons_zero, List.set_cons_succ]
              refine wpAnyH_ready (rs := [2]) (by kernel_rfl) (by simp) ?_
              refine rdR (fun K hK => ?_) ?_
              · go_simp
                refine (hasL_b _ _ g (HGRi.out.below ?b1) (a : Int) false HRA.out).mono ?_
                case b1 => exact bwT
                rintro e7 w7 ⟨rfl, hb7⟩
                have hp7 : Below wi.heap.size wi w7 := Below.trans (show Below wi.heap.size wi _ from bwT) (hb7.mono szT)
                have hS7 := And.intro (oldc hp7 lFi r0) (oldc hp7 lFi r1)
                clear hb7
                refine hK.out _ _ ?_ (fun hHeld => ?_)
                · exact kpT
                clear hK K
                try simp only [Act.put, List.setIfInBounds_toArray, List.set_cons_zero, List.set_cons_succ]
                refine tkR 3 (v := ?_) ?_ ?_
                rotate_left
                · intro w hSw; (try dsimp only at hSw); go_simp <;> with_reducible rfl
                try simp only [Act.put, List.setIfInBounds_toArray, List.set_cons_zero, List.set_cons_succ]
                refine skR 4 ?_
                try simp only [Act.put, List.setIfInBounds_toArray, List.set_cons_zero, List.set_cons_succ]
                refine skR 5 ?_
                try simp only [Act.put, List.setIfInBounds_toArray, List.set_cons_zero, List.set_cons_succ]
                refine skR 7 ?_
                try simp only [Act.put, List.setIfInBounds_toArray, List.set_cons_zero, List.set_cons_succ]
                refine skR 8 ?_
                try simp only [Act.put, List.setIfInBounds_toArray, List.set_cons_zero, List.set_cons_succ]
                refine skR 9 ?_
                try simp only [Act.put, List.setIfInBounds_toArray, List.set_cons_zero, List.set_cons_succ]
                refine skR 10 ?_
                try simp only [Act.put, List.setIfInBounds_toArray, List.set_cons_zero, List.set_cons_succ]
                refine skR 6 ?_
                try simp only [Act.put, List.setIfInBounds_toArray, List.set_cons_zero, List.set_cons_succ]
                refine skR 11 ?_
                try simp only [Act.put, List.setIfInBounds_toArray, List.set_cons_zero, List.set_cons_succ]
                refine skR 12 ?_
                try simp only [Act.put, List.setIfInBounds_toArray, List.set_cons_zero, List.set_cons_succ]
                refine tkR 13 (v := ?_) ?_ ?_
                rotate_left
                · intro w hSw; (try dsimp only at hSw); go_simp <;> with_reducible rfl
                try simp only [Act.put, List.setIfInBounds_toArray, List.set_cons_zero, List.set_cons_succ]
                refine wpAnyH_done (by kernel_rfl) ?_ _
                have HG7 := Lib.hid ((HGn.out.below hp7).top)
                have HZ7 := Lib.hid (HZn.out.below hp7 s6i)
                have hb47 := hbi.trans (Below.mono hp7 hbi.size)
                have s7 := hp7.size
                clear HGn HZn hp7
                go_wp2
                go_roundw
                case rel => exact ⟨k + 1, by omega, by go_num, HG7, HOBi, HZ7, by omega, hb47⟩
                case measure => simp [intOf]; omega
              exact AllReadyH.nil
            · have hma : (a : Int) ∈ g := of_decide_eq_true hra.symm
              obtain ⟨r, hr⟩ : ∃ r, r = decide ((b : Int) ∈ g) := ⟨_, rfl⟩
              have HRB := Lib.hid hr
              have HSV := Lib.hid (show r = sameV f (a : Int) (b : Int) E by
                rw [same_eq HFF.out.1 HSX.out haf hbf, hr]
                exact decide_eq_decide.2 (lines_has hbf HGM.out hma))
              clear hma hra hr
              go_upto_region 19 with fail
              refine wp_region_held_drew (S := (fun w' => w'.cell? ⟨F, 0, none⟩ = some (.slice xa f.1.length xc) ∧ w'.cell? ⟨F, 1, none⟩ = some (.slice ya yn yc))) (by kernel_rfl) ?_ (fun hHeld => ?_)
              · first | exact trivial | ((try dsimp only); go_keep)
              refine tkR 0 (v := ?_) ?_ ?_
              rotate_left
              · intro w hSw; (try dsimp only at hSw); go_simp <;> with_reducible rfl
              try simp only [Act.put, List.setIfInBounds_toArray, List.set_cons_zero, List.set_cons_succ]
              refine tkR 1 (v := ?_) ?_ ?_
              rotate_left
              · intro w hSw; (try dsimp only at hSw); go_simp <;> with_reducible rfl
              try simp only [Act.put, List.setIfInBounds_toArray, List.set_cons_zero, List.set_cons_succ]
              refine wpAnyH_ready (rs := [2]) (by kernel_rfl) (by simp) ?_
              refine rdR (fun K hK => ?_) ?_
              · go_simp
                refine (hasL_b _ _ g (HGRi.out.below ?b1) (a : Int) true HRA.out).mono ?_
                case b1 => exact bwT
                rintro e7 w7 ⟨rfl, hb7⟩
                have hp7 : Below wi.heap.size wi w7 := Below.trans (show Below wi.heap.size wi _ from bwT) (hb7.mono szT)
                have hS7 := And.intro (oldc hp7 lFi r0) (oldc hp7 lFi r1)
                clear hb7
                refine hK.out _ _ ?_ (fun hHeld => ?_)
                · exact kpT
                clear hK K
                try simp only [Act.put, List.setIfInBounds_toArray, List.set_cons_zero, List.set_cons_succ]
                refine tkR 3 (v := ?_) ?_ ?_
                rotate_left
                · intro w hSw; (try dsimp only at hSw); go_simp <;> with_reducible rfl
                try simp only [Act.put, List.setIfInBounds_toArray, List.set_cons_zero, List.set_cons_succ]
                refine tkR 4 (v := ?_) ?_ ?_
                rotate_left
                · intro w hSw; (try dsimp only at hSw); go_simp <;> with_reducible rfl
                try simp only [Act.put, List.setIfInBounds_toArray, List.set_cons_zero, List.set_cons_succ]
                refine tkR 5 (v := ?_) ?_ ?_
                rotate_left
                · intro w hSw; (try dsimp only at hSw); go_simp <;> with_reducible rfl
                try simp only [Act.put, List.setIfInBounds_toArray, List.set_cons_zero, List.set_cons_succ]
                refine tkR 7 (v := ?_) ?_ ?_
                rotate_left
                · intro w hSw; (try dsimp only at hSw); go_simp <;> with_reducible rfl
                try simp only [Act.put, List.setIfInBounds_toArray, List.set_cons_zero, List.set_cons_succ]
                refine tkR 8 (v := ?_) ?_ ?_
                rotate_left
                · intro w hSw; (try dsimp only at hSw); go_simp <;> with_reducible rfl
                try simp only [Act.put, List.setIfInBounds_toArray, List.set_cons_zero, List.set_cons_succ]
                refine tkR 9 (v := ?_) ?_ ?_
                rotate_left
                · intro w hSw; (try dsimp only at hSw); go_simp <;> with_reducible rfl
                try simp only [Act.put, List.setIfInBounds_toArray, List.set_cons_zero, List.set_cons_succ]
                refine tkR 10 (v := ?_) ?_ ?_
                rotate_left
                · intro w hSw; (try dsimp only at hSw); go_simp <;> with_reducible rfl
                try simp only [Act.put, List.setIfInBounds_toArray, List.set_cons_zero, List.set_cons_succ]
                refine wpAnyH_ready (rs := [6]) (by kernel_rfl) (by simp) ?_
                refine rdR (fun K hK => ?_) ?_
                · go_simp
                  refine (hasL_b _ _ g ((HGRi.out.below hp7).below ?b1) (b : Int) r HRB.out).mono ?_
                  case b1 => exact bwT
                  rintro e8 w8 ⟨rfl, hb8⟩
                  have hp8 : Below wi.heap.size wi w8 := hp7.trans (Below.mono (Below.trans (show Below w7.heap.size w7 _ from bwT) (hb8.mono szT)) hp7.size)
                  have hS8 := And.intro (oldc hp8 lFi r0) (oldc hp8 lFi r1)
                  clear hb8
                  refine hK.out _ _ ?_ (fun hHeld => ?_)
                  · exact kpT
                  clear hK K
                  try simp only [Act.put, List.setIfInBounds_toArray, List.set_cons_zero, List.set_cons_succ]
                  refine wpAnyH_ready (rs := [11]) (by kernel_rfl) (by simp) ?_
                  refine rdR (fun K hK => ?_) ?_
                  · go_simp
                    refine (sameI_b _ _ _ f ((HRi.out.below hp8).below ?b1) (a : Int) (b : Int) E baI bbI r HSV.out).mono ?_
                    case b1 => exact bwT
                    rintro e9 w9 ⟨rfl, hb9⟩
                    have hp9 : Below wi.heap.size wi w9 := hp8.trans (Below.mono (Below.trans (show Below w8.heap.size w8 _ from bwT) (hb9.mono szT)) hp8.size)
                    have hS9 := And.intro (oldc hp9 lFi r0) (oldc hp9 lFi r1)
                    clear hb9
                    refine hK.out _ _ ?_ (fun hHeld => ?_)
                    · exact kpT
                    clear hK K
                    try simp only [Act.put, List.setIfInBounds_toArray, List.set_cons_zero, List.set_cons_succ]
                    refine tkR 12 (v := ?_) ?_ ?_
                    rotate_left
                    · intro w hSw; (try dsimp only at hSw); go_simp <;> with_reducible rfl
                    try simp only [Act.put, List.setIfInBounds_toArray, List.set_cons_zero, List.set_cons_succ]
                    refine tkR 13 (v := ?_) ?_ ?_
                    rotate_left
                    · intro w hSw; (try dsimp only at hSw); go_simp <;> with_reducible rfl
                    try simp only [Act.put, List.setIfInBounds_toArray, List.set_cons_zero, List.set_cons_succ]
                    refine wpAnyH_done (by kernel_rfl) ?_ _
                    have HG9 := Lib.hid ((HGn.out.below hp9).top)
                    have HZ9 := Lib.hid (HZn.out.below hp9 s6i)
                    have hb49 := hbi.trans (Below.mono hp9 hbi.size)
                    have s9 := hp9.size
                    have hrr : (r != r) = false := by cases r <;> rfl
                    clear HGn HZn hp7 hp8 hp9
                    go_wp2
                    go_roundw
                    case rel => exact ⟨k + 1, by omega, by go_num, HG9, HOBi, HZ9, by omega, hb49⟩
                    case measure => simp [intOf]; omega
                  exact AllReadyH.nil
                exact AllReadyH.nil
              exact AllReadyH.nil
      · obtain rfl : k = L.length := by omega
        have hkI : ¬ (L.length : Int) < (L.length : Int) := by omega
        rw [List.take_length] at HGo
        obtain ⟨O, hO⟩ : ∃ O, O = L.flatten := ⟨_, rfl⟩
        rw [← hO] at HGo HLL
        obtain ⟨oa, oc, rfl, -, -⟩ := HGo.out.len
        have HRo := Lib.hid (HR.out.up hbo)
        have r0 := oldc hbo lF q0
        have r1 := oldc hbo lF q1
        have lFo := Nat.lt_of_lt_of_le lF hbo.size
        have hBo := hB.trans (Below.mono hbo hB.size)
        obtain ⟨D, hD⟩ : ∃ D, D = dblV f := ⟨_, rfl⟩
        have HDV := Lib.hid hD
        have HDD := Lib.hid (show D = dls f.1 f.1.length by rw [hD, dblV, HFF.out.1]; rfl)
        have hD40 : D.length ≤ 40 := by have := dls_len f.1 f.1.length; rw [← HDD.out] at this; omega
        clear hD hO HGo HOBo HZo
        go_wp2_with fail
        refine (dblI_any _ _ _ f HRo.out D HDV.out).mono ?_
        rintro e7 w7 ⟨u7, rfl, ho7, hb7⟩
        obtain ⟨da, dn, dc, rfl, hdn, -⟩ := ho7.rd.shape
        subst hdn
        have HD := Lib.hid ho7.rd
        have HR7 := Lib.hid (HRo.out.up hb7)
        have t0 := oldc hb7 lFo r0
        have t1 := oldc hb7 lFo r1
        have l7 := Nat.lt_of_lt_of_le lFo hb7.size
        have hB7 := hBo.trans (Below.mono hb7 hBo.size)
        clear ho7 hb7 r0 r1 HRo hBo
        go_wp2
        go_loopw [15, 96] (fun _ s96 wl => ∃ k : Nat, k ≤ D.length ∧ s96 = .int .i64 k ∧ Below w7.heap.size w7 wl) (fun _ s96 _ => D.length - (intOf s96).toNat)
        case atStart => exact ⟨0, Nat.zero_le _, rfl, Below.refl _ _⟩
        case round =>
          obtain ⟨wi, hwi⟩ : ∃ y : World, y = wr := ⟨_, rfl⟩
          subst hwi
          obtain ⟨k, hk, rfl, hbi⟩ := hrel
          have HRi := Lib.hid (HR7.out.up hbi)
          have r0 := oldc hbi l7 t0
          have r1 := oldc hbi l7 t1
          have lFi := Nat.lt_of_lt_of_le l7 hbi.size
          have hBi := hB7.trans (Below.mono hbi hB7.size)
          by_cases hkl : k < D.length
          · have hkI : (k : Int) < (D.length : Int) := by omega
            obtain ⟨gb, gof, g, gv, rfl, hg, g0, hgr, -, -, -⟩ := (HD.out.up hbi).ints_at hkl
            obtain ⟨gga, ggn, ggc, rfl, hgn, -⟩ := hgr.shape
            subst hgn
            have HGR := Lib.hid hgr
            have HGM := Lib.hid (show g ∈ dls f.1 f.1.length by rw [← HDD.out]; exact List.mem_of_getElem? hg.out)
            obtain ⟨ra, hra⟩ : ∃ r, r = decide ((a : Int) ∈ g) := ⟨_, rfl⟩
            have HRA := Lib.hid hra
            clear hgr hg
            cases ra
            · clear hra
              go_upto_region 25 with fail
              refine wp_region_held_drew (S := (fun w' => w'.cell? ⟨F, 0, none⟩ = some (.slice xa f.1.length xc) ∧ w'.cell? ⟨F, 1, none⟩ = some (.slice ya yn yc))) (by kernel_rfl) ?_ (fun hHeld => ?_)
              · first | exact trivial | ((try dsimp only); go_keep)
              refine tkR 0 (v := ?_) ?_ ?_
              rotate_left
              · intro w hSw; (try dsimp only at hSw); go_simp <;> with_reducible rfl
              try simp only [Act.put, List.setIfInBounds_toArray, List.set_cons_zero, List.set_cons_succ]
              refine tkR 1 (v := ?_) ?_ ?_
              rotate_left
              · intro w hSw; (try dsimp only at hSw); go_simp <;> with_reducible rfl
              try simp only [Act.put, List.setIfInBounds_toArray, List.set_cons_zero, List.set_cons_succ]
              refine wpAnyH_ready (rs := [2]) (by kernel_rfl) (by simp) ?_
              refine rdR (fun K hK => ?_) ?_
              · go_simp
                refine (hasL_b _ _ g (HGR.out.below ?b1) (a : Int) false HRA.out).mono ?_
                case b1 => exact bwT
                rintro e7 w8 ⟨rfl, hb8⟩
                have hp8 : Below wi.heap.size wi w8 := Below.trans (show Below wi.heap.size wi _ from bwT) (hb8.mono szT)
                have hS8 := And.intro (oldc hp8 lFi r0) (oldc hp8 lFi r1)
                clear hb8
                refine hK.out _ _ ?_ (fun hHeld => ?_)
                · exact kpT
                clear hK K
                try simp only [Act.put, List.setIfInBounds_toArray, List.set_cons_zero, List.set_cons_succ]
                refine tkR 3 (v := ?_) ?_ ?_
                rotate_left
                · intro w hSw; (try dsimp only at hSw); go_simp <;> with_reducible rfl
                try simp only [Act.put, List.setIfInBounds_toArray, List.set_cons_zero, List.set_cons_succ]
                refine skR 4 ?_
                try simp only [Act.put, List.setIfInBounds_toArray, List.set_cons_zero, List.set_cons_succ]
                refine skR 5 ?_
                try simp only [Act.put, List.setIfInBounds_toArray, List.set_cons_zero, List.set_cons_succ]
                refine skR 7 ?_
                try simp only [Act.put, List.setIfInBounds_toArray, List.set_cons_zero, List.set_cons_succ]
                refine skR 8 ?_
                try simp only [Act.put, List.setIfInBounds_toArray, List.set_cons_zero, List.set_cons_succ]
                refine skR 9 ?_
                try simp only [Act.put, List.setIfInBounds_toArray, List.set_cons_zero, List.set_cons_succ]
                refine skR 6 ?_
                try simp only [Act.put, List.setIfInBounds_toArray, List.set_cons_zero, List.set_cons_succ]
                refine skR 10 ?_
                try simp only [Act.put, List.setIfInBounds_toArray, List.set_cons_zero, List.set_cons_succ]
                refine skR 11 ?_
                try simp only [Act.put, List.setIfInBounds_toArray, List.set_cons_zero, List.set_cons_succ]
                refine skR 12 ?_
                try simp only [Act.put, List.setIfInBounds_toArray, List.set_cons_zero, List.set_cons_succ]
                refine skR 13 ?_
                try simp only [Act.put, List.setIfInBounds_toArray, List.set_cons_zero, List.set_cons_succ]
                refine skR 14 ?_
                try simp only [Act.put, List.setIfInBounds_toArray, List.set_cons_zero, List.set_cons_succ]
                refine skR 15 ?_
                try simp only [Act.put, List.setIfInBounds_toArray, List.set_cons_zero, List.set_cons_succ]
                refine skR 16 ?_
                try simp only [Act.put, List.setIfInBounds_toArray, List.set_cons_zero, List.set_cons_succ]
                refine skR 17 ?_
                try simp only [Act.put, List.setIfInBounds_toArray, List.set_cons_zero, List.set_cons_succ]
                refine tkR 18 (v := ?_) ?_ ?_
                rotate_left
                · intro w hSw; (try dsimp only at hSw); go_simp <;> with_reducible rfl
                try simp only [Act.put, List.setIfInBounds_toArray, List.set_cons_zero, List.set_cons_succ]
                refine wpAnyH_done (by kernel_rfl) ?_ _
                have hb78 := hbi.trans (Below.mono hp8 hbi.size)
                clear hp8
                go_wp2
                go_roundw
                case rel => exact ⟨k + 1, by omega, by go_num, hb78⟩
                case measure => simp [intOf]; omega
              exact AllReadyH.nil
            · have hma : (a : Int) ∈ g := of_decide_eq_true hra.symm
              obtain ⟨r, hr⟩ : ∃ r, r = decide ((b : Int) ∈ g) := ⟨_, rfl⟩
              have HRB := Lib.hid hr
              obtain ⟨s1, hs1⟩ : ∃ r, r = sameV f (a : Int) (b : Int) 1 := ⟨_, rfl⟩
              obtain ⟨s2, hs2⟩ : ∃ r, r = sameV f (a : Int) (b : Int) 2 := ⟨_, rfl⟩
              have HS1 := Lib.hid hs1
              have HS2 := Lib.hid hs2
              have HRS := Lib.hid (show r = (s1 && s2) by
                rw [hs1, hs2, same_eq HFF.out.1 rfl haf hbf, same_eq HFF.out.1 rfl haf hbf, hr, ← Bool.decide_and]
                exact decide_eq_decide.2 (dbl_has hbf HGM.out hma))
              clear hma hra hr hs1 hs2
              cases s1
              · obtain rfl : r = false := HRS.out
                go_upto_region 25 with fail
                refine wp_region_held_drew (S := (fun w' => w'.cell? ⟨F, 0, none⟩ = some (.slice xa f.1.length xc) ∧ w'.cell? ⟨F, 1, none⟩ = some (.slice ya yn yc))) (by kernel_rfl) ?_ (fun hHeld => ?_)
                · first | exact trivial | ((try dsimp only); go_keep)
                refine tkR 0 (v := ?_) ?_ ?_
                rotate_left
                · intro w hSw; (try dsimp only at hSw); go_simp <;> with_reducible rfl
                try simp only [Act.put, List.setIfInBounds_toArray, List.set_cons_zero, List.set_cons_succ]
                refine tkR 1 (v := ?_) ?_ ?_
                rotate_left
                · intro w hSw; (try dsimp only at hSw); go_simp <;> with_reducible rfl
                try simp only [Act.put, List.setIfInBounds_toArray, List.set_cons_zero, List.set_cons_succ]
                refine wpAnyH_ready (rs := [2]) (by kernel_rfl) (by simp) ?_
                refine rdR (fun K hK => ?_) ?_
                · go_simp
                  refine (hasL_b _ _ g (HGR.out.below ?b1) (a : Int) true HRA.out).mono ?_
                  case b1 => exact bwT
                  rintro e7 w8 ⟨rfl, hb8⟩
                  have hp8 : Below wi.heap.size wi w8 := Below.trans (show Below wi.heap.size wi _ from bwT) (hb8.mono szT)
                  have hS8 := And.intro (oldc hp8 lFi r0) (oldc hp8 lFi r1)
                  clear hb8
                  refine hK.out _ _ ?_ (fun hHeld => ?_)
                  · exact kpT
                  clear hK K
                  try simp only [Act.put, List.setIfInBounds_toArray, List.set_cons_zero, List.set_cons_succ]
                  refine tkR 3 (v := ?_) ?_ ?_
                  rotate_left
                  · intro w hSw; (try dsimp only at hSw); go_simp <;> with_reducible rfl
                  try simp only [Act.put, List.setIfInBounds_toArray, List.set_cons_zero, List.set_cons_succ]
                  refine tkR 4 (v := ?_) ?_ ?_
                  rotate_left
                  · intro w hSw; (try dsimp only at hSw); go_simp <;> with_reducible rfl
                  try simp only [Act.put, List.setIfInBounds_toArray, List.set_cons_zero, List.set_cons_succ]
                  refine tkR 5 (v := ?_) ?_ ?_
                  rotate_left
                  · intro w hSw; (try dsimp only at hSw); go_simp <;> with_reducible rfl
                  try simp only [Act.put, List.setIfInBounds_toArray, List.set_cons_zero, List.set_cons_succ]
                  refine tkR 7 (v := ?_) ?_ ?_
                  rotate_left
                  · intro w hSw; (try dsimp only at hSw); go_simp <;> with_reducible rfl
                  try simp only [Act.put, List.setIfInBounds_toArray, List.set_cons_zero, List.set_cons_succ]
                  refine tkR 8 (v := ?_) ?_ ?_
                  rotate_left
                  · intro w hSw; (try dsimp only at hSw); go_simp <;> with_reducible rfl
                  try simp only [Act.put, List.setIfInBounds_toArray, List.set_cons_zero, List.set_cons_succ]
                  refine tkR 9 (v := ?_) ?_ ?_
                  rotate_left
                  · intro w hSw; (try dsimp only at hSw); go_simp <;> with_reducible rfl
                  try simp only [Act.put, List.setIfInBounds_toArray, List.set_cons_zero, List.set_cons_succ]
                  refine wpAnyH_ready (rs := [6]) (by kernel_rfl) (by simp) ?_
                  refine rdR (fun K hK => ?_) ?_
                  · go_simp
                    refine (hasL_b _ _ g ((HGR.out.below hp8).below ?b1) (b : Int) false HRB.out).mono ?_
                    case b1 => exact bwT
                    rintro e8 w9 ⟨rfl, hb9⟩
                    have hp9 : Below wi.heap.size wi w9 := hp8.trans (Below.mono (Below.trans (show Below w8.heap.size w8 _ from bwT) (hb9.mono szT)) hp8.size)
                    have hS9 := And.intro (oldc hp9 lFi r0) (oldc hp9 lFi r1)
                    clear hb9
                    refine hK.out _ _ ?_ (fun hHeld => ?_)
                    · exact kpT
                    clear hK K
                    try simp only [Act.put, List.setIfInBounds_toArray, List.set_cons_zero, List.set_cons_succ]
                    refine wpAnyH_ready (rs := [10]) (by kernel_rfl) (by simp) ?_
                    refine rdR (fun K hK => ?_) ?_
                    · go_simp
                      refine (sameI_b _ _ _ f ((HRi.out.below hp9).below ?b1) (a : Int) (b : Int) 1 baI bbI false HS1.out).mono ?_
                      case b1 => exact bwT
                      rintro e9 wA ⟨rfl, hbA⟩
                      have hpA : Below wi.heap.size wi wA := hp9.trans (Below.mono (Below.trans (show Below w9.heap.size w9 _ from bwT) (hbA.mono szT)) hp9.size)
                      have hSA := And.intro (oldc hpA lFi r0) (oldc hpA lFi r1)
                      clear hbA
                      refine hK.out _ _ ?_ (fun hHeld => ?_)
                      · exact kpT
                      clear hK K
                      try simp only [Act.put, List.setIfInBounds_toArray, List.set_cons_zero, List.set_cons_succ]
                      refine tkR 11 (v := ?_) ?_ ?_
                      rotate_left
                      · intro w hSw; (try dsimp only at hSw); go_simp <;> with_reducible rfl
                      try simp only [Act.put, List.setIfInBounds_toArray, List.set_cons_zero, List.set_cons_succ]
                      refine skR 12 ?_
                      try simp only [Act.put, List.setIfInBounds_toArray, List.set_cons_zero, List.set_cons_succ]
                      refine skR 13 ?_
                      try simp only [Act.put, List.setIfInBounds_toArray, List.set_cons_zero, List.set_cons_succ]
                      refine skR 14 ?_
                      try simp only [Act.put, List.setIfInBounds_toArray, List.set_cons_zero, List.set_cons_succ]
                      refine skR 15 ?_
                      try simp only [Act.put, List.setIfInBounds_toArray, List.set_cons_zero, List.set_cons_succ]
                      refine tkR 16 (v := ?_) ?_ ?_
                      rotate_left
                      · intro w hSw; (try dsimp only at hSw); go_simp <;> with_reducible rfl
                      try simp only [Act.put, List.setIfInBounds_toArray, List.set_cons_zero, List.set_cons_succ]
                      refine tkR 17 (v := ?_) ?_ ?_
                      rotate_left
                      · intro w hSw; (try dsimp only at hSw); go_simp <;> with_reducible rfl
                      try simp only [Act.put, List.setIfInBounds_toArray, List.set_cons_zero, List.set_cons_succ]
                      refine tkR 18 (v := ?_) ?_ ?_
                      rotate_left
                      · intro w hSw; (try dsimp only at hSw); go_simp <;> with_reducible rfl
                      try simp only [Act.put, List.setIfInBounds_toArray, List.set_cons_zero, List.set_cons_succ]
                      refine wpAnyH_done (by kernel_rfl) ?_ _
                      have hb7A := hbi.trans (Below.mono hpA hbi.size)
                      clear hp8 hp9 hpA
                      go_wp2
                      go_roundw
                      case rel => exact ⟨k + 1, by omega, by go_num, hb7A⟩
                      case measure => simp [intOf]; omega
                    exact AllReadyH.nil
                  exact AllReadyH.nil
                exact AllReadyH.nil
              · obtain rfl : r = s2 := HRS.out
                go_upto_region 25 with fail
                refine wp_region_held_drew (S := (fun w' => w'.cell? ⟨F, 0, none⟩ = some (.slice xa f.1.length xc) ∧ w'.cell? ⟨F, 1, none⟩ = some (.slice ya yn yc))) (by kernel_rfl) ?_ (fun hHeld => ?_)
                · first | exact trivial | ((try dsimp only); go_keep)
                refine tkR 0 (v := ?_) ?_ ?_
                rotate_left
                · intro w hSw; (try dsimp only at hSw); go_simp <;> with_reducible rfl
                try simp only [Act.put, List.setIfInBounds_toArray, List.set_cons_zero, List.set_cons_succ]
                refine tkR 1 (v := ?_) ?_ ?_
                rotate_left
                · intro w hSw; (try dsimp only at hSw); go_simp <;> with_reducible rfl
                try simp only [Act.put, List.setIfInBounds_toArray, List.set_cons_zero, List.set_cons_succ]
                refine wpAnyH_ready (rs := [2]) (by kernel_rfl) (by simp) ?_
                refine rdR (fun K hK => ?_) ?_
                · go_simp
                  refine (hasL_b _ _ g (HGR.out.below ?b1) (a : Int) true HRA.out).mono ?_
                  case b1 => exact bwT
                  rintro e7 w8 ⟨rfl, hb8⟩
                  have hp8 : Below wi.heap.size wi w8 := Below.trans (show Below wi.heap.size wi _ from bwT) (hb8.mono szT)
                  have hS8 := And.intro (oldc hp8 lFi r0) (oldc hp8 lFi r1)
                  clear hb8
                  refine hK.out _ _ ?_ (fun hHeld => ?_)
                  · exact kpT
                  clear hK K
                  try simp only [Act.put, List.setIfInBounds_toArray, List.set_cons_zero, List.set_cons_succ]
                  refine tkR 3 (v := ?_) ?_ ?_
                  rotate_left
                  · intro w hSw; (try dsimp only at hSw); go_simp <;> with_reducible rfl
                  try simp only [Act.put, List.setIfInBounds_toArray, List.set_cons_zero, List.set_cons_succ]
                  refine tkR 4 (v := ?_) ?_ ?_
                  rotate_left
                  · intro w hSw; (try dsimp only at hSw); go_simp <;> with_reducible rfl
                  try simp only [Act.put, List.setIfInBounds_toArray, List.set_cons_zero, List.set_cons_succ]
                  refine tkR 5 (v := ?_) ?_ ?_
                  rotate_left
                  · intro w hSw; (try dsimp only at hSw); go_simp <;> with_reducible rfl
                  try simp only [Act.put, List.setIfInBounds_toArray, List.set_cons_zero, List.set_cons_succ]
                  refine tkR 7 (v := ?_) ?_ ?_
                  rotate_left
                  · intro w hSw; (try dsimp only at hSw); go_simp <;> with_reducible rfl
                  try simp only [Act.put, List.setIfInBounds_toArray, List.set_cons_zero, List.set_cons_succ]
                  refine tkR 8 (v := ?_) ?_ ?_
                  rotate_left
                  · intro w hSw; (try dsimp only at hSw); go_simp <;> with_reducible rfl
                  try simp only [Act.put, List.setIfInBounds_toArray, List.set_cons_zero, List.set_cons_succ]
                  refine tkR 9 (v := ?_) ?_ ?_
                  rotate_left
                  · intro w hSw; (try dsimp only at hSw); go_simp <;> with_reducible rfl
                  try simp only [Act.put, List.setIfInBounds_toArray, List.set_cons_zero, List.set_cons_succ]
                  refine wpAnyH_ready (rs := [6]) (by kernel_rfl) (by simp) ?_
                  refine rdR (fun K hK => ?_) ?_
                  · go_simp
                    refine (hasL_b _ _ g ((HGR.out.below hp8).below ?b1) (b : Int) r HRB.out).mono ?_
                    case b1 => exact bwT
                    rintro e8 w9 ⟨rfl, hb9⟩
                    have hp9 : Below wi.heap.size wi w9 := hp8.trans (Below.mono (Below.trans (show Below w8.heap.size w8 _ from bwT) (hb9.mono szT)) hp8.size)
                    have hS9 := And.intro (oldc hp9 lFi r0) (oldc hp9 lFi r1)
                    clear hb9
                    refine hK.out _ _ ?_ (fun hHeld => ?_)
                    · exact kpT
                    clear hK K
                    try simp only [Act.put, List.setIfInBounds_toArray, List.set_cons_zero, List.set_cons_succ]
                    refine wpAnyH_ready (rs := [10]) (by kernel_rfl) (by simp) ?_
                    refine rdR (fun K hK => ?_) ?_
                    · go_simp
                      refine (sameI_b _ _ _ f ((HRi.out.below hp9).below ?b1) (a : Int) (b : Int) 1 baI bbI true HS1.out).mono ?_
                      case b1 => exact bwT
                      rintro e9 wA ⟨rfl, hbA⟩
                      have hpA : Below wi.heap.size wi wA := hp9.trans (Below.mono (Below.trans (show Below w9.heap.size w9 _ from bwT) (hbA.mono szT)) hp9.size)
                      have hSA := And.intro (oldc hpA lFi r0) (oldc hpA lFi r1)
                      clear hbA
                      refine hK.out _ _ ?_ (fun hHeld => ?_)
                      · exact kpT
                      clear hK K
                      try simp only [Act.put, List.setIfInBounds_toArray, List.set_cons_zero, List.set_cons_succ]
                      refine tkR 11 (v := ?_) ?_ ?_
                      rotate_left
                      · intro w hSw; (try dsimp only at hSw); go_simp <;> with_reducible rfl
                      try simp only [Act.put, List.setIfInBounds_toArray, List.set_cons_zero, List.set_cons_succ]
                      refine tkR 12 (v := ?_) ?_ ?_
                      rotate_left
                      · intro w hSw; (try dsimp only at hSw); go_simp <;> with_reducible rfl
                      try simp only [Act.put, List.setIfInBounds_toArray, List.set_cons_zero, List.set_cons_succ]
                      refine tkR 13 (v := ?_) ?_ ?_
                      rotate_left
                      · intro w hSw; (try dsimp only at hSw); go_simp <;> with_reducible rfl
                      try simp only [Act.put, List.setIfInBounds_toArray, List.set_cons_zero, List.set_cons_succ]
                      refine tkR 14 (v := ?_) ?_ ?_
                      rotate_left
                      · intro w hSw; (try dsimp only at hSw); go_simp <;> with_reducible rfl
                      try simp only [Act.put, List.setIfInBounds_toArray, List.set_cons_zero, List.set_cons_succ]
                      refine wpAnyH_ready (rs := [15]) (by kernel_rfl) (by simp) ?_
                      refine rdR (fun K hK => ?_) ?_
                      · go_simp
                        refine (sameI_b _ _ _ f ((HRi.out.below hpA).below ?b1) (a : Int) (b : Int) 2 baI bbI r HS2.out).mono ?_
                        case b1 => exact bwT
                        rintro eA wB ⟨rfl, hbB⟩
                        have hpB : Below wi.heap.size wi wB := hpA.trans (Below.mono (Below.trans (show Below wA.heap.size wA _ from bwT) (hbB.mono szT)) hpA.size)
                        have hSB := And.intro (oldc hpB lFi r0) (oldc hpB lFi r1)
                        clear hbB
                        refine hK.out _ _ ?_ (fun hHeld => ?_)
                        · exact kpT
                        clear hK K
                        try simp only [Act.put, List.setIfInBounds_toArray, List.set_cons_zero, List.set_cons_succ]
                        refine tkR 16 (v := ?_) ?_ ?_
                        rotate_left
                        · intro w hSw; (try dsimp only at hSw); go_simp <;> with_reducible rfl
                        try simp only [Act.put, List.setIfInBounds_toArray, List.set_cons_zero, List.set_cons_succ]
                        refine tkR 17 (v := ?_) ?_ ?_
                        rotate_left
                        · intro w hSw; (try dsimp only at hSw); go_simp <;> with_reducible rfl
                        try simp only [Act.put, List.setIfInBounds_toArray, List.set_cons_zero, List.set_cons_succ]
                        refine tkR 18 (v := ?_) ?_ ?_
                        rotate_left
                        · intro w hSw; (try dsimp only at hSw); go_simp <;> with_reducible rfl
                        try simp only [Act.put, List.setIfInBounds_toArray, List.set_cons_zero, List.set_cons_succ]
                        refine wpAnyH_done (by kernel_rfl) ?_ _
                        have hb7B := hbi.trans (Below.mono hpB hbi.size)
                        have hrr : (r != r) = false := by cases r <;> rfl
                        clear hp8 hp9 hpA hpB
                        go_wp2
                        go_roundw
                        case rel => exact ⟨k + 1, by omega, by go_num, hb7B⟩
                        case measure => simp [intOf]; omega
                      exact AllReadyH.nil
                    exact AllReadyH.nil
                  exact AllReadyH.nil
                exact AllReadyH.nil
          · obtain rfl : k = D.length := by omega
            have hkI : ¬ (D.length : Int) < (D.length : Int) := by omega
            have hOB : ((O.length : Int) == (f.1.length : Int)) = true := by rw [HLL.out]; simp
            go_wp2
            go_ret
            exact ⟨ret_bool (by first | exact hOB | simp [HLL.out]), hBi⟩
end Go.Proofs.Ytefbbbhidnnchaa
