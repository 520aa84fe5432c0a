/- Contract of impl.normalForms: the normal forms that are reached, sorted. -/
import Derived.Test.YtoipdgoejichbaaNfsM
import Derived.Test.YtoipdgoejichbaaSSet
import Derived.Test.YtoipdgoejichbaaFmtI
namespace Go.Proofs.Ytoipdgoejichbaa
set_option linter.unusedVariables false
set_option linter.unusedSimpArgs false
open Go.RowKit

/-- The forms, owned, as the library's sort leaves them, or that too many types are met. -/
def PostNfI (w : World) (R : Option (List Kin)) (e : Ending) (w' : World) : Prop :=
  Below w.heap.size w w' ∧ match R with
    | none => e = .returned (.tuple #[.slice none 0 0, .bool false])
    | some o => ∃ u l, e = .returned (.tuple #[u, .bool true]) ∧ l.Perm o ∧ StabOf o l ∧ Ow w.heap.size w'.heap.size w' [u] l

def SQ (B bm : Nat) (ov : Value) (b : Nat) : Prop := b ≠ B ∧ b ≠ bm ∧ some b ≠ ov.ownBlock
def SX (lo B bm : Nat) (sv : Value) (b : Nat) : Prop := lo ≤ b ∧ b ≠ B ∧ b ≠ bm ∧ some b ≠ sv.ownBlock
theorem kin_in_txt {o : List Kin} {u : Kin} (h : ∀ x ∈ o, isKin x = true) (hu : isKin u = true) : kinTxt u ∈ o.map kinTxt ↔ u ∈ o := by
  refine ⟨fun hm => ?_, fun hm => List.mem_map_of_mem hm⟩
  obtain ⟨x, h1, h2⟩ := List.mem_map.1 hm
  rwa [← kinTxt_inj (h x h1) hu h2]
set_option maxRecDepth 20000 in
set_option maxHeartbeats 8000000 in
theorem normalFormsI_any {z z1 : Bool} {lo hi lo1 hi1 : Nat} (w : World) (v a b : Value) (rs : List Rul) (t : Kin) (h : Rd z lo hi w [v] rs) (h' : Rd z1 lo1 hi1 w [a, b] t) (hr : allRules rs) (hrl : rs.length ≤ 12) (ht : isKin t = true) (R : Option (List Kin)) (hR : R = nfB rs 500 502 0 [t] []) :
    Calls Try.prog 42 #[v, .agg #[a, b]] w (PostNfI w R) := by
  have HRS := Lib.hid hr
  have HRd := Lib.hid h
  have HT := Lib.hid h'
  obtain ⟨rfl, hI, g2⟩ := h'.kin
  obtain ⟨e, ts⟩ := t
  dsimp only at g2 hI
  obtain ⟨ub, um, ucap, rfl, -⟩ := g2.shape
  obtain ⟨va, vn, vcap, rfl, -⟩ := HRd.out.shape
  have h8 : ts.length ≤ 8 := (isKin_facts ht).2.1
  have HK := Lib.hid ht
  have HR := Lib.hid hR
  have HI := Lib.hid hI
  have hmm := @run_makeMap Try.prog
  clear h h' hr ht hR g2 hI
  go_enter Try.func42, Try.ntmps42
  go_wp2_with fail
  refine (copyTypeI_any _ _ _ (e, ts) (HT.out.below bwT) (by dsimp only; omega)).mono ?_
  rintro e1 w1 ⟨cv, rfl, hG1, hb1⟩
  have hB1 : Below w.heap.size w w1 := Below.after bwT hb1 (by simp)
  have s1 : w.heap.size + 1 ≤ w1.heap.size := by have := hb1.size; simpa using this
  have c00 : w1.cell? ⟨w.heap.size, 0, none⟩ = some (.int .i64 e) := oldc hb1 (by simp) (by simp [go_sem])
  have c01 : w1.cell? ⟨w.heap.size, 1, none⟩ = some (.slice ub um ucap) := oldc hb1 (by simp) (by simp [go_sem])
  have hC1 := Lib.hid (Rd.kin_mk HI.out (hG1.rd (l0 := 0) (Nat.zero_le _) (Nat.zero_le _)))
  obtain ⟨ca, ccap, rfl, -, -⟩ := hG1.len
  dsimp only at hC1
  clear hG1 hb1
  obtain ⟨bm, hbm⟩ : ∃ b, b = w1.heap.size + 1 := ⟨_, rfl⟩
  obtain ⟨K0, hK0⟩ : ∃ K, K = kinTxt (e, ts) := ⟨_, rfl⟩
  have HK0 := Lib.hid hK0
  have hk0s : K0.size ≤ maxLen := by have := kinTxt_size (e, ts); rw [hK0]; unfold maxLen; omega
  clear hK0
  have d00 : ((w1.alloc (.cells #[.int .i64 e, .slice ca ts.length ccap] 36)).alloc (.map #[] 0)).cell? ⟨w.heap.size, 0, none⟩ = some (.int .i64 e) := oldc (show Below w1.heap.size w1 _ from bwT) (by omega) c00
  have d01 : ((w1.alloc (.cells #[.int .i64 e, .slice ca ts.length ccap] 36)).alloc (.map #[] 0)).cell? ⟨w.heap.size, 1, none⟩ = some (.slice ub um ucap) := oldc (show Below w1.heap.size w1 _ from bwT) (by omega) c01
  clear c00 c01
  go_wp2_with fail
  refine (formatI_any _ _ _ (e, ts) (HT.out.below (hB1.trans ((show Below w1.heap.size w1 _ from bwT).mono (by omega))))).mono ?_
  rw [← HK0.out]
  rintro e2 w2 ⟨rfl, hb2⟩
  obtain ⟨WL, hWL⟩ : ∃ W : World, W = (w1.alloc (.cells #[.int .i64 e, .slice ca ts.length ccap] 36)) := ⟨_, rfl⟩
  have sWL : WL.heap.size = w1.heap.size + 1 := by rw [hWL]; simp
  have hS2 : SSet w2 bm 0 [] := by
    have := SSet.made WL
    rw [sWL, ← hbm, hWL] at this
    exact this.below hb2
  have hM2 : GQ (fun b => b ≤ w1.heap.size) w.heap.size w2 36 (.slice (some ⟨w1.heap.size, 0, none⟩) 1 1) [(e, ts)] := by
    have g := GQ.litK (fun b => b ≤ w1.heap.size) w.heap.size w1 36 (u := .int .i64 e) (v := .slice ca ts.length ccap) (y := (e, ts)) (by omega) (hC1.out.rds fun b _ h => by omega) (by omega)
    exact (g.alloc (.map #[] 0)).below hb2
  have hB2 : Below w.heap.size w w2 := hB1.trans (Below.trans (show Below w.heap.size w1 _ from (show Below w1.heap.size w1 _ from bwT).mono (by omega)) (hb2.mono szT))
  have s2 : bm < w2.heap.size := by have := hb2.size; simp at this; omega
  clear hb2 hWL sWL hC1
  go_wp2_with (refine wpList_sset_ins rfl rfl Try.underlying91 (by rw [hbm]; rfl) hS2 (by unfold maxLen; omega) rfl rfl hk0s ?_; intro w3 hS3 hg3)
  rw [← hbm]
  have hbm1 : w1.heap.size < bm := by omega
  clear hbm
  have s3 := hg3.size
  have hB3 : Below w.heap.size w w3 := hB2.grown hg3 (by have := hB2.size; omega) (fun k hk => by simp only [Option.some.injEq] at hk; omega)
  have hk3 : ∀ k, k < w2.heap.size → k ≠ bm → w3.heap[k]? = w2.heap[k]? := fun k h1 h2 => hg3.block k h1 (fun e => h2 (Option.some.inj e))
  have HM3 := Lib.hid (hM2.keep fun b h1 h2 => hk3 b h1 (by omega))
  have HS3 := Lib.hid (show SSet w3 bm [(e, ts)].length ([(e, ts)].map kinTxt) by rw [List.map_cons, List.map_nil, ← HK0.out]; exact hS3)
  clear hS3 hM2 hS2 hk3 hg3 hB2 d00 d01
  go_wp2
  obtain ⟨B, hBd⟩ : ∃ B, B = w3.heap.size := ⟨_, rfl⟩
  obtain ⟨w4, hw4⟩ : ∃ W : World, W = w3.alloc (.cells #[.slice none 0 0] 31) := ⟨_, rfl⟩
  have hb34 : Below w3.heap.size w3 w4 := by rw [hw4]; exact bwT
  have lB4 : B < w4.heap.size := by rw [hw4, hBd]; simp
  have xB4 : w4.cell? ⟨B, 0, none⟩ = some (.slice none 0 0) := by rw [hw4, hBd]; simp [go_sem]
  have fB4 : ∀ o, w4.frozen? ⟨B, o, none⟩ = false := fun o => by rw [hw4, hBd]; simp [go_sem]
  have hbmB : bm < B := by omega
  have hwB : w.heap.size ≤ bm := by omega
  have hB4 : Below w.heap.size w w4 := hB3.trans (hb34.mono hB3.size)
  have HM := Lib.hid ((HM3.out.below hb34).mono (S' := SQ B bm (.slice none 0 0)) fun b h1 h2 => ⟨by omega, by omega, by simp [Value.ownBlock]⟩)
  have HX := Lib.hid (GX.start (α := Kin) (SX w.heap.size B bm (.slice (some ⟨w1.heap.size, 0, none⟩) 1 1)) w4 36)
  have HS := Lib.hid (HS3.out.below hb34)
  have s4 := hB4.size
  rw [← hw4, ← hBd]
  clear hw4 HM3 HS3 hb34 hB3 hBd
  go_loopw [4, 5, 6, 9, 10, 12, 13] (fun _ _ s6 s9 _ _ _ wl => ∃ (i : Nat) (o out : List Kin) (ov : Value), i ≤ o.length ∧ o.length ≤ 500 ∧ out.length ≤ i ∧ s9 = .int .i64 i ∧ Hid (nfB rs 500 (502 - i) i o out = R) ∧ Hid (∀ u ∈ o, isKin u = true) ∧ Hid (GQ (SQ B bm ov) w.heap.size wl 36 s6 o) ∧ Hid (GX (SX w.heap.size B bm s6) wl 36 ov out) ∧ Hid (SSet wl bm o.length (o.map kinTxt)) ∧ Below w.heap.size w wl ∧ B < wl.heap.size ∧ wl.cell? ⟨B, 0, none⟩ = some ov ∧ ∀ o, wl.frozen? ⟨B, o, none⟩ = false) (fun _ _ _ s9 _ _ _ _ => 502 - (intOf s9).toNat)
  case atStart => exact ⟨0, [(e, ts)], [], _, Nat.zero_le _, by simp, Nat.zero_le _, rfl, Lib.hid HR.out.symm, Lib.hid (fun u hu => by rw [List.mem_singleton] at hu; subst hu; exact HK.out), HM, HX, HS, hB4, lB4, xB4, fB4⟩
  case round =>
    clear HM HX HS hB4 lB4 xB4 fB4
    obtain ⟨wl, hwl⟩ : ∃ x : World, x = wr := ⟨_, rfl⟩
    subst hwl
    obtain ⟨i, o, out, ov, hi, ho, hout, rfl, hgl, hok, hM, hX, hS, hBl, lB, xB, fB⟩ := hrel
    have sl := hBl.size
    obtain ⟨aom, capm, rfl, -, -⟩ := hM.out.len
    obtain ⟨aov, capv, rfl, -, -⟩ := hX.out.len
    by_cases hlt : i < o.length
    · have hI : (i : Int) < (o.length : Int) := by omega
      obtain ⟨bi, offi, ⟨te, tl⟩, vt, rfl, hti, k0, k1, hIt, hrv, hrt, -, -, hbi⟩ := hM.out.rd.kin_at hlt
      dsimp only at k0 hIt hrv hrt
      obtain ⟨ta, tn, tcap, rfl, htn, -⟩ := hrv.shape
      subst htn
      have HTI := Lib.hid hti.out
      have HRT := Lib.hid hrt
      have HKT := Lib.hid (hok.out _ (List.mem_of_getElem? hti.out))
      have htl : tl.length ≤ 8 := (isKin_facts HKT.out).2.1
      have HIT := Lib.hid hIt
      obtain ⟨sv, hsv⟩ : ∃ sv, sv = Value.slice (some ⟨bi, offi, none⟩) o.length capm := ⟨_, rfl⟩
      have HSV := Lib.hid hsv
      have HSO := Lib.hid (fun g (e : sv.ownBlock = some g) => hM.out.lt (b := g) (by rw [← hsv]; exact e))
      have HOO := Lib.hid (fun g (e : (Value.slice aov out.length capv).ownBlock = some g) => hX.out.lt (b := g) e)
      rw [← hsv] at hM hX
      clear hti hrv hrt hIt hsv
      go_wp2_with fail
      refine (reductsI_any _ _ _ _ rs (te, tl) (HRd.out.below hBl) HRT.out HRS.out hrl HKT.out).mono ?_
      obtain ⟨N, hN⟩ : ∃ N, N = redL rs (te, tl) := ⟨_, rfl⟩
      rw [← hN]
      rintro e4 w4 ⟨u4, rfl, ho4, hb4⟩
      obtain ⟨a4, n4, cap4, rfl, hn4, -⟩ := ho4.rd.shape
      subst hn4
      have HN := Lib.hid hN
      have hNl : N.length ≤ 96 := by rw [hN]; exact redL_len hrl HKT.out
      have HNK := Lib.hid (show ∀ u ∈ N, isKin u = true by rw [hN]; exact redL_kin HRS.out HKT.out)
      have HN4 := Lib.hid (ho4.rd.rds (S := fun b => SQ B bm (Value.slice aov out.length capv) b ∧ some b ≠ sv.ownBlock) fun b h1 h2 => ⟨⟨by omega, by omega, fun e => by have := HOO.out b e.symm; omega⟩, fun e => by have := HSO.out b e.symm; omega⟩)
      have HM4 := Lib.hid (hM.out.below hb4)
      have HX4 := Lib.hid (hX.out.below hb4)
      have HS4 := Lib.hid (hS.out.below hb4)
      have hB4 : Below w.heap.size w w4 := hBl.trans (hb4.mono sl)
      have s4 := hb4.size
      have HRT4 := Lib.hid (HRT.out.below hb4)
      have k0 := oldc hb4 hbi k0
      have k1 := oldc hb4 hbi k1
      have x4 := oldc hb4 lB xB
      have f4 : ∀ o, w4.frozen? ⟨B, o, none⟩ = false := fun o => (hb4.frozen (p := ⟨B, o, none⟩) lB).trans (fB o)
      have hbi4 : bi < w4.heap.size := by omega
      have lB4 : B < w4.heap.size := by omega
      clear ho4 hN hM hX hS hb4 HRT xB fB
      go_upto_if 35 with fail
      go_cut [10] (fun s10 wx => s10 = .slice a4 N.length cap4 ∧ ∃ ov', Hid (GQ (SQ B bm ov') w.heap.size wx 36 sv o) ∧ Hid (GX (SX w.heap.size B bm sv) wx 36 ov' (outK rs (te, tl) out)) ∧ Hid (SSet wx bm o.length (o.map kinTxt)) ∧ Hid (RdS (fun b => SQ B bm ov' b ∧ some b ≠ sv.ownBlock) wx [.slice a4 N.length cap4] N) ∧ Below w.heap.size w wx ∧ B < wx.heap.size ∧ wx.cell? ⟨B, 0, none⟩ = some ov' ∧ ∀ o, wx.frozen? ⟨B, o, none⟩ = false)
      case first =>
        by_cases hN0 : N = []
        · have hn0 : (N.length : Int) = 0 := by rw [hN0]; rfl
          have HE := Lib.hid (show outK rs (te, tl) out = out ++ [(te, tl)] by unfold outK; rw [← HN.out, if_pos hN0])
          clear hN0
          go_upto_region 9 with fail
          refine wp_region_held_drew (S := (fun w' => w'.cell? ⟨bi, offi + i * 2, none⟩ = some (.int .i64 te) ∧ w'.cell? ⟨bi, offi + i * 2 + 1, none⟩ = some (.slice ta tl.length tcap))) (by kernel_rfl) ?_ (fun hHeld => ?_)
          · first | exact trivial | ((try dsimp only); go_keep)
          refine tkR 1 (v := ?_) ?_ ?_
          rotate_left
          · intro w hSw; (try dsimp only at hSw); go_simp <;> with_reducible rfl
          try simp only [Act.put, List.setIfInBounds_toArray, List.set_cons_zero, List.set_cons_succ]
          refine tkR 2 (v := ?_) ?_ ?_
          rotate_left
          · intro w hSw; (try dsimp only at hSw); go_simp <;> with_reducible rfl
          try simp only [Act.put, List.setIfInBounds_toArray, List.set_cons_zero, List.set_cons_succ]
          refine tkR 3 (v := ?_) ?_ ?_
          rotate_left
          · intro w hSw; (try dsimp only at hSw); go_simp <;> with_reducible rfl
          try simp only [Act.put, List.setIfInBounds_toArray, List.set_cons_zero, List.set_cons_succ]
          refine tkR 4 (v := ?_) ?_ ?_
          rotate_left
          · intro w hSw; (try dsimp only at hSw); go_simp <;> with_reducible rfl
          try simp only [Act.put, List.setIfInBounds_toArray, List.set_cons_zero, List.set_cons_succ]
          refine wpAnyH_ready (rs := [0, 5]) (by kernel_rfl) (by simp) ?_
          refine rdR (fun K hK => ?_) ?_
          · go_simp
            refine hK.out _ _ ?_ (fun hHeld => ?_)
            · exact kpT
            clear hK K
            try simp only [Act.put, List.setIfInBounds_toArray, List.set_cons_zero, List.set_cons_succ]
            refine wpAnyH_ready (rs := [5]) (by kernel_rfl) (by simp) ?_
            refine rdR (fun K hK => ?_) ?_
            · go_simp
              refine (copyTypeI_any _ _ _ (te, tl) (HRT4.out.below ?b0) (by dsimp only; omega)).mono ?_
              case b0 => exact bwT
              rintro e5 w5 ⟨cv5, rfl, hG5, hb5⟩
              have hp5 : Below w4.heap.size w4 w5 := Below.trans (show Below w4.heap.size w4 _ from bwT) (hb5.mono szT)
              have s5 := hp5.size
              have hS5 := And.intro (oldc hp5 hbi4 k0) (oldc hp5 hbi4 k1)
              have x5 := oldc hp5 lB4 x4
              have f5 : ∀ o, w5.frozen? ⟨B, o, none⟩ = false := fun o => (hp5.frozen (p := ⟨B, o, none⟩) lB4).trans (f4 o)
              obtain ⟨c5, ccap5, rfl, -, -⟩ := hG5.len
              have HC5 := Lib.hid (show Ow w4.heap.size w5.heap.size w5 [.int .i64 te, .slice c5 tl.length ccap5] ((te, tl) : Kin) by
                obtain ⟨fp, h1, h2, h3⟩ := hG5.ow (l0 := w4.heap.size) (Nat.le_refl _) (Nat.le_refl _)
                exact ⟨fp, repKin_mk HIT.out h1, h2, h3⟩)
              clear hb5 hG5
              have x6 : (w5.alloc (.cells #[.int .i64 te, .slice c5 tl.length ccap5] 36)).cell? ⟨B, 0, none⟩ = _ := oldc (show Below w5.heap.size w5 _ from bwT) (by omega) x5
              refine hK.out _ _ ?_ (fun hHeld => ?_)
              · exact kpT
              clear hK K
              try simp only [Act.put, List.setIfInBounds_toArray, List.set_cons_zero, List.set_cons_succ]
              refine wpAnyH_ready (rs := [6]) (by kernel_rfl) (by simp) ?_
              refine rdR (fun K hK => ?_) ?_
              · go_simp
                refine hK.out _ _ ?_ (fun hHeld => ?_)
                · exact kpT
                clear hK K
                try simp only [Act.put, List.setIfInBounds_toArray, List.set_cons_zero, List.set_cons_succ]
                refine wpAnyH_ready (rs := [7]) (by kernel_rfl) (by simp) ?_
                refine rdR (fun K hK => ?_) ?_
                · refine step_push_x (w0 := w4) (lx := w4.heap.size) (hx' := w5.heap.size) (cs := [.int .i64 te, .slice c5 tl.length ccap5]) (y := ((te, tl) : Kin)) (ad := ⟨w5.heap.size, 0, none⟩) (c := 1) rfl rfl slKin (by show (0 : Nat) < 2; omega) (by simp [Act.eval, Act.put]) (by simp [Act.eval, Act.put]) (cells_newK w5 _ _ _) HX4.out (Nat.le_refl _) (fun b h1 _ => (show Below w4.heap.size w4 _ from hp5.trans bwT).block b h1) (HC5.out.below bwT) (fun b h1 h2 => ⟨by omega, by omega, by omega, fun e => by have := HSO.out b e.symm; omega⟩) ⟨by simp; omega, by simp; omega, by simp; omega, fun e => by have := HSO.out _ e.symm; simp at this; omega⟩ (by unfold maxLen; omega) (by omega) rfl ?_
                  rintro g8 cap8 w8 hG8 hgb8 hv8 hgl8
                  have s8 := hgb8.size
                  simp only [World.size_alloc] at s8
                  have hk8 : ∀ k, k < w4.heap.size → some k ≠ (Value.slice aov out.length capv).ownBlock → w8.heap[k]? = w4.heap[k]? := fun k h1 h2 => (hgb8.block k (by simp; omega) h2).trans ((show Below w4.heap.size w4 _ from hp5.trans bwT).block k h1)
                  have hBo : some B ≠ (Value.slice aov out.length capv).ownBlock := fun e => (HOO.out B e.symm).2.2.1 rfl
                  have hmo : some bm ≠ (Value.slice aov out.length capv).ownBlock := fun e => (HOO.out bm e.symm).2.2.2.1 rfl
                  have hio : some bi ≠ (Value.slice aov out.length capv).ownBlock := fun e => (HOO.out bi e.symm).2.2.2.2 (by first | rfl | (rw [HSV.out]; rfl))
                  have hiB : bi ≠ B := (HSO.out bi (by rw [HSV.out]; rfl)).2.2.1
                  have hS8 := And.intro ((World.cell?_of_block (w := w4) (a := ⟨bi, offi + i * 2, none⟩) (hk8 bi hbi4 hio)).trans k0) ((World.cell?_of_block (w := w4) (a := ⟨bi, offi + i * 2 + 1, none⟩) (hk8 bi hbi4 hio)).trans k1)
                  have x8 : w8.cell? ⟨B, 0, none⟩ = _ := (World.cell?_of_block (w := w4) (a := ⟨B, 0, none⟩) (hk8 B lB4 hBo)).trans x4
                  have f8 : ∀ o, w8.frozen? ⟨B, o, none⟩ = false := fun o => (World.frozen?_of_block (w := w4) (a := ⟨B, o, none⟩) (hk8 B lB4 hBo)).trans (f4 o)
                  have hne8 : ∀ k, k < w4.heap.size → some k ≠ (Value.slice aov out.length capv).ownBlock → some k ≠ (Value.slice (some ⟨g8, 0, none⟩) (out.length + 1) cap8).ownBlock := fun k h1 h2 e => by
                    have e' : k = g8 := by simpa [Value.ownBlock] using e
                    rcases hv8 with h | h
                    · exact h2 (by rw [h, e'])
                    · simp at h; omega
                  have hk9 : ∀ k, k ≠ B → (w8.setCell ⟨B, 0, none⟩ (.slice (some ⟨g8, 0, none⟩) (out.length + 1) cap8)).heap[k]? = w8.heap[k]? := fun k h => Below.heap_setCell w8 ⟨B, 0, none⟩ _ k (by first | exact h | exact Ne.symm h)
                  have HM9 := Lib.hid (((HM4.out.mono (S' := fun k => SQ B bm (Value.slice aov out.length capv) k ∧ SQ B bm (Value.slice (some ⟨g8, 0, none⟩) (out.length + 1) cap8) k) fun k h1 h2 => ⟨h2, h2.1, h2.2.1, hne8 k h1 h2.2.2⟩).keep fun k h1 h2 => (hk9 k h2.1.1).trans (hk8 k h1 h2.1.2.2)).mono (S' := SQ B bm (Value.slice (some ⟨g8, 0, none⟩) (out.length + 1) cap8)) fun _ _ h => h.2)
                  have HX9 := Lib.hid (hG8.keep fun k _ h2 => hk9 k h2.2.1)
                  have HS9 := Lib.hid (HS4.out.keepb ((hk9 bm (by omega)).trans (hk8 bm (by omega) hmo)))
                  have HN9 := Lib.hid (((HN4.out.mono (S' := fun k => (SQ B bm (Value.slice aov out.length capv) k ∧ some k ≠ sv.ownBlock) ∧ SQ B bm (Value.slice (some ⟨g8, 0, none⟩) (out.length + 1) cap8) k) fun k h1 h2 => ⟨h2, h2.1.1, h2.1.2.1, hne8 k h1 h2.1.2.2⟩).keep fun k h1 h2 => (hk9 k h2.1.1.1).trans (hk8 k h1 h2.1.1.2.2)).mono (S' := fun k => SQ B bm (Value.slice (some ⟨g8, 0, none⟩) (out.length + 1) cap8) k ∧ some k ≠ sv.ownBlock) fun _ _ h => ⟨h.2, h.1.2⟩)
                  have hB9 := Below.setCell (((hB4.trans (hp5.mono (by omega))).alloc (by omega) (.cells #[.int .i64 te, .slice c5 tl.length ccap5] 36)).grown hgb8 (by simp; omega) (fun k hk => (HOO.out k hk).2.1)) (p := ⟨B, 0, none⟩) (by show w.heap.size ≤ B; omega) (.slice (some ⟨g8, 0, none⟩) (out.length + 1) cap8)
                  have y9 : (w8.setCell ⟨B, 0, none⟩ (.slice (some ⟨g8, 0, none⟩) (out.length + 1) cap8)).cell? ⟨B, 0, none⟩ = some (.slice (some ⟨g8, 0, none⟩) (out.length + 1) cap8) := by have := cell_setCell w8 B 0 0 (.slice (some ⟨g8, 0, none⟩) (out.length + 1) cap8) _ x8; simpa using this
                  have f9 := fun o2 => frozen_setCell w8 B 0 o2 (.slice (some ⟨g8, 0, none⟩) (out.length + 1) cap8) (f8 o2)
                  clear hG8 hgb8 hv8 hk8 hne8
                  refine hK.out _ _ ?_ (fun hHeld => ?_)
                  · exact kpT
                  clear hK K
                  try simp only [Act.put, List.setIfInBounds_toArray, List.set_cons_zero, List.set_cons_succ]
                  refine wpAnyH_ready (rs := [8]) (by kernel_rfl) (by simp) ?_
                  refine rdR (fun K hK => ?_) ?_
                  · go_simp
                    refine hK.out _ _ ?_ (fun hHeld => ?_)
                    · exact kpT
                    clear hK K
                    try simp only [Act.put, List.setIfInBounds_toArray, List.set_cons_zero, List.set_cons_succ]
                    refine wpAnyH_done (by kernel_rfl) ?_ _
                    clear hHeld
                    go_wp2_with fail
                    go_meet
                    exact ⟨rfl, _, HM9, by rw [HE.out]; exact HX9, HS9, HN9, hB9, by simp; omega, y9, f9⟩
                  exact AllReadyH.nil
                exact AllReadyH.nil
              exact AllReadyH.nil
            exact AllReadyH.nil
          refine rdR (fun K hK => ?_) ?_
          · go_simp
            refine (copyTypeI_any _ _ _ (te, tl) (HRT4.out.below ?b0) (by dsimp only; omega)).mono ?_
            case b0 => exact bwT
            rintro e5 w5 ⟨cv5, rfl, hG5, hb5⟩
            have hp5 : Below w4.heap.size w4 w5 := Below.trans (show Below w4.heap.size w4 _ from bwT) (hb5.mono szT)
            have s5 := hp5.size
            have hS5 := And.intro (oldc hp5 hbi4 k0) (oldc hp5 hbi4 k1)
            have x5 := oldc hp5 lB4 x4
            have f5 : ∀ o, w5.frozen? ⟨B, o, none⟩ = false := fun o => (hp5.frozen (p := ⟨B, o, none⟩) lB4).trans (f4 o)
            obtain ⟨c5, ccap5, rfl, -, -⟩ := hG5.len
            have HC5 := Lib.hid (show Ow w4.heap.size w5.heap.size w5 [.int .i64 te, .slice c5 tl.length ccap5] ((te, tl) : Kin) by
              obtain ⟨fp, h1, h2, h3⟩ := hG5.ow (l0 := w4.heap.size) (Nat.le_refl _) (Nat.le_refl _)
              exact ⟨fp, repKin_mk HIT.out h1, h2, h3⟩)
            clear hb5 hG5
            have x6 : (w5.alloc (.cells #[.int .i64 te, .slice c5 tl.length ccap5] 36)).cell? ⟨B, 0, none⟩ = _ := oldc (show Below w5.heap.size w5 _ from bwT) (by omega) x5
            refine hK.out _ _ ?_ (fun hHeld => ?_)
            · exact kpT
            clear hK K
            try simp only [Act.put, List.setIfInBounds_toArray, List.set_cons_zero, List.set_cons_succ]
            refine wpAnyH_ready (rs := [0, 6]) (by kernel_rfl) (by simp) ?_
            refine rdR (fun K hK => ?_) ?_
            · go_simp
              refine hK.out _ _ ?_ (fun hHeld => ?_)
              · exact kpT
              clear hK K
              try simp only [Act.put, List.setIfInBounds_toArray, List.set_cons_zero, List.set_cons_succ]
              refine wpAnyH_ready (rs := [6]) (by kernel_rfl) (by simp) ?_
              refine rdR (fun K hK => ?_) ?_
              · go_simp
                refine hK.out _ _ ?_ (fun hHeld => ?_)
                · exact kpT
                clear hK K
                try simp only [Act.put, List.setIfInBounds_toArray, List.set_cons_zero, List.set_cons_succ]
                refine wpAnyH_ready (rs := [7]) (by kernel_rfl) (by simp) ?_
                refine rdR (fun K hK => ?_) ?_
                · refine step_push_x (w0 := w4) (lx := w4.heap.size) (hx' := w5.heap.size) (cs := [.int .i64 te, .slice c5 tl.length ccap5]) (y := ((te, tl) : Kin)) (ad := ⟨w5.heap.size, 0, none⟩) (c := 1) rfl rfl slKin (by show (0 : Nat) < 2; omega) (by simp [Act.eval, Act.put]) (by simp [Act.eval, Act.put]) (cells_newK w5 _ _ _) HX4.out (Nat.le_refl _) (fun b h1 _ => (show Below w4.heap.size w4 _ from hp5.trans bwT).block b h1) (HC5.out.below bwT) (fun b h1 h2 => ⟨by omega, by omega, by omega, fun e => by have := HSO.out b e.symm; omega⟩) ⟨by simp; omega, by simp; omega, by simp; omega, fun e => by have := HSO.out _ e.symm; simp at this; omega⟩ (by unfold maxLen; omega) (by omega) rfl ?_
                  rintro g8 cap8 w8 hG8 hgb8 hv8 hgl8
                  have s8 := hgb8.size
                  simp only [World.size_alloc] at s8
                  have hk8 : ∀ k, k < w4.heap.size → some k ≠ (Value.slice aov out.length capv).ownBlock → w8.heap[k]? = w4.heap[k]? := fun k h1 h2 => (hgb8.block k (by simp; omega) h2).trans ((show Below w4.heap.size w4 _ from hp5.trans bwT).block k h1)
                  have hBo : some B ≠ (Value.slice aov out.length capv).ownBlock := fun e => (HOO.out B e.symm).2.2.1 rfl
                  have hmo : some bm ≠ (Value.slice aov out.length capv).ownBlock := fun e => (HOO.out bm e.symm).2.2.2.1 rfl
                  have hio : some bi ≠ (Value.slice aov out.length capv).ownBlock := fun e => (HOO.out bi e.symm).2.2.2.2 (by first | rfl | (rw [HSV.out]; rfl))
                  have hiB : bi ≠ B := (HSO.out bi (by rw [HSV.out]; rfl)).2.2.1
                  have hS8 := And.intro ((World.cell?_of_block (w := w4) (a := ⟨bi, offi + i * 2, none⟩) (hk8 bi hbi4 hio)).trans k0) ((World.cell?_of_block (w := w4) (a := ⟨bi, offi + i * 2 + 1, none⟩) (hk8 bi hbi4 hio)).trans k1)
                  have x8 : w8.cell? ⟨B, 0, none⟩ = _ := (World.cell?_of_block (w := w4) (a := ⟨B, 0, none⟩) (hk8 B lB4 hBo)).trans x4
                  have f8 : ∀ o, w8.frozen? ⟨B, o, none⟩ = false := fun o => (World.frozen?_of_block (w := w4) (a := ⟨B, o, none⟩) (hk8 B lB4 hBo)).trans (f4 o)
                  have hne8 : ∀ k, k < w4.heap.size → some k ≠ (Value.slice aov out.length capv).ownBlock → some k ≠ (Value.slice (some ⟨g8, 0, none⟩) (out.length + 1) cap8).ownBlock := fun k h1 h2 e => by
                    have e' : k = g8 := by simpa [Value.ownBlock] using e
                    rcases hv8 with h | h
                    · exact h2 (by rw [h, e'])
                    · simp at h; omega
                  have hk9 : ∀ k, k ≠ B → (w8.setCell ⟨B, 0, none⟩ (.slice (some ⟨g8, 0, none⟩) (out.length + 1) cap8)).heap[k]? = w8.heap[k]? := fun k h => Below.heap_setCell w8 ⟨B, 0, none⟩ _ k (by first | exact h | exact Ne.symm h)
                  have HM9 := Lib.hid (((HM4.out.mono (S' := fun k => SQ B bm (Value.slice aov out.length capv) k ∧ SQ B bm (Value.slice (some ⟨g8, 0, none⟩) (out.length + 1) cap8) k) fun k h1 h2 => ⟨h2, h2.1, h2.2.1, hne8 k h1 h2.2.2⟩).keep fun k h1 h2 => (hk9 k h2.1.1).trans (hk8 k h1 h2.1.2.2)).mono (S' := SQ B bm (Value.slice (some ⟨g8, 0, none⟩) (out.length + 1) cap8)) fun _ _ h => h.2)
                  have HX9 := Lib.hid (hG8.keep fun k _ h2 => hk9 k h2.2.1)
                  have HS9 := Lib.hid (HS4.out.keepb ((hk9 bm (by omega)).trans (hk8 bm (by omega) hmo)))
                  have HN9 := Lib.hid (((HN4.out.mono (S' := fun k => (SQ B bm (Value.slice aov out.length capv) k ∧ some k ≠ sv.ownBlock) ∧ SQ B bm (Value.slice (some ⟨g8, 0, none⟩) (out.length + 1) cap8) k) fun k h1 h2 => ⟨h2, h2.1.1, h2.1.2.1, hne8 k h1 h2.1.2.2⟩).keep fun k h1 h2 => (hk9 k h2.1.1.1).trans (hk8 k h1 h2.1.1.2.2)).mono (S' := fun k => SQ B bm (Value.slice (some ⟨g8, 0, none⟩) (out.length + 1) cap8) k ∧ some k ≠ sv.ownBlock) fun _ _ h => ⟨h.2, h.1.2⟩)
                  have hB9 := Below.setCell (((hB4.trans (hp5.mono (by omega))).alloc (by omega) (.cells #[.int .i64 te, .slice c5 tl.length ccap5] 36)).grown hgb8 (by simp; omega) (fun k hk => (HOO.out k hk).2.1)) (p := ⟨B, 0, none⟩) (by show w.heap.size ≤ B; omega) (.slice (some ⟨g8, 0, none⟩) (out.length + 1) cap8)
                  have y9 : (w8.setCell ⟨B, 0, none⟩ (.slice (some ⟨g8, 0, none⟩) (out.length + 1) cap8)).cell? ⟨B, 0, none⟩ = some (.slice (some ⟨g8, 0, none⟩) (out.length + 1) cap8) := by have := cell_setCell w8 B 0 0 (.slice (some ⟨g8, 0, none⟩) (out.length + 1) cap8) _ x8; simpa using this
                  have f9 := fun o2 => frozen_setCell w8 B 0 o2 (.slice (some ⟨g8, 0, none⟩) (out.length + 1) cap8) (f8 o2)
                  clear hG8 hgb8 hv8 hk8 hne8
                  refine hK.out _ _ ?_ (fun hHeld => ?_)
                  · exact kpT
                  clear hK K
                  try simp only [Act.put, List.setIfInBounds_toArray, List.set_cons_zero, List.set_cons_succ]
                  refine wpAnyH_ready (rs := [8]) (by kernel_rfl) (by simp) ?_
                  refine rdR (fun K hK => ?_) ?_
                  · go_simp
                    refine hK.out _ _ ?_ (fun hHeld => ?_)
                    · exact kpT
                    clear hK K
                    try simp only [Act.put, List.setIfInBounds_toArray, List.set_cons_zero, List.set_cons_succ]
                    refine wpAnyH_done (by kernel_rfl) ?_ _
                    clear hHeld
                    go_wp2_with fail
                    go_meet
                    exact ⟨rfl, _, HM9, by rw [HE.out]; exact HX9, HS9, HN9, hB9, by simp; omega, y9, f9⟩
                  exact AllReadyH.nil
                exact AllReadyH.nil
              exact AllReadyH.nil
            refine rdR (fun K hK => ?_) ?_
            · go_simp
              refine hK.out _ _ ?_ (fun hHeld => ?_)
              · exact kpT
              clear hK K
              try simp only [Act.put, List.setIfInBounds_toArray, List.set_cons_zero, List.set_cons_succ]
              refine wpAnyH_ready (rs := [0]) (by kernel_rfl) (by simp) ?_
              refine rdR (fun K hK => ?_) ?_
              · go_simp
                refine hK.out _ _ ?_ (fun hHeld => ?_)
                · exact kpT
                clear hK K
                try simp only [Act.put, List.setIfInBounds_toArray, List.set_cons_zero, List.set_cons_succ]
                refine wpAnyH_ready (rs := [7]) (by kernel_rfl) (by simp) ?_
                refine rdR (fun K hK => ?_) ?_
                · refine step_push_x (w0 := w4) (lx := w4.heap.size) (hx' := w5.heap.size) (cs := [.int .i64 te, .slice c5 tl.length ccap5]) (y := ((te, tl) : Kin)) (ad := ⟨w5.heap.size, 0, none⟩) (c := 1) rfl rfl slKin (by show (0 : Nat) < 2; omega) (by simp [Act.eval, Act.put]) (by simp [Act.eval, Act.put]) (cells_newK w5 _ _ _) HX4.out (Nat.le_refl _) (fun b h1 _ => (show Below w4.heap.size w4 _ from hp5.trans bwT).block b h1) (HC5.out.below bwT) (fun b h1 h2 => ⟨by omega, by omega, by omega, fun e => by have := HSO.out b e.symm; omega⟩) ⟨by simp; omega, by simp; omega, by simp; omega, fun e => by have := HSO.out _ e.symm; simp at this; omega⟩ (by unfold maxLen; omega) (by omega) rfl ?_
                  rintro g8 cap8 w8 hG8 hgb8 hv8 hgl8
                  have s8 := hgb8.size
                  simp only [World.size_alloc] at s8
                  have hk8 : ∀ k, k < w4.heap.size → some k ≠ (Value.slice aov out.length capv).ownBlock → w8.heap[k]? = w4.heap[k]? := fun k h1 h2 => (hgb8.block k (by simp; omega) h2).trans ((show Below w4.heap.size w4 _ from hp5.trans bwT).block k h1)
                  have hBo : some B ≠ (Value.slice aov out.length capv).ownBlock := fun e => (HOO.out B e.symm).2.2.1 rfl
                  have hmo : some bm ≠ (Value.slice aov out.length capv).ownBlock := fun e => (HOO.out bm e.symm).2.2.2.1 rfl
                  have hio : some bi ≠ (Value.slice aov out.length capv).ownBlock := fun e => (HOO.out bi e.symm).2.2.2.2 (by first | rfl | (rw [HSV.out]; rfl))
                  have hiB : bi ≠ B := (HSO.out bi (by rw [HSV.out]; rfl)).2.2.1
                  have hS8 := And.intro ((World.cell?_of_block (w := w4) (a := ⟨bi, offi + i * 2, none⟩) (hk8 bi hbi4 hio)).trans k0) ((World.cell?_of_block (w := w4) (a := ⟨bi, offi + i * 2 + 1, none⟩) (hk8 bi hbi4 hio)).trans k1)
                  have x8 : w8.cell? ⟨B, 0, none⟩ = _ := (World.cell?_of_block (w := w4) (a := ⟨B, 0, none⟩) (hk8 B lB4 hBo)).trans x4
                  have f8 : ∀ o, w8.frozen? ⟨B, o, none⟩ = false := fun o => (World.frozen?_of_block (w := w4) (a := ⟨B, o, none⟩) (hk8 B lB4 hBo)).trans (f4 o)
                  have hne8 : ∀ k, k < w4.heap.size → some k ≠ (Value.slice aov out.length capv).ownBlock → some k ≠ (Value.slice (some ⟨g8, 0, none⟩) (out.length + 1) cap8).ownBlock := fun k h1 h2 e => by
                    have e' : k = g8 := by simpa [Value.ownBlock] using e
                    rcases hv8 with h | h
                    · exact h2 (by rw [h, e'])
                    · simp at h; omega
                  have hk9 : ∀ k, k ≠ B → (w8.setCell ⟨B, 0, none⟩ (.slice (some ⟨g8, 0, none⟩) (out.length + 1) cap8)).heap[k]? = w8.heap[k]? := fun k h => Below.heap_setCell w8 ⟨B, 0, none⟩ _ k (by first | exact h | exact Ne.symm h)
                  have HM9 := Lib.hid (((HM4.out.mono (S' := fun k => SQ B bm (Value.slice aov out.length capv) k ∧ SQ B bm (Value.slice (some ⟨g8, 0, none⟩) (out.length + 1) cap8) k) fun k h1 h2 => ⟨h2, h2.1, h2.2.1, hne8 k h1 h2.2.2⟩).keep fun k h1 h2 => (hk9 k h2.1.1).trans (hk8 k h1 h2.1.2.2)).mono (S' := SQ B bm (Value.slice (some ⟨g8, 0, none⟩) (out.length + 1) cap8)) fun _ _ h => h.2)
                  have HX9 := Lib.hid (hG8.keep fun k _ h2 => hk9 k h2.2.1)
                  have HS9 := Lib.hid (HS4.out.keepb ((hk9 bm (by omega)).trans (hk8 bm (by omega) hmo)))
                  have HN9 := Lib.hid (((HN4.out.mono (S' := fun k => (SQ B bm (Value.slice aov out.length capv) k ∧ some k ≠ sv.ownBlock) ∧ SQ B bm (Value.slice (some ⟨g8, 0, none⟩) (out.length + 1) cap8) k) fun k h1 h2 => ⟨h2, h2.1.1, h2.1.2.1, hne8 k h1 h2.1.2.2⟩).keep fun k h1 h2 => (hk9 k h2.1.1.1).trans (hk8 k h1 h2.1.1.2.2)).mono (S' := fun k => SQ B bm (Value.slice (some ⟨g8, 0, none⟩) (out.length + 1) cap8) k ∧ some k ≠ sv.ownBlock) fun _ _ h => ⟨h.2, h.1.2⟩)
                  have hB9 := Below.setCell (((hB4.trans (hp5.mono (by omega))).alloc (by omega) (.cells #[.int .i64 te, .slice c5 tl.length ccap5] 36)).grown hgb8 (by simp; omega) (fun k hk => (HOO.out k hk).2.1)) (p := ⟨B, 0, none⟩) (by show w.heap.size ≤ B; omega) (.slice (some ⟨g8, 0, none⟩) (out.length + 1) cap8)
                  have y9 : (w8.setCell ⟨B, 0, none⟩ (.slice (some ⟨g8, 0, none⟩) (out.length + 1) cap8)).cell? ⟨B, 0, none⟩ = some (.slice (some ⟨g8, 0, none⟩) (out.length + 1) cap8) := by have := cell_setCell w8 B 0 0 (.slice (some ⟨g8, 0, none⟩) (out.length + 1) cap8) _ x8; simpa using this
                  have f9 := fun o2 => frozen_setCell w8 B 0 o2 (.slice (some ⟨g8, 0, none⟩) (out.length + 1) cap8) (f8 o2)
                  clear hG8 hgb8 hv8 hk8 hne8
                  refine hK.out _ _ ?_ (fun hHeld => ?_)
                  · exact kpT
                  clear hK K
                  try simp only [Act.put, List.setIfInBounds_toArray, List.set_cons_zero, List.set_cons_succ]
                  refine wpAnyH_ready (rs := [8]) (by kernel_rfl) (by simp) ?_
                  refine rdR (fun K hK => ?_) ?_
                  · go_simp
                    refine hK.out _ _ ?_ (fun hHeld => ?_)
                    · exact kpT
                    clear hK K
                    try simp only [Act.put, List.setIfInBounds_toArray, List.set_cons_zero, List.set_cons_succ]
                    refine wpAnyH_done (by kernel_rfl) ?_ _
                    clear hHeld
                    go_wp2_with fail
                    go_meet
                    exact ⟨rfl, _, HM9, by rw [HE.out]; exact HX9, HS9, HN9, hB9, by simp; omega, y9, f9⟩
                  exact AllReadyH.nil
                exact AllReadyH.nil
              exact AllReadyH.nil
            exact AllReadyH.nil
          exact AllReadyH.nil
        · have hn0 : ¬ (N.length : Int) = 0 := by
            intro h
            exact hN0 (List.length_eq_zero_iff.1 (by omega))
          have HE := Lib.hid (show outK rs (te, tl) out = out by unfold outK; rw [← HN.out, if_neg hN0])
          clear hN0
          go_wp2_with fail
          go_meet
          exact ⟨rfl, _, HM4, by rw [HE.out]; exact HX4, HS4, HN4, hB4, lB4, x4, f4⟩
      case rest =>
        clear HN4 HM4 HX4 HS4 hB4 x4 f4 k0 k1 HRT4 HSO HOO lB4
        obtain ⟨rfl, ov6, hM6, hX6, hS6, hN6, hB6, lB6, x6, f6⟩ := hcut
        obtain ⟨w6, hw6⟩ : ∃ W : World, W = wc := ⟨_, rfl⟩
        subst hw6
        have hsv := HSV.out
        subst hsv
        have s6 := hB6.size
        have HOL := Lib.hid (outK_len rs (te, tl) out)
        obtain ⟨OUT, hOUT⟩ : ∃ OUT, OUT = outK rs (te, tl) out := ⟨_, rfl⟩
        rw [← hOUT] at hX6 HOL
        have HOUT := Lib.hid hOUT
        clear hOUT HSV
        go_wp2
        go_loopw [6, 12, 13, 46] (fun s6 _ _ s46 wi => ∃ j : Nat, j ≤ N.length ∧ s46 = .int .i64 j ∧ Hid (GQ (SQ B bm ov6) w.heap.size wi 36 s6 (nAll o (N.take j))) ∧ Hid (GX (SX w.heap.size B bm s6) wi 36 ov6 OUT) ∧ Hid (SSet wi bm (nAll o (N.take j)).length ((nAll o (N.take j)).map kinTxt)) ∧ Hid (RdS (fun b => SQ B bm ov6 b ∧ some b ≠ s6.ownBlock) wi [.slice a4 N.length cap4] N) ∧ Below w.heap.size w wi ∧ B < wi.heap.size ∧ wi.cell? ⟨B, 0, none⟩ = some ov6 ∧ ∀ o, wi.frozen? ⟨B, o, none⟩ = false) (fun _ _ _ s46 _ => N.length - (intOf s46).toNat)
        case atStart => exact ⟨0, Nat.zero_le _, rfl, hM6, hX6, hS6, hN6, hB6, lB6, x6, f6⟩
        case round =>
          clear hM6 hX6 hS6 hN6 hB6 lB6 x6 f6
          obtain ⟨wi, hwi⟩ : ∃ x : World, x = wr := ⟨_, rfl⟩
          subst hwi
          obtain ⟨j, hj, rfl, hM, hX, hS, hNN, hBi, lBi, xi, fi⟩ := hrel
          have si := hBi.size
          have HLJ := Lib.hid (nAll_len (N.take j) o)
          obtain ⟨O, hOd⟩ : ∃ O, O = nAll o (N.take j) := ⟨_, rfl⟩
          have HOD := Lib.hid hOd
          have hOl : O.length ≤ 596 := by have := HLJ.out.2; rw [← hOd, List.length_take] at this; omega
          rw [← hOd] at hM hS
          have HOK := Lib.hid (show ∀ u ∈ O, isKin u = true by
            rw [hOd]
            intro u hu
            rcases nAll_mem.1 hu with h | h
            · exact hok.out u h
            · exact HNK.out u (List.mem_of_mem_take h))
          clear hOd HLJ
          obtain ⟨aon, capn, rfl, -, -⟩ := hM.out.len
          have HSO := Lib.hid (fun g (e : (Value.slice aon O.length capn).ownBlock = some g) => hM.out.lt (b := g) e)
          by_cases hlj : j < N.length
          · have hJ : (j : Int) < (N.length : Int) := by omega
            obtain ⟨bn, offn, ⟨ue, ul⟩, vu, rfl, hu, m0, m1, hRu, hbn⟩ := hNN.out.kin_at hlj
            obtain ⟨-, hRv⟩ := hRu.kin2
            dsimp only at m0 hRu hRv
            obtain ⟨ua, un, ucap2, rfl, -⟩ := hRv.rd.shape
            have HU := Lib.hid hu.out
            have HRU := Lib.hid hRu
            have HKU := Lib.hid (HNK.out _ (List.mem_of_getElem? hu.out))
            have HST := Lib.hid (show nAll o (N.take (j + 1)) = nAdd O (ue, ul) by rw [nAll_step hu.out, HOD.out])
            obtain ⟨r, hr⟩ : ∃ r, r = decide ((ue, ul) ∈ O) := ⟨_, rfl⟩
            have HRR := Lib.hid hr
            obtain ⟨K, hK⟩ : ∃ K, K = kinTxt (ue, ul) := ⟨_, rfl⟩
            have HKE := Lib.hid hK
            have hks : K.size ≤ maxLen := by have := kinTxt_size (ue, ul); rw [hK]; unfold maxLen; omega
            have HRK := Lib.hid (show r = decide (K ∈ O.map kinTxt) by rw [hr, hK]; exact decide_eq_decide.2 (kin_in_txt HOK.out HKU.out).symm)
            obtain ⟨WA, hWA⟩ : ∃ W : World, W = wi.alloc (.cells #[.int .i64 ue, .slice ua un ucap2] 36) := ⟨_, rfl⟩
            have hbA : Below wi.heap.size wi WA := by rw [hWA]; exact (Below.refl _ _).alloc (Nat.le_refl _) _
            have x0 : WA.cell? ⟨wi.heap.size, 0, none⟩ = some (.int .i64 ue) := by rw [hWA]; simp [go_sem]
            have x1 : WA.cell? ⟨wi.heap.size, 1, none⟩ = some (.slice ua un ucap2) := by rw [hWA]; simp [go_sem]
            have lA : wi.heap.size < WA.heap.size := by rw [hWA]; simp
            clear hu hRu hRv hr hK
            go_upto_region 13 with fail
            rw [← hWA]
            clear hWA m0 m1
            go_wp2_with fail
            refine (formatI_any _ _ _ (ue, ul) (HRU.out.rd.below hbA)).mono ?_
            rw [← HKE.out]
            rintro e7 w7 ⟨rfl, hb7⟩
            have hb7i : Below wi.heap.size wi w7 := hbA.trans (hb7.mono (by omega))
            have x0 := oldc hb7 lA x0
            have x1 := oldc hb7 lA x1
            have s7 := hb7i.size
            have l7 : wi.heap.size < w7.heap.size := by have := hb7.size; omega
            have hB7 : Below w.heap.size w w7 := hBi.trans (hb7i.mono si)
            have HM7 := Lib.hid (hM.out.below hb7i)
            have HX7 := Lib.hid (hX.out.below hb7i)
            have HS7 := Lib.hid (hS.out.below hb7i)
            have HN7 := Lib.hid (hNN.out.below hb7i)
            have HU7 := Lib.hid (HRU.out.below hb7i)
            have z7 := oldc hb7i lBi xi
            have f7 : ∀ o, w7.frozen? ⟨B, o, none⟩ = false := fun o => (hb7i.frozen (p := ⟨B, o, none⟩) lBi).trans (fi o)
            clear hM hX hS hNN hb7 HRU hbA xi fi
            cases r
            · have HE := Lib.hid (show O ++ [(ue, ul)] = nAll o (N.take (j + 1)) by rw [HST.out]; unfold nAdd; rw [if_neg (of_decide_eq_false HRR.out.symm)])
              go_upto_region 16 with (first | (at_lookup; refine wpList_sset_lookg (by rfl) rfl Try.underlying91 rfl HS7.out rfl hks false HRK.out ?_) | (at_mapUpdate; refine wpList_sset_put rfl rfl Try.underlying91 rfl HS7.out (by unfold maxLen; omega) rfl rfl hks ?_; intro w8 hS8 hg8))
              have s8 := hg8.size
              have hk8 : ∀ k, k < w7.heap.size → k ≠ bm → w8.heap[k]? = w7.heap[k]? := fun k h1 h2 => hg8.block k h1 (fun e => h2 (Option.some.inj e))
              have x0 : w8.cell? ⟨wi.heap.size, 0, none⟩ = _ := (World.cell?_of_block (w := w7) (a := ⟨wi.heap.size, 0, none⟩) (hk8 wi.heap.size l7 (by omega))).trans x0
              have x1 : w8.cell? ⟨wi.heap.size, 1, none⟩ = _ := (World.cell?_of_block (w := w7) (a := ⟨wi.heap.size, 1, none⟩) (hk8 wi.heap.size l7 (by omega))).trans x1
              have z8 : w8.cell? ⟨B, 0, none⟩ = _ := (World.cell?_of_block (w := w7) (a := ⟨B, 0, none⟩) (hk8 B (by omega) (by omega))).trans z7
              have f8 : ∀ o, w8.frozen? ⟨B, o, none⟩ = false := fun o => (World.frozen?_of_block (w := w7) (a := ⟨B, o, none⟩) (hk8 B (by omega) (by omega))).trans (f7 o)
              have HM8 := Lib.hid (HM7.out.keep fun k h1 h2 => hk8 k h1 h2.2.1)
              have HX8 := Lib.hid (HX7.out.keep fun k h1 h2 => hk8 k h1 h2.2.2.1)
              have HN8 := Lib.hid (HN7.out.keep fun k h1 h2 => hk8 k h1 h2.1.2.1)
              have HU8 := Lib.hid (HU7.out.keep fun k h1 h2 => hk8 k h1 h2.1.2.1)
              have HS8 := Lib.hid hS8
              have HOO := Lib.hid (fun g (e : ov6.ownBlock = some g) => HX8.out.lt (b := g) e)
              have hB8 : Below w.heap.size w w8 := hB7.grown hg8 (by omega) (fun k hk => by simp only [Option.some.injEq] at hk; omega)
              clear hk8 hg8 hS8 HM7 HX7 HS7 HN7 HU7 z7 f7 hB7
              go_wp2_with (at_builtin; refine wpList_push_q rfl rfl slKin (by show (0 : Nat) < 2; omega) (HM8.out.alloc _) rfl (ad := ⟨w8.heap.size, 0, none⟩) rfl (cs := [.int .i64 ue, .slice ua un ucap2]) (y := ((ue, ul) : Kin)) (cells_newK w8 _ _ _) (HU8.out.below bwT) ⟨by simp; omega, by simp; omega, fun e => by have := HOO.out _ e.symm; simp at this; omega⟩ (by unfold maxLen; omega) (by omega) (by simp; omega) ?_)
              intro v9 w9 hG9 hgb9 hv9
              rw [HE.out] at hG9
              have HG9 := Lib.hid hG9
              have hkb : ∀ k, k < w8.heap.size → some k ≠ (Value.slice aon O.length capn).ownBlock → w9.heap[k]? = w8.heap[k]? := fun k h1 h2 => (hgb9.block k (by simp; omega) h2).trans (Below.heap_alloc w8 _ k h1)
              have hne : ∀ k, k < w8.heap.size → some k ≠ (Value.slice aon O.length capn).ownBlock → some k ≠ v9.ownBlock := fun k h1 h2 e => by
                rcases hv9 with h | h
                · exact h2 (e.trans h)
                · rw [h] at e; simp at e; omega
              have hBn : some B ≠ (Value.slice aon O.length capn).ownBlock := fun e => (HSO.out B e.symm).2.2.1 rfl
              have hmn : some bm ≠ (Value.slice aon O.length capn).ownBlock := fun e => (HSO.out bm e.symm).2.2.2.1 rfl
              have HX9 := Lib.hid (((HX8.out.mono (S' := fun k => SX w.heap.size B bm (Value.slice aon O.length capn) k ∧ SX w.heap.size B bm v9 k) fun k h1 h2 => ⟨h2, h2.1, h2.2.1, h2.2.2.1, hne k h1 h2.2.2.2⟩).keep fun k h1 h2 => hkb k h1 h2.1.2.2.2).mono (S' := SX w.heap.size B bm v9) fun _ _ h => h.2)
              have HN9 := Lib.hid (((HN8.out.mono (S' := fun k => (SQ B bm ov6 k ∧ some k ≠ (Value.slice aon O.length capn).ownBlock) ∧ some k ≠ v9.ownBlock) fun k h1 h2 => ⟨h2, hne k h1 h2.2⟩).keep fun k h1 h2 => hkb k h1 h2.1.2).mono (S' := fun k => SQ B bm ov6 k ∧ some k ≠ v9.ownBlock) fun _ _ h => ⟨h.1.1, h.2⟩)
              have HS9 := Lib.hid (show SSet w9 bm (nAll o (N.take (j + 1))).length ((nAll o (N.take (j + 1))).map kinTxt) by
                rw [← HE.out, List.length_append, List.map_append]
                refine (HS8.out.keepb (hkb bm (by omega) hmn)).perm fun s => ?_
                rw [HKE.out]; simp [or_comm])
              have z9 : w9.cell? ⟨B, 0, none⟩ = _ := (World.cell?_of_block (w := w8) (a := ⟨B, 0, none⟩) (hkb B (by omega) hBn)).trans z8
              have f9 : ∀ o, w9.frozen? ⟨B, o, none⟩ = false := fun o => (World.frozen?_of_block (w := w8) (a := ⟨B, o, none⟩) (hkb B (by omega) hBn)).trans (f8 o)
              have hB9 : Below w.heap.size w w9 := (show Below w.heap.size w _ from bwT : Below w.heap.size w (w8.alloc (.cells #[.int .i64 ue, .slice ua un ucap2] 36))).grown hgb9 (by simp; omega) (fun k hk => (HSO.out k hk).1)
              have s9 := hgb9.size
              simp only [World.size_alloc] at s9
              clear hgb9 hv9 hkb hne HM8 HX8 HN8 HU8 HS8 hG9 z8 f8 hB8 HOO
              go_wp2
              go_roundw
              case rel => exact ⟨j + 1, by omega, by go_num, HG9, HX9, HS9, HN9, hB9, by omega, z9, f9⟩
              case measure => simp [intOf]; omega
            · have HE := Lib.hid (show O = nAll o (N.take (j + 1)) by rw [HST.out]; unfold nAdd; rw [if_pos (of_decide_eq_true HRR.out.symm)])
              go_wp2_with (at_lookup; refine wpList_sset_lookg (by rfl) rfl Try.underlying91 rfl HS7.out rfl hks true HRK.out ?_)
              go_roundw
              case rel => exact ⟨j + 1, by omega, by go_num, Lib.hid (by rw [← HE.out]; exact HM7.out), HX7, Lib.hid (by rw [← HE.out]; exact HS7.out), HN7, hB7, by omega, z7, f7⟩
              case measure => simp [intOf]; omega
          · obtain rfl : j = N.length := by omega
            have hJ : ¬ (N.length : Int) < (N.length : Int) := by omega
            have HOE := Lib.hid (show O = nAll o N by have := HOD.out; rwa [List.take_length] at this)
            have hOlo : o.length ≤ O.length := by rw [HOE.out]; exact (nAll_len N o).1
            clear HOD hNN
            by_cases hbig : 500 < O.length
            · have hbI : (500 : Int) < (O.length : Int) := by omega
              have HRn := Lib.hid (show R = none by
                rw [← hgl.out]
                obtain ⟨f, hf⟩ : ∃ f, 502 - i = f + 1 := ⟨501 - i, by omega⟩
                rw [hf]
                refine nfB_big HTI.out ?_
                rw [← HN.out, ← HOE.out]; exact hbig)
              clear hgl hM hX hS hok
              go_wp2
              go_ret2
              exact ⟨hBi, by rw [HRn.out]; exact rfl⟩
            · have hbI : ¬ (500 : Int) < (O.length : Int) := by omega
              have HGL := Lib.hid (show nfB rs 500 (502 - (i + 1)) (i + 1) O OUT = R by
                rw [← hgl.out]
                obtain ⟨f, hf⟩ : ∃ f, 502 - i = f + 1 := ⟨501 - i, by omega⟩
                rw [hf, show 502 - (i + 1) = f by omega]
                refine (Eq.trans (nfB_go HTI.out ?_) ?_).symm
                · rw [← HN.out, ← HOE.out]; exact hbig
                · rw [HOUT.out, HOE.out, HN.out]; rfl)
              have hlo2 := HOL.out
              clear hgl hok
              go_wp2
              go_roundw
              case rel => exact ⟨i + 1, O, OUT, ov6, by omega, by omega, by omega, by go_num, HGL, HOK, hM, hX, hS, hBi, lBi, xi, fi⟩
              case measure => simp [intOf]; omega
    · obtain rfl : i = o.length := by omega
      have nI : ¬ (o.length : Int) < (o.length : Int) := by omega
      have HRs := Lib.hid (show R = some out by
        rw [← hgl.out]
        obtain ⟨f, hf⟩ : ∃ f, 502 - o.length = f + 1 := ⟨501 - o.length, by omega⟩
        rw [hf]
        exact nfB_end (List.getElem?_eq_none (Nat.le_refl _)))
      have hBo : some B ≠ (Value.slice aov out.length capv).ownBlock := fun e => (hX.out.lt e.symm).2.2.1 rfl
      have hge : ∀ b ∈ (Value.slice aov out.length capv).ownBlock.toList, w.heap.size ≤ b := fun b hb => (hX.out.lt (Option.mem_toList.1 hb)).2.1
      have HOW := Lib.hid (hX.out.ow (lo := w.heap.size) (hi := wl.heap.size) fun b h1 h2 => ⟨h2.1, h1⟩)
      clear hgl hM hok hS hX
      go_wp2_with (go_at_call 76; refine (sortN_any _ B _ out xB lB hBo HOW.out (by omega)).mono ?_)
      rintro e w4 ⟨rfl, l, hl1, hl2, how, hoff⟩
      have hx4 : w4.cell? ⟨B, 0, none⟩ = _ := (World.cell?_of_block (w := wl) (a := ⟨B, 0, none⟩) (hoff.block B lB (fun h => hBo (Option.mem_toList.1 h).symm))).trans xB
      have hB4 : Below w.heap.size w w4 := hBl.trans (hoff.toBelow hBl.size fun b hb => hge b hb)
      have HO4 := Lib.hid how.top
      have HL := Lib.hid (And.intro hl1 hl2)
      clear how hoff hl1 hl2
      go_wp2
      go_ret2
      refine ⟨hB4, ?_⟩
      rw [HRs.out]
      exact ⟨_, l, rfl, HL.out.1, HL.out.2, HO4.out⟩
end Go.Proofs.Ytoipdgoejichbaa
