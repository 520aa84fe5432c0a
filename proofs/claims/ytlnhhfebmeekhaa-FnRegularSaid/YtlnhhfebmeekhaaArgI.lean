/- Contract of impl.AllRegular. -/
import Derived.Test.YtlnhhfebmeekhaaArgC
import Derived.Test.YtlnhhfebmeekhaaArgS
import Derived.Test.YtlnhhfebmeekhaaZ10F
import Derived.Test.YtlnhhfebmeekhaaCanI
import Derived.Test.YtlnhhfebmeekhaaRegI
namespace Go.Proofs.Ytlnhhfebmeekhaa
set_option linter.unusedVariables false
set_option linter.unusedSimpArgs false
open Go.RowKit

theorem GX.nil {α : Type} [Rep α] (S : Nat → Prop) (w : World) (E : TypeId) : GX (α := α) S w E (.slice none 0 0) [] :=
  ⟨[], [], ⟨by simp, .inl ⟨rfl, rfl⟩⟩, trivial, by simp, by simp [Value.ownBlock], by simp⟩
theorem aOut_step {P : Pms} {o F : List Cls} {i : Nat} {x : List Int} (h : P[i]? = some x) (hF : aOut P o (P.drop i) = F) : aOut P (aIn x o P) (P.drop (i + 1)) = F := by
  rw [drop_cons h] at hF; exact hF
theorem aIn_step {P : Pms} {x q : List Int} {o : List Cls} {j : Nat} (h : P[j]? = some q) : aIn x o (P.drop j) = aIn x (aAdd o (x, q)) (P.drop (j + 1)) := by
  rw [drop_cons h]; rfl
theorem mem_next {s : List Cls} {i : Nat} {x y : Cls} (h : s[i]? = some y) : decide (x ∈ s.take (i + 1)) = (decide (x ∈ s.take i) || decide (x = y)) := by
  rw [take_snoc h, Bool.eq_iff_iff]; simp
set_option maxRecDepth 20000 in
set_option maxHeartbeats 8000000 in
theorem aregI_any (w : World) (n : Int) (X : List Cls) (hX : X = if 1 ≤ n ∧ n ≤ 4 then sAll n.toNat else []) :
    Calls Try.prog 8 #[.int .i64 n] w (PostOw w X) := by
  by_cases h1 : n < 1
  · obtain rfl : X = [] := by rw [hX, if_neg (by omega)]
    clear hX
    go_enter Try.func8, Try.ntmps8
    go_wp2
    go_ret
    exact ⟨_, rfl, Ow.nil _ _ _, Below.refl _ _⟩
  by_cases h4 : 4 < n
  · obtain rfl : X = [] := by rw [hX, if_neg (by omega)]
    clear hX
    go_enter Try.func8, Try.ntmps8
    go_wp2
    go_ret
    exact ⟨_, rfl, Ow.nil _ _ _, Below.refl _ _⟩
  obtain ⟨N, rfl⟩ := Int.eq_ofNat_of_zero_le (show 0 ≤ n by omega)
  have hN : N ≤ 4 := by omega
  obtain ⟨P, hP⟩ : ∃ P, P = perms N N := ⟨_, rfl⟩
  have HPS := Lib.hid (perms_small hN)
  rw [← hP] at HPS
  have HPE := Lib.hid hP
  have hPl : P.length ≤ 24 := HPS.out.1
  obtain ⟨F, hF⟩ : ∃ F, F = aAll N := ⟨_, rfl⟩
  have HXF := Lib.hid (show aOut P [] P = F by rw [hF, hP]; rfl)
  have hFl : F.length ≤ 12 := by rw [hF]; exact (aAll_facts hN).1
  have HXE := Lib.hid (show X = sAll N by rw [hX, if_pos (by omega)]; rfl)
  have HFE := Lib.hid hF
  have HN := Lib.hid hN
  clear hX hP hF
  go_enter Try.func8, Try.ntmps8
  go_wp2_with fail
  refine (permsI_any _ N (by omega)).mono ?_
  rw [← HPE.out]
  rintro e1 w1 ⟨u1, rfl, ho1, hb1⟩
  have hB1 : Below w.heap.size w w1 := Below.trans (show Below w.heap.size w _ from bwT) (hb1.mono (by simp))
  have s1 : w.heap.size + 1 ≤ w1.heap.size := by have := hb1.size; simpa using this
  have hxB : w1.cell? ⟨w.heap.size, 0, none⟩ = some (.slice none 0 0) := oldc hb1 (by simp) (by simp [go_sem])
  have HFB := Lib.hid (show ∀ o, w1.frozen? ⟨w.heap.size, o, none⟩ = false from fun o => (hb1.frozen (p := ⟨w.heap.size, o, none⟩) (by simp)).trans (by simp [go_sem]))
  obtain ⟨a1, n1, cap1, rfl, hn1, -⟩ := ho1.rd.shape
  subst hn1
  have HP := Lib.hid (show Rd true (w.heap.size + 1) w1.heap.size w1 [.slice a1 P.length cap1] P by have := ho1.rd; rwa [World.size_alloc] at this)
  obtain ⟨S, hS⟩ : ∃ S : Nat → Prop, S = fun b => w1.heap.size ≤ b := ⟨_, rfl⟩
  have HS := Lib.hid (show ∀ b, S b ↔ w1.heap.size ≤ b by intro b; rw [hS])
  clear hS ho1 hb1
  go_wp2
  go_loopw [5, 7, 8, 9, 11, 21] (fun _ _ _ _ _ s21 wr => ∃ (i : Nat) (o : List Cls) (v : Value), i ≤ P.length ∧ s21 = .int .i64 i ∧ Hid (aOut P o (P.drop i) = F) ∧ Hid (GX S wr 30 v o) ∧ Hid (Zone (w.heap.size + 1) w1.heap.size w1 wr) ∧ Below w.heap.size w wr ∧ w1.heap.size ≤ wr.heap.size ∧ wr.cell? ⟨w.heap.size, 0, none⟩ = some v ∧ Hid (∀ o, wr.frozen? ⟨w.heap.size, o, none⟩ = false)) (fun _ _ _ _ _ s21 _ => P.length - (intOf s21).toNat)
  case atStart => exact ⟨0, [], _, Nat.zero_le _, rfl, HXF, Lib.hid (GX.nil _ _ _), Lib.hid (fun _ _ _ => rfl), hB1, Nat.le_refl _, hxB, HFB⟩
  case round =>
    clear HXF hxB HFB hB1
    obtain ⟨wb, hwb⟩ : ∃ wm : World, wm = wr := ⟨_, rfl⟩
    subst hwb
    obtain ⟨i, o, v, hi, rfl, HO, HG, HZ, hBb, sb, hxB, HFB⟩ := hrel
    obtain ⟨ea, ecap, rfl, -, -⟩ := HG.out.len
    by_cases hlt : i < P.length
    · have hI : (i : Int) < (P.length : Int) := by omega
      obtain ⟨b, off, x, vx, rfl, hx, cx, hrx, gb1, gb2, hbl⟩ := HP.out.lists_at hlt
      obtain ⟨xa, xn, xcap, rfl, -⟩ := hrx.shape
      have qx : wb.cell? ⟨b, off + i, none⟩ = _ := (World.cell?_of_block (w := w1) (a := ⟨b, off + i, none⟩) (HZ.out b gb1 gb2)).trans cx
      have HXX := Lib.hid hx.out
      have HRX := Lib.hid hrx
      have HO2 := Lib.hid (aOut_step hx.out HO.out)
      have hxl := HPS.out.2 x (List.mem_of_getElem? hx.out)
      clear hx cx hrx HO gb1 gb2
      go_wp2_with fail
      refine (permsI_any _ N (by omega)).mono ?_
      rw [← HPE.out]
      rintro e2 w2 ⟨u2, rfl, ho2, hb2⟩
      have s2 := hb2.size
      have hB2 : Below w.heap.size w w2 := hBb.trans (hb2.mono (by omega))
      obtain ⟨a2, n2, cap2, rfl, hn2, -⟩ := ho2.rd.shape
      subst hn2
      have HP2 := Lib.hid ho2.rd
      have HG2 := Lib.hid (HG.out.below hb2)
      have HZ2 := Lib.hid (show Zone (w.heap.size + 1) w1.heap.size w1 w2 from fun b h1 h2 => (hb2.block b (by omega)).trans (HZ.out b h1 h2))
      have hxB2 := oldc hb2 (by omega) hxB
      have HFB2 := Lib.hid (show ∀ o, w2.frozen? ⟨w.heap.size, o, none⟩ = false from fun o => (hb2.frozen (p := ⟨w.heap.size, o, none⟩) (by show w.heap.size < _; omega)).trans (HFB.out o))
      have HOB2 := Lib.hid (show ∀ g, (Value.slice ea o.length ecap).ownBlock = some g → g < wb.heap.size ∨ w2.heap.size ≤ g from fun g e => .inl (HG.out.lt e).1)
      clear ho2 hb2 HG HZ hxB HFB qx
      go_wp2
      go_loopw [7, 8, 9, 11, 28] (fun _ _ _ _ s28 wr => ∃ (j : Nat) (o : List Cls) (v : Value), j ≤ P.length ∧ s28 = .int .i64 j ∧ Hid (aOut P (aIn x o (P.drop j)) (P.drop (i + 1)) = F) ∧ Hid (GX S wr 30 v o) ∧ Hid (∀ g, v.ownBlock = some g → g < wb.heap.size ∨ w2.heap.size ≤ g) ∧ Hid (Zone (w.heap.size + 1) w1.heap.size w1 wr) ∧ Hid (Zone wb.heap.size w2.heap.size w2 wr) ∧ Below w.heap.size w wr ∧ w2.heap.size ≤ wr.heap.size ∧ wr.cell? ⟨w.heap.size, 0, none⟩ = some v ∧ Hid (∀ o, wr.frozen? ⟨w.heap.size, o, none⟩ = false)) (fun _ _ _ _ s28 _ => P.length - (intOf s28).toNat)
      case atStart => exact ⟨0, o, _, Nat.zero_le _, rfl, HO2, HG2, HOB2, HZ2, Lib.hid (fun _ _ _ => rfl), hB2, Nat.le_refl _, hxB2, HFB2⟩
      case round =>
        clear HO2 HG2 HOB2 HZ2 hB2 hxB2 HFB2
        obtain ⟨wd, hwd⟩ : ∃ wm : World, wm = wr := ⟨_, rfl⟩
        subst hwd
        obtain ⟨j, o, v, hj, rfl, HO, HG, HOB, HZ1, HZ2, hBd, sd, hxB, HFB⟩ := hrel
        obtain ⟨ea, ecap, rfl, -, -⟩ := HG.out.len
        by_cases hlj : j < P.length
        · have hJ : (j : Int) < (P.length : Int) := by omega
          obtain ⟨b', off', q, vq, rfl, hq, cq, hrq, -, -, hbl'⟩ := (HP2.out.keep HZ2.out).lists_at hlj
          obtain ⟨qa, qn, qcap, rfl, -⟩ := hrq.shape
          have HOS := Lib.hid (show aOut P (aIn x (aAdd o (x, q)) (P.drop (j + 1))) (P.drop (i + 1)) = F by rw [← aIn_step hq.out]; exact HO.out)
          have hol : (aAdd o (x, q)).length ≤ 12 := by
            have h1 := aOut_mono P (P.drop (i + 1)) (aIn x (aAdd o (x, q)) (P.drop (j + 1)))
            have h2 := aIn_mono x (P.drop (j + 1)) (aAdd o (x, q))
            rw [HOS.out] at h1; omega
          have hol0 : o.length ≤ 12 := by have := aAdd_mono o (x, q); omega
          have HC := Lib.hid (Rd.cls_mk ((HRX.out.keep HZ1.out).top.mono (Nat.zero_le _) (Nat.le_refl _)) (hrq.top.mono (Nat.zero_le _) (Nat.le_refl _)))
          obtain ⟨WA, hWA⟩ : ∃ W : World, W = wd.alloc (.cells #[.slice xa xn xcap, .slice qa qn qcap] 30) := ⟨_, rfl⟩
          have hbA : Below wd.heap.size wd WA := by rw [hWA]; exact (Below.refl _ _).alloc (Nat.le_refl _) _
          have x0 : WA.cell? ⟨wd.heap.size, 0, none⟩ = some (.slice xa xn xcap) := by rw [hWA]; simp [go_sem]
          have x1 : WA.cell? ⟨wd.heap.size, 1, none⟩ = some (.slice qa qn qcap) := by rw [hWA]; simp [go_sem]
          have HFA := Lib.hid (show ∀ o, WA.frozen? ⟨wd.heap.size, o, none⟩ = false by intro o; rw [hWA]; simp [go_sem])
          have lA : wd.heap.size + 1 ≤ WA.heap.size := by rw [hWA]; simp
          obtain ⟨g, hg⟩ : ∃ g, g = isReg (x, q) := ⟨_, rfl⟩
          have HGG := Lib.hid hg
          clear hq hrq HO hg
          go_upto_region 11 with fail
          rw [← hWA]
          clear hWA cq
          go_wp2_with fail
          refine (isRegI_b _ _ _ (x, q) (HC.out.below hbA) (by dsimp only; omega) g HGG.out).mono ?_
          rintro e4 w4 ⟨rfl, hb4⟩
          have s4 := hb4.size
          have x0 := oldc hb4 lA x0
          have x1 := oldc hb4 lA x1
          have hd4 : Below wd.heap.size wd w4 := hbA.trans (hb4.mono (by omega))
          have HF4 := Lib.hid (show ∀ o, w4.frozen? ⟨wd.heap.size, o, none⟩ = false from fun o => (hb4.frozen (p := ⟨wd.heap.size, o, none⟩) lA).trans (HFA.out o))
          clear hb4 HFA
          have hxB4 := oldc hd4 (by omega) hxB
          have HFB4 := Lib.hid (show ∀ o, w4.frozen? ⟨w.heap.size, o, none⟩ = false from fun o => (hd4.frozen (p := ⟨w.heap.size, o, none⟩) (by show w.heap.size < _; omega)).trans (HFB.out o))
          cases g
          · have HE := Lib.hid (show aAdd o (x, q) = o by unfold aAdd; rw [← HGG.out]; rfl)
            rw [HE.out] at HOS
            have HZ1' := Lib.hid (show Zone (w.heap.size + 1) w1.heap.size w1 w4 from fun b h1 h2 => (hd4.block b (by omega)).trans (HZ1.out b h1 h2))
            have HZ2' := Lib.hid (show Zone wb.heap.size w2.heap.size w2 w4 from fun b h1 h2 => (hd4.block b (by omega)).trans (HZ2.out b h1 h2))
            have HG4 := Lib.hid (HG.out.below hd4)
            clear HG HZ1 HZ2 HF4 hxB HFB
            go_wp2
            go_roundw
            case rel => exact ⟨j + 1, o, _, by omega, by go_num, HOS, HG4, HOB, HZ1', HZ2', hBd.trans (hd4.mono (by omega)), by omega, hxB4, HFB4⟩
            case measure => simp [intOf]; omega
          · obtain ⟨K, hK⟩ : ∃ K, K = canonC (x, q) := ⟨_, rfl⟩
            have HE := Lib.hid (show aAdd o (x, q) = if K ∈ o then o else o ++ [K] by unfold aAdd; rw [← HGG.out, hK]; rfl)
            have HK := Lib.hid hK
            have hcls := isReg_cls HGG.out.symm
            have HCL := Lib.hid hcls
            clear hcls hK
            go_wp2_with fail
            refine (canonI_any _ _ _ (x, q) (HC.out.below hd4) HCL.out (by dsimp only; omega)).mono ?_
            rw [← HK.out]
            rintro e5 w5 ⟨ca, cb, rfl, ho5, hb5⟩
            obtain ⟨h51, h52⟩ := ho5.rd.two rfl
            obtain ⟨ya, yn, ycap, rfl, -⟩ := h51.shape
            obtain ⟨za, zn, zcap, rfl, -⟩ := h52.shape
            have s5 := hb5.size
            have x0 := oldc hb5 (by omega) x0
            have x1 := oldc hb5 (by omega) x1
            have hf5 : ∀ o, w5.frozen? ⟨wd.heap.size, o, none⟩ = false := fun o => (hb5.frozen (p := ⟨wd.heap.size, o, none⟩) (by show wd.heap.size < _; omega)).trans (HF4.out o)
            have hd5 : Below wd.heap.size wd w5 := hd4.trans (hb5.mono (by omega))
            obtain ⟨w6, hw6⟩ : ∃ W : World, W = (w5.setCell ⟨wd.heap.size, 0, none⟩ (.slice ya yn ycap)).setCell ⟨wd.heap.size, 1, none⟩ (.slice za zn zcap) := ⟨_, rfl⟩
            have s6 : w6.heap.size = w5.heap.size := by rw [hw6]; simp
            have hb6 : ∀ b, b ≠ wd.heap.size → w6.heap[b]? = w5.heap[b]? := fun b hb => by
              rw [hw6, Below.heap_setCell _ _ _ b hb, Below.heap_setCell _ _ _ b hb]
            have y0 : w6.cell? ⟨wd.heap.size, 0, none⟩ = some (.slice ya yn ycap) := by
              have h1 := cell_setCell w5 wd.heap.size 0 0 (.slice ya yn ycap) _ x0
              have h2 := cell_setCell _ wd.heap.size 1 0 (.slice za zn zcap) _ h1
              rw [hw6]; simpa using h2
            have y1 : w6.cell? ⟨wd.heap.size, 1, none⟩ = some (.slice za zn zcap) := by
              have h1 := cell_setCell w5 wd.heap.size 0 1 (.slice ya yn ycap) _ x1
              have h2 := cell_setCell _ wd.heap.size 1 1 (.slice za zn zcap) _ h1
              rw [hw6]; simpa using h2
            have hd6 : Below wd.heap.size wd w6 := by rw [hw6]; exact (hd5.setCell (p := ⟨wd.heap.size, 0, none⟩) (Nat.le_refl _) _).setCell (p := ⟨wd.heap.size, 1, none⟩) (Nat.le_refl _) _
            have HY6 := Lib.hid (ho5.keep (show Zone w4.heap.size w5.heap.size w5 w6 from fun b h1 h2 => hb6 b (by omega)))
            have HG6 := Lib.hid (HG.out.below hd6)
            have hxB6 := oldc hd6 (by omega) hxB
            have HFB6 := Lib.hid (show ∀ o, w6.frozen? ⟨w.heap.size, o, none⟩ = false from fun o => (hd6.frozen (p := ⟨w.heap.size, o, none⟩) (by show w.heap.size < _; omega)).trans (HFB.out o))
            clear ho5 h51 h52 hb5 HF4 hxB4 HFB4 hd5
            go_upto_region 14 with fail
            rw [← hw6]
            clear hw6 x0 x1 hf5 hb6
            go_wp2
            go_loopw [9, 11, 42] (fun s9 _ s42 wr => ∃ (k : Nat) (kn : Bool), k ≤ o.length ∧ s42 = .int .i64 k ∧ s9 = .bool kn ∧ Hid (kn = decide (K ∈ o.take k)) ∧ Below w6.heap.size w6 wr) (fun _ _ s42 _ => o.length - (intOf s42).toNat)
            case atStart => exact ⟨0, false, Nat.zero_le _, rfl, rfl, Lib.hid (by simp), Below.refl _ _⟩
            case round =>
              obtain ⟨we, hwe⟩ : ∃ wm : World, wm = wr := ⟨_, rfl⟩
              subst hwe
              obtain ⟨k, kn, hk, rfl, rfl, HKN, hbe⟩ := hrel
              have se := hbe.size
              have t0 := oldc hbe (by omega) y0
              have t1 := oldc hbe (by omega) y1
              by_cases hlk : k < o.length
              · have hKI : (k : Int) < (o.length : Int) := by omega
                obtain ⟨b3, off3, xa3, ya3, vx3, vy3, rfl, hx3, k0, k1, hvx3, hvy3, hR3, -, -, hbl3⟩ := HG6.out.rd.dCls_at hlk
                obtain ⟨a31, n31, p31, rfl, -⟩ := hvx3.shape
                obtain ⟨a32, n32, p32, rfl, -⟩ := hvy3.shape
                have q0 := oldc hbe hbl3 k0
                have q1 := oldc hbe hbl3 k1
                have HR3 := Lib.hid hR3
                have HNX := Lib.hid (mem_next (x := K) hx3.out)
                rw [← HKN.out] at HNX
                obtain ⟨bq, hbq⟩ : ∃ bq, bq = decide (K = (xa3, ya3)) := ⟨_, rfl⟩
                have HBQ := Lib.hid hbq
                rw [← hbq] at HNX
                obtain ⟨WB, hWB⟩ : ∃ W : World, W = we.alloc (.cells #[.slice a31 n31 p31, .slice a32 n32 p32] 30) := ⟨_, rfl⟩
                have hbB : Below we.heap.size we WB := by rw [hWB]; exact (Below.refl _ _).alloc (Nat.le_refl _) _
                have r0 : WB.cell? ⟨we.heap.size, 0, none⟩ = some (.slice a31 n31 p31) := by rw [hWB]; simp [go_sem]
                have r1 : WB.cell? ⟨we.heap.size, 1, none⟩ = some (.slice a32 n32 p32) := by rw [hWB]; simp [go_sem]
                have t0 := oldc hbB (by omega) t0
                have t1 := oldc hbB (by omega) t1
                have h6B : Below w6.heap.size w6 WB := hbe.trans (hbB.mono se)
                have sB' := h6B.size
                clear hx3 k0 k1 hvx3 hvy3 hR3 hbq HKN
                go_upto_region 17 with fail
                rw [← hWB]
                clear hWB q0 q1
                cases kn
                · go_wp2_with fail
                  refine (equalClasses_b _ _ _ _ _ K (xa3, ya3) ((HY6.out.rd.top.mono (Nat.zero_le _) (Nat.le_refl _)).below h6B) (HR3.out.below h6B) bq HBQ.out).mono ?_
                  rintro e7 w7 ⟨rfl, hb7⟩
                  have h67 : Below w6.heap.size w6 w7 := h6B.trans (hb7.mono sB')
                  have HN2 := Lib.hid (show bq = decide (K ∈ o.take (k + 1)) by rw [HNX.out, Bool.false_or])
                  clear hb7 HNX HBQ
                  go_wp2
                  go_roundw
                  case rel => exact ⟨k + 1, bq, by omega, by go_num, rfl, HN2, h67⟩
                  case measure => simp [intOf]; omega
                · have HN2 := Lib.hid (show true = decide (K ∈ o.take (k + 1)) by rw [HNX.out, Bool.true_or])
                  clear HNX HBQ
                  go_wp2
                  go_roundw
                  case rel => exact ⟨k + 1, true, by omega, by go_num, rfl, HN2, h6B⟩
                  case measure => simp [intOf]; omega
              · obtain rfl : k = o.length := by omega
                have hKI : ¬ (o.length : Int) < (o.length : Int) := by omega
                have HKO := Lib.hid (show kn = decide (K ∈ o) by rw [HKN.out, List.take_length])
                have hde : Below wd.heap.size wd we := hd6.trans (hbe.mono hd6.size)
                have hxBe := oldc hbe (by omega) hxB6
                have HFBe := Lib.hid (show ∀ o, we.frozen? ⟨w.heap.size, o, none⟩ = false from fun o => (hbe.frozen (p := ⟨w.heap.size, o, none⟩) (by show w.heap.size < _; omega)).trans (HFB6.out o))
                clear HKN HG6 hxB6 HFB6 hxB HFB
                cases kn
                · have HE2 := Lib.hid (show aAdd o (x, q) = o ++ [K] by rw [HE.out, if_neg (of_decide_eq_false HKO.out.symm)])
                  rw [HE2.out] at HOS
                  have hBo : some w.heap.size ≠ (Value.slice ea o.length ecap).ownBlock := fun e => by have := (HS.out _).1 (HG.out.lt e.symm).2; omega
                  have hfe := HFBe.out
                  obtain ⟨wf, hwf⟩ : ∃ W : World, W = we.alloc (.cells #[.slice ya yn ycap, .slice za zn zcap] 30) := ⟨_, rfl⟩
                  have hef : Below we.heap.size we wf := by rw [hwf]; exact (Below.refl _ _).alloc (Nat.le_refl _) _
                  have sf : wf.heap.size = we.heap.size + 1 := by rw [hwf]; simp
                  have HYf := Lib.hid ((HY6.out.below hbe).below hef)
                  have hdf : Below wd.heap.size wd wf := hde.trans (hef.mono hde.size)
                  have hc2 := cells_new2 we (.slice ya yn ycap) (.slice za zn zcap) 30
                  rw [← hwf] at hc2
                  have HC2 := Lib.hid hc2
                  have HWF := Lib.hid hwf
                  clear hwf hc2
                  go_wp2_with (at_builtin; rw [← HWF.out]; refine wpList_push_x (w0 := wd) (w := wf) rfl rfl slClasses (by show (0 : Nat) < 2; omega) rfl (ad := ⟨we.heap.size, 0, none⟩) rfl (cs := [.slice ya yn ycap, .slice za zn zcap]) (y := K) (lx := w4.heap.size) (hx' := w5.heap.size) HC2.out HG.out (by omega) (fun b h1 _ => hdf.block b h1) HYf.out (fun b h1 _ => (HS.out b).2 (by omega)) ((HS.out _).2 (by omega)) (by unfold maxLen; omega) (by omega) ?_)
                  intro v8 w8 hG8 hgb8 hv8
                  obtain ⟨a8, cap8, hv, -, -⟩ := hG8.len
                  rw [show (o ++ [K]).length = o.length + 1 by simp] at hv
                  subst hv
                  have s8 := hgb8.size
                  have x8 : w8.cell? ⟨w.heap.size, 0, none⟩ = _ := (World.cell?_of_block (w := wf) (a := ⟨w.heap.size, 0, none⟩) (hgb8.block w.heap.size (by omega) hBo)).trans (oldc hef (by omega) hxBe)
                  have f8 : ∀ o, w8.frozen? ⟨w.heap.size, o, none⟩ = false := fun o2 => (World.frozen?_of_block (w := wf) (a := ⟨w.heap.size, o2, none⟩) (hgb8.block w.heap.size (by omega) hBo)).trans ((hef.frozen (p := ⟨w.heap.size, o2, none⟩) (by show w.heap.size < _; omega)).trans (HFBe.out o2))
                  obtain ⟨w9, hw9⟩ : ∃ W : World, W = w8.setCell ⟨w.heap.size, 0, none⟩ (.slice a8 (o.length + 1) cap8) := ⟨_, rfl⟩
                  have h9 : ∀ b, b ≠ w.heap.size → w9.heap[b]? = w8.heap[b]? := fun b hb => by rw [hw9, Below.heap_setCell _ _ _ b hb]
                  have s9 : w9.heap.size = w8.heap.size := by rw [hw9]; simp
                  have h89 : ∀ b, b < wd.heap.size → some b ≠ (Value.slice ea o.length ecap).ownBlock → b ≠ w.heap.size → w9.heap[b]? = wd.heap[b]? := fun b hb1 hb2 hb3 => (h9 b hb3).trans ((hgb8.block b (by omega) hb2).trans (hdf.block b hb1))
                  have HZ1' := Lib.hid (show Zone (w.heap.size + 1) w1.heap.size w1 w9 from fun b h1 h2 => (h89 b (by omega) (fun e => by have := (HS.out _).1 (HG.out.lt e.symm).2; omega) (by omega)).trans (HZ1.out b h1 h2))
                  have HZ2' := Lib.hid (show Zone wb.heap.size w2.heap.size w2 w9 from fun b h1 h2 => (h89 b (by omega) (fun e => by have := HOB.out b e.symm; omega) (by omega)).trans (HZ2.out b h1 h2))
                  have HG9 := Lib.hid (hG8.keep (w' := w9) fun b h1 h2 => h9 b (by have := (HS.out b).1 h2; omega))
                  have HOB' := Lib.hid (show ∀ g, (Value.slice a8 (o.length + 1) cap8).ownBlock = some g → g < wb.heap.size ∨ w2.heap.size ≤ g from fun g hg => by
                    rcases hv8 with h | h
                    · exact HOB.out g (h ▸ hg)
                    · rw [h] at hg; simp at hg; omega)
                  have hB9 : Below w.heap.size w w9 := by
                    have h1 : Below w.heap.size w wf := hBd.trans (hdf.mono (by omega))
                    have h2 : Below w.heap.size w w8 := h1.grown hgb8 (by omega) (fun k hk => by have := (HS.out k).1 (HG.out.lt hk).2; omega)
                    rw [hw9]; exact h2.setCell (p := ⟨w.heap.size, 0, none⟩) (Nat.le_refl _) _
                  have xB9 : w9.cell? ⟨w.heap.size, 0, none⟩ = some (.slice a8 (o.length + 1) cap8) := by
                    have := cell_setCell w8 w.heap.size 0 0 (.slice a8 (o.length + 1) cap8) _ x8
                    rw [hw9]; simpa using this
                  have HFB9 := Lib.hid (show ∀ o2, w9.frozen? ⟨w.heap.size, o2, none⟩ = false from fun o2 => by rw [hw9]; exact frozen_setCell w8 w.heap.size 0 o2 _ (f8 o2))
                  have HW9 := Lib.hid hw9
                  clear hG8 hgb8 hv8 hw9 h9 h89 HC2 HWF HG
                  go_wp2
                  rw [← HW9.out]
                  go_roundw
                  case rel => exact ⟨j + 1, o ++ [K], _, by omega, by go_num, HOS, HG9, HOB', HZ1', HZ2', hB9, by omega, xB9, HFB9⟩
                  case measure => simp [intOf]; omega
                · have HE2 := Lib.hid (show aAdd o (x, q) = o by rw [HE.out, if_pos (of_decide_eq_true HKO.out.symm)])
                  rw [HE2.out] at HOS
                  have HZ1' := Lib.hid (show Zone (w.heap.size + 1) w1.heap.size w1 we from fun b h1 h2 => (hde.block b (by omega)).trans (HZ1.out b h1 h2))
                  have HZ2' := Lib.hid (show Zone wb.heap.size w2.heap.size w2 we from fun b h1 h2 => (hde.block b (by omega)).trans (HZ2.out b h1 h2))
                  have HGe := Lib.hid (HG.out.below hde)
                  have sde := hde.size
                  clear HG HZ1 HZ2
                  go_wp2
                  go_roundw
                  case rel => exact ⟨j + 1, o, _, by omega, by go_num, HOS, HGe, HOB, HZ1', HZ2', hBd.trans (hde.mono (by omega)), by omega, hxBe, HFBe⟩
                  case measure => simp [intOf]; omega
        · obtain rfl : j = P.length := by omega
          have hJ : ¬ (P.length : Int) < (P.length : Int) := by omega
          have HOE := Lib.hid (show aOut P o (P.drop (i + 1)) = F by
            have h := HO.out
            rw [List.drop_length] at h; exact h)
          clear HO HZ2 HOB
          go_wp2
          go_roundw
          case rel => exact ⟨i + 1, o, _, by omega, by go_num, HOE, HG, HZ1, hBd, by omega, hxB, HFB⟩
          case measure => simp [intOf]; omega
    · obtain rfl : i = P.length := by omega
      have hI : ¬ (P.length : Int) < (P.length : Int) := by omega
      obtain rfl : o = F := by
        have h := HO.out
        rw [List.drop_length] at h; exact h
      have hBo : some w.heap.size ≠ (Value.slice ea o.length ecap).ownBlock := fun e => by have := (HS.out _).1 (HG.out.lt e.symm).2; omega
      have hge : ∀ b ∈ (Value.slice ea o.length ecap).ownBlock.toList, w.heap.size ≤ b := fun b hb => by have := (HS.out b).1 (HG.out.lt (Option.mem_toList.1 hb)).2; omega
      have HOW := Lib.hid (HG.out.ow (lo := w.heap.size) (hi := wb.heap.size) fun b h1 h2 => ⟨by have := (HS.out b).1 h2; omega, h1⟩)
      clear HO HG HZ
      go_wp2_with (go_at_call 42; refine (sortA_any _ w.heap.size _ o hxB (by omega) hBo HOW.out hFl).mono ?_)
      rintro e w4 ⟨rfl, l, hl1, hl2, how, hoff⟩
      obtain rfl : l = X := by rw [HXE.out]; exact sorted_all HN.out (by rw [← HFE.out]; exact hl1) hl2
      have hx4 : w4.cell? ⟨w.heap.size, 0, none⟩ = _ := (World.cell?_of_block (w := wb) (a := ⟨w.heap.size, 0, none⟩) (hoff.block w.heap.size (by omega) (fun h => hBo (Option.mem_toList.1 h).symm))).trans hxB
      have hB4 : Below w.heap.size w w4 := hBb.trans (hoff.toBelow (by omega) fun b hb => hge b hb)
      have HO4 := Lib.hid how.top
      clear how hoff hl1 hl2
      go_wp2
      go_ret
      exact ⟨_, rfl, HO4.out, hB4⟩
theorem areg_cnt (n : Int) : lenBy cntCls (if 1 ≤ n ∧ n ≤ 4 then sAll n.toNat else []) ≤ 100 := by
  split
  · rename_i h
    have : n = 1 ∨ n = 2 ∨ n = 3 ∨ n = 4 := by omega
    rcases this with rfl | rfl | rfl | rfl <;> decide +kernel
  · simp [lenBy]
end Go.Proofs.Ytlnhhfebmeekhaa
