/- Texts laid one behind the other (merge.py): Fmt, FmtI, FmtS, Frm, FrmW. -/
import Derived.Test.YtcbhdmmohdnjbaaGreatRulM
import Derived.Test.YtcbhdmmohdnjbaaGreatTrmC
import Derived.Test.YtcbhdmmohdnjbaaGreatEnt
namespace Go.Proofs.YtcbhdmmohdnjbaaGreat
set_option linter.unusedVariables false
set_option linter.unusedSimpArgs false
open Go.RowKit
set_option maxHeartbeats 100000000
section
def ltrs : ByteArray := ⟨#[70, 77, 66, 90, 83, 68, 72, 87]⟩
def aTxt (a : Int) : ByteArray := if a = 1 then ⟨#[101]⟩ else if a = 2 then ⟨#[121]⟩ else ⟨#[]⟩
def kTxt (k : Int) : ByteArray := ltrs.extract (k - 1).toNat k.toNat
def stTxt (s : Stp) : ByteArray := aTxt s.2 ++ kTxt s.1
def stepsT (l : List Stp) : ByteArray := l.foldl (fun o s => o ++ stTxt s) ⟨#[]⟩
def egoTxt (e : Int) : ByteArray := if e = 1 then ⟨#[109, 58]⟩ else if e = 2 then ⟨#[119, 58]⟩ else ⟨#[]⟩
def dotT (s : ByteArray) : ByteArray := if s = ⟨#[]⟩ then ⟨#[46]⟩ else s
def kinTxt (t : Kin) : ByteArray := if isKin t = true then egoTxt t.1 ++ dotT (stepsT t.2) else ⟨#[]⟩
theorem kTxt_at {k : Int} (h : 1 ≤ k ∧ k ≤ 8) : (⟨#[70, 77, 66, 90, 83, 68, 72, 87]⟩ : ByteArray).extract (k.toNat - 1) k.toNat = kTxt k ∧ (kTxt k).size = 1 := by
 have hk : k = 1 ∨ k = 2 ∨ k = 3 ∨ k = 4 ∨ k = 5 ∨ k = 6 ∨ k = 7 ∨ k = 8 := by omega
 rcases hk with rfl | rfl | rfl | rfl | rfl | rfl | rfl | rfl <;> exact ⟨rfl, rfl⟩
theorem aTxt_size (a : Int) : (aTxt a).size ≤ 1 := by
 unfold aTxt
 split
 ·exact Nat.le_refl _
 ·split
  ·exact Nat.le_refl _
  ·exact Nat.zero_le _
theorem stepsT_snoc (l : List Stp) (s : Stp) : stepsT (l ++ [s]) = stepsT l ++ stTxt s := by
 unfold stepsT; rw [List.foldl_append]; rfl
theorem stTxt_size {s : Stp} (h : 1 ≤ s.1 ∧ s.1 ≤ 8) : (stTxt s).size ≤ 2 := by
 have h2 := (kTxt_at h).2
 have h3 := aTxt_size s.2
 unfold stTxt
 rw [ByteArray.size_append, h2]
 omega
theorem foldT_size : ∀ (l : List Stp) (o : ByteArray), SOk l → (l.foldl (fun o s => o ++ stTxt s) o).size ≤ o.size + 2 * l.length
 | [], o, _ => Nat.le_refl _
 | s :: l, o, h => by
   have h1 := foldT_size l (o ++ stTxt s) h.cons
   have h2 := stTxt_size (h s spT).1
   rw [ByteArray.size_append] at h1
   simp only [List.foldl_cons, List.length_cons]
   omega
theorem stepsT_size (l : List Stp) (h : SOk l) : (stepsT l).size ≤ 2 * l.length := by
 have := foldT_size l ⟨#[]⟩ h
 have h0 : (⟨#[]⟩ : ByteArray).size = 0 := rfl
 unfold stepsT
 omega
theorem egoTxt_size (e : Int) : (egoTxt e).size ≤ 2 := by
 unfold egoTxt
 split
 ·exact Nat.le_refl _
 ·split
  ·exact Nat.le_refl _
  ·exact Nat.zero_le _
theorem dotT_size (s : ByteArray) : (dotT s).size ≤ s.size + 1 := by
 unfold dotT
 split
 ·exact Nat.le_add_left 1 _
 ·exact Nat.le_succ _
theorem ne_text {s : ByteArray} (h : ¬ s = ⟨#[]⟩) : s.toList.isEmpty = false := by
 cases e : s.toList with
 | nil => exact absurd (by rw [ByteArray.toList_eq] at e; exact ByteArray.ext (by simpa using e)) h
 | cons a l => rfl
end
section
end
section
theorem prefixS_any (w : World) (e : Int) (he : 0 ≤ e ∧ e ≤ 2) (X : ByteArray) (hX : X = egoTxt e) : Calls Tryz.prog 181 #[.int .i64 e] w (PostV w (.string X)) := by
 rcases (show e = 0 ∨ e = 1 ∨ e = 2 by omega) with rfl | rfl | rfl <;> subst hX
 ·go_enter Tryz.func181, Tryz.ntmps181
  go_wp2
  go_ret
  exact ⟨rfl, bwT⟩
 ·go_enter Tryz.func181, Tryz.ntmps181
  go_wp2
  go_ret
  exact ⟨rfl, bwT⟩
 ·go_enter Tryz.func181, Tryz.ntmps181
  go_wp2
  go_ret
  exact ⟨rfl, bwT⟩
theorem lettersS_any (w : World) : Calls Tryz.prog 180 #[] w (PostV w (.string ⟨#[70, 77, 66, 90, 83, 68, 72, 87]⟩)) := by
 go_enter Tryz.func180, Tryz.ntmps180
 go_wp2
 go_ret
 exact ⟨rfl, bwT⟩
set_option maxRecDepth 20000 in
theorem wordS_any {z : Bool} {lo hi : Nat} (w : World) (v : Value) (l : List Stp) (h : Rd z lo hi w [v] l) (hl : l.length ≤ 8) (hk : SOk l) (D : ByteArray) (hD : D = dotT (stepsT l)) : Calls Tryz.prog 182 #[v] w (PostV w (.string D)) := by
 obtain ⟨ao, n, cap, rfl, hn, hnc, hcm, -⟩ := h.shape
 subst hn
 have HB := Hd h
 have HK := Hd hk
 have HD := Hd hD
 clear h hk hD
 go_enter Tryz.func182, Tryz.ntmps182
 go_wp2
 go_loopw [3, 5, 8] (fun s3 _ s8 wr => ∃ i : Nat, i ≤ l.length ∧ s8 = .int .i64 i ∧ s3 = .string (stepsT (l.take i)) ∧ Below w.heap.size w wr) (fun _ _ s8 _ => l.length - (intOf s8).toNat)
 case atStart => exact ⟨0, Nat.zero_le _, rfl, rfl, Below.refl _ _⟩
 case round =>
  obtain ⟨wb, hwb⟩ : ∃ wm : World, wm = wr := ⟨_, rfl⟩
  subst hwb
  obtain ⟨i, hi, rfl, rfl, hbb⟩ := hrel
  have sB := hbb.size
  obtain ⟨X, hX⟩ : ∃ X, X = stepsT (l.take i) := ⟨_, rfl⟩
  rw [← hX]
  have HX := Hd hX
  clear hX
  by_cases hi0 : i < l.length
  ·have hmi : (i : Int) < (l.length : Int) := by omega
   obtain ⟨sb, soff, ki, ag, rfl, hx, c0, c1, -, -, -, -, sbl, -⟩ := HB.out.stp_at (i := i) hi0
   have hka := HK.out _ (List.mem_of_getElem? hx.out)
   dsimp only at hka
   have k0 := oldc hbb sbl c0
   have k1 := oldc hbb sbl c1
   have HX2 := Hd (show X ++ (aTxt ag ++ kTxt ki) = stepsT (l.take (i + 1)) by rw [HX.out, take_snoc hx.out, stepsT, stepsT, List.foldl_append]; rfl)
   have hw : IntKind.i64.wrap (ki - 1) = ki - 1 := IntWalk.i64_in _ omT
   have h0 : (0 : Int) ≤ ki := by omega
   have h1 : (0 : Int) ≤ ki - 1 := by omega
   have h2 : ki - 1 ≤ ki := by omega
   have h3 : ki ≤ 8 := hka.1.2
   obtain ⟨K, hK⟩ : ∃ K, K = kTxt ki := ⟨_, rfl⟩
   obtain ⟨hkT, hKs⟩ := kTxt_at hka.1
   rw [← hK] at hkT hKs HX2
   have hXs : X.size ≤ 16 := by
    have := stepsT_size (l.take i) (fun x hx => HK.out x (List.mem_of_mem_take hx))
    rw [← HX.out, List.length_take] at this; omega
   have hX1 : ¬ 9223372036854775807 < X.size + 1 := by omega
   have hX2 : ¬ 9223372036854775807 < X.size + 1 + 1 := by omega
   clear hK
   rcases (show ag = 0 ∨ ag = 1 ∨ ag = 2 by omega) with rfl | rfl | rfl
   ·go_upto_region 9 with fail
    refine wp_region_held_drew (S := (fun w' => w'.cell? ⟨wb.heap.size, 0, none⟩ = some (.int .i64 ki))) krT ?_ (fun hHeld => ?_)
    ·exact kpT
    refine tkA 0 ?_
    try simp only [cD]
    refine tkA 2 ?_
    try simp only [cD]
    refine tkA 5 ?_
    try simp only [cD]
    refine tkA 3 ?_
    try simp only [cD]
    refine tkA 6 ?_
    try simp only [cD]
    refine tkA 4 ?_
    try simp only [cD]
    refine rd1 1 fun K hK => ?_
    go_simp
    refine (lettersS_any _).mono ?_
    rintro e2 w2 ⟨rfl, hb2⟩
    have hp2 : Below wb.heap.size wb w2 := Below.trans (show Below wb.heap.size wb _ from bwT) (hb2.mono szT)
    have hS2 : w2.cell? ⟨wb.heap.size, 0, none⟩ = some (.int .i64 ki) := oldc hb2 ltT sgT
    clear hb2
    refine hK.out _ _ kpT fun hHeld => ?_
    clear hK K
    try simp only [cD]
    refine tkA 7 ?_
    try simp only [cD]
    refine tkA 8 ?_
    try simp only [cD]
    refine tkA 9 ?_
    try simp only [cD]
    refine wdT ?_
    have HX3 := Hd (show X ++ K = stepsT (l.take (i + 1)) by rw [← HX2.out]; rw [show aTxt 0 = ⟨#[]⟩ from rfl, show (⟨#[]⟩ : ByteArray) ++ K = K from ByteArray.empty_append])
    rw [HX3.out]
    go_wp2
    go_roundw
    case rel => exact ⟨i + 1, by omega, by go_num, rfl, hbb.trans (hp2.mono sB)⟩
    case measure => simp [intOf]; omega
   ·go_upto_region 9 with fail
    refine wp_region_held_drew (S := (fun w' => w'.cell? ⟨wb.heap.size, 0, none⟩ = some (.int .i64 ki))) krT ?_ (fun hHeld => ?_)
    ·exact kpT
    refine tkA 0 ?_
    try simp only [cD]
    refine tkA 2 ?_
    try simp only [cD]
    refine tkA 5 ?_
    try simp only [cD]
    refine tkA 3 ?_
    try simp only [cD]
    refine tkA 6 ?_
    try simp only [cD]
    refine tkA 4 ?_
    try simp only [cD]
    refine rd1 1 fun K hK => ?_
    go_simp
    refine (lettersS_any _).mono ?_
    rintro e2 w2 ⟨rfl, hb2⟩
    have hp2 : Below wb.heap.size wb w2 := Below.trans (show Below wb.heap.size wb _ from bwT) (hb2.mono szT)
    have hS2 : w2.cell? ⟨wb.heap.size, 0, none⟩ = some (.int .i64 ki) := oldc hb2 ltT sgT
    clear hb2
    refine hK.out _ _ kpT fun hHeld => ?_
    clear hK K
    try simp only [cD]
    refine tkA 7 ?_
    try simp only [cD]
    refine tkA 8 ?_
    try simp only [cD]
    refine tkA 9 ?_
    try simp only [cD]
    refine wdT ?_
    have HX3 := Hd (show X ++ ⟨#[101]⟩ ++ K = stepsT (l.take (i + 1)) by rw [ByteArray.append_assoc]; exact HX2.out)
    rw [HX3.out]
    go_wp2
    go_roundw
    case rel => exact ⟨i + 1, by omega, by go_num, rfl, hbb.trans (hp2.mono sB)⟩
    case measure => simp [intOf]; omega
   ·go_upto_region 9 with fail
    refine wp_region_held_drew (S := (fun w' => w'.cell? ⟨wb.heap.size, 0, none⟩ = some (.int .i64 ki))) krT ?_ (fun hHeld => ?_)
    ·exact kpT
    refine tkA 0 ?_
    try simp only [cD]
    refine tkA 2 ?_
    try simp only [cD]
    refine tkA 5 ?_
    try simp only [cD]
    refine tkA 3 ?_
    try simp only [cD]
    refine tkA 6 ?_
    try simp only [cD]
    refine tkA 4 ?_
    try simp only [cD]
    refine rd1 1 fun K hK => ?_
    go_simp
    refine (lettersS_any _).mono ?_
    rintro e2 w2 ⟨rfl, hb2⟩
    have hp2 : Below wb.heap.size wb w2 := Below.trans (show Below wb.heap.size wb _ from bwT) (hb2.mono szT)
    have hS2 : w2.cell? ⟨wb.heap.size, 0, none⟩ = some (.int .i64 ki) := oldc hb2 ltT sgT
    clear hb2
    refine hK.out _ _ kpT fun hHeld => ?_
    clear hK K
    try simp only [cD]
    refine tkA 7 ?_
    try simp only [cD]
    refine tkA 8 ?_
    try simp only [cD]
    refine tkA 9 ?_
    try simp only [cD]
    refine wdT ?_
    have HX3 := Hd (show X ++ ⟨#[121]⟩ ++ K = stepsT (l.take (i + 1)) by rw [ByteArray.append_assoc]; exact HX2.out)
    rw [HX3.out]
    go_wp2
    go_roundw
    case rel => exact ⟨i + 1, by omega, by go_num, rfl, hbb.trans (hp2.mono sB)⟩
    case measure => simp [intOf]; omega
  ·obtain rfl : i = l.length := by omega
   have nI : ¬ (l.length : Int) < (l.length : Int) := by omega
   rw [List.take_length] at HX
   by_cases he : X = ⟨#[]⟩
   ·have HF := Hd (show D = ⟨#[46]⟩ by rw [HD.out, ← HX.out, dotT, if_pos he])
    subst he
    go_wp2
    go_ret
    exact ⟨by rw [HF.out]; rfl, hbb⟩
   ·have HF := Hd (show D = X by rw [HD.out, ← HX.out, dotT, if_neg he])
    have h2 := ne_text he
    clear he
    go_wp2
    go_ret
    exact ⟨by rw [HF.out]; rfl, hbb⟩
set_option maxRecDepth 20000 in
theorem formatS_any {z : Bool} {lo hi : Nat} (w : World) (a b : Value) (t : Kin) (h : Rd z lo hi w [a, b] t) : Calls Tryz.prog 176 #[.agg #[a, b]] w (PostV w (.string (kinTxt t))) := by
 obtain ⟨R, hR⟩ : ∃ R, R = kinTxt t := ⟨_, rfl⟩
 rw [← hR]
 have HR := Hd (show R = if isKin t = true then egoTxt t.1 ++ dotT (stepsT t.2) else ⟨#[]⟩ from hR)
 clear hR
 have HT := Hd h
 obtain ⟨rfl, -, hb⟩ := h.kin
 obtain ⟨sao, sn, scap, rfl, hsn, -⟩ := hb.shape
 subst hsn
 have HB := Hd hb
 obtain ⟨r1, hlet_r1⟩ : ∃ r, r = isKin t := ⟨_, rfl⟩
 have H1 := Hd hlet_r1
 clear hlet_r1
 clear h hb
 go_enter Tryz.func176, Tryz.ntmps176
 go_wp2_with fail
 refine (isTypeS_b _ _ _ t (HT.out.below bwT) r1 H1.out).mono ?_
 rintro e2 w2 ⟨rfl, hbw2⟩
 have hpw2 : Below w.heap.size w w2 := Below.after bwT hbw2 szT
 have sw2 := hpw2.size
 have hBw2 : Below w.heap.size w w2 := hpw2
 have l_t : w.heap.size < w2.heap.size := by have := hbw2.size; simp at this; omega
 have q_t0 : w2.cell? ⟨w.heap.size, 0, none⟩ = some (.int .i64 t.1) := oldc hbw2 ltT sgT
 have q_t1 : w2.cell? ⟨w.heap.size, 1, none⟩ = some (.slice sao t.2.length scap) := oldc hbw2 ltT sgT
 clear hbw2 hpw2
 cases r1
 ·obtain rfl : R = ⟨#[]⟩ := by rw [HR.out, if_neg (by rw [← H1.out]; decide)]
  clear HR H1 HT HB
  go_wp2
  go_ret
  exact ⟨rfl, hBw2⟩
 have hk := isKin_facts H1.out.symm
 have hk1 := hk.1
 have hk2 := hk.2.1
 have HK := Hd hk.2.2.2
 obtain ⟨E, hE⟩ : ∃ E, E = egoTxt t.1 := ⟨_, rfl⟩
 obtain ⟨S, hS⟩ : ∃ S, S = stepsT t.2 := ⟨_, rfl⟩
 obtain ⟨D, hD⟩ : ∃ D, D = dotT S := ⟨_, rfl⟩
 have HRE := Hd (show R = E ++ D by rw [HR.out, if_pos H1.out.symm, hE, hD, hS])
 have hs1 : E.size ≤ 2 := by rw [hE]; exact egoTxt_size _
 have hs2 : D.size ≤ 17 := by
  have h2 := dotT_size (stepsT t.2)
  have h3 := stepsT_size t.2 HK.out
  rw [hD, hS]; omega
 have hcc : ¬ 9223372036854775807 < E.size + D.size := by omega
 have HE := Hd hE
 have HS := Hd hS
 have HD := Hd hD
 obtain ⟨W1, hW1⟩ : ∃ W : World, W = w2 := ⟨_, rfl⟩
 subst hW1
 have hB1 : Below w.heap.size w W1 := hBw2
 have l1 : w.heap.size < W1.heap.size := l_t
 clear hk hE hS hD HR H1
 go_upto_region 3 with fail
 refine wp_region_held_drew (S := (fun w' => w'.cell? ⟨w.heap.size, 0, none⟩ = some (.int .i64 t.1) ∧ w'.cell? ⟨w.heap.size, 1, none⟩ = some (.slice sao t.2.length scap))) krT ?_ (fun hHeld => ?_)
 ·exact kpT
 refine tkA 0 ?_
 try simp only [cD]
 refine tkA 3 ?_
 try simp only [cD]
 refine tkA 1 ?_
 try simp only [cD]
 refine tkA 4 ?_
 try simp only [cD]
 refine rd1 2 fun K hK => ?_
 go_simp
 refine (prefixS_any _ t.1 hk1 E HE.out).mono ?_
 rintro e2 w2 ⟨rfl, hb2⟩
 have hp2 : Below W1.heap.size W1 w2 := Below.trans (show Below W1.heap.size W1 _ from bwT) (hb2.mono szT)
 have sz2 := hp2.size
 have hS2 := aI (oldc hp2 l1 q_t0) (oldc hp2 l1 q_t1)
 clear hb2
 refine hK.out _ _ kpT fun hHeld => ?_
 clear hK K
 try simp only [cD]
 refine rd1 5 fun K hK => ?_
 go_simp
 refine (wordS_any _ _ t.2 (HB.out.below ?b1) hk2 HK.out D (by rw [HD.out, HS.out])).mono ?_
 case b1 => exact Below.trans hB1 (Below.mono bwT hB1.size)
 rintro e3 w3 ⟨rfl, hb3⟩
 have hp3 : Below W1.heap.size W1 w3 := Below.trans (show Below W1.heap.size W1 _ from bwT) (hb3.mono szT)
 have sz3 := hp3.size
 have hS3 := aI (oldc hp3 l1 q_t0) (oldc hp3 l1 q_t1)
 clear hb3
 refine hK.out _ _ kpT fun hHeld => ?_
 clear hK K
 try simp only [cD]
 refine tkA 6 ?_
 try simp only [cD]
 refine tkA 7 ?_
 try simp only [cD]
 refine wdT ?_
 rw [← HRE.out]
 go_wp2
 go_ret
 exact ⟨rfl, hB1.trans (Below.mono bwT hB1.size)⟩
end
section
def ruleT1 (r : Rul) : ByteArray := r.1 ++ ⟨#[58, 32]⟩ ++ egoTxt r.2.1
def ruleT2 (r : Rul) : ByteArray := if r.2.2.1 = 1 then ruleT1 r ++ ⟨#[94]⟩ else ruleT1 r
def ruleT3 (r : Rul) : ByteArray := ruleT2 r ++ stepsT r.2.2.2.1
def ruleT4 (r : Rul) : ByteArray := if r.2.2.1 = 2 then ruleT3 r ++ ⟨#[36]⟩ else ruleT3 r
def ruleTxt (r : Rul) : ByteArray := if isRule r = true then ruleT4 r ++ ⟨#[32, 45, 62, 32]⟩ ++ dotT (stepsT r.2.2.2.2) else ⟨#[]⟩
def ruleLn (r : Rul) : ByteArray := (⟨#[114, 117, 108, 101, 32]⟩ : ByteArray) ++ ruleTxt r ++ ⟨#[10]⟩
def entLn (e : Ent) : ByteArray := (⟨#[116, 101, 114, 109, 32]⟩ : ByteArray) ++ kinTxt e.1 ++ ⟨#[32]⟩ ++ e.2 ++ ⟨#[10]⟩
def rulesT (rs : List Rul) (o : ByteArray) : ByteArray := rs.foldl (fun o r => o ++ ruleLn r) o
def entsT (es : List Ent) (o : ByteArray) : ByteArray := es.foldl (fun o e => o ++ entLn e) o
def trmTxt (y : Trm) : ByteArray := if isTerm y = true then entsT y.2 (rulesT y.1 ⟨#[]⟩) else ⟨#[]⟩
theorem name_size {s : ByteArray} (h : nameOk s = true) : s.size ≤ 12 := by
 unfold nameOk at h
 simp only [Bool.and_eq_true, decide_eq_true_eq] at h
 have := h.1
 omega
theorem ruleTo_size {r : Rul} (h : isRule r = true) : (dotT (stepsT r.2.2.2.2)).size ≤ 9 := by
 have h1 := stepsT_size _ (rule_steps h).2.1
 have h2 := (rule_steps h).2.2
 have h3 := dotT_size (stepsT r.2.2.2.2)
 omega
theorem stepsT_ne {l : List Stp} (h : l ≠ []) (hk : SOk l) : ¬ stepsT l = ⟨#[]⟩ := by
 obtain ⟨a, s, rfl⟩ : ∃ a s, l = a ++ [s] := ⟨l.dropLast, l.getLast h, (List.dropLast_concat_getLast h).symm⟩
 intro e
 have h1 := congrArg ByteArray.size e
 rw [stepsT_snoc, ByteArray.size_append, stTxt, ByteArray.size_append, (kTxt_at (hk s spT).1).2] at h1
 have h2 : (⟨#[]⟩ : ByteArray).size = 0 := rfl
 omega
theorem dot_steps {l : List Stp} (h : 1 ≤ l.length) (hk : SOk l) : dotT (stepsT l) = stepsT l := by
 unfold dotT
 rw [if_neg (stepsT_ne (by intro e; rw [e] at h; simp at h) hk)]
end
section
set_option maxRecDepth 20000 in
theorem formatRuleS_any {z : Bool} {lo hi : Nat} (w : World) (u0 u1 u2 u3 u4 : Value) (r : Rul) (h : Rd z lo hi w [u0, u1, u2, u3, u4] r) (R : ByteArray) (hR : R = ruleTxt r) : Calls Tryz.prog 184 #[.agg #[u0, u1, u2, u3, u4]] w (PostV w (.string R)) := by
 have HRR := Hd h
 obtain ⟨nm, sx, pl, fr, tw⟩ := r
 obtain ⟨vfr, vtw, e1, gnm, gsx, gpl, hfr, htw⟩ := Rd.dRul h
 simp only [List.cons.injEq, and_true] at e1
 obtain ⟨rfl, rfl, rfl, rfl, rfl⟩ := e1
 obtain ⟨fao, fn, fcap, rfl, -⟩ := hfr.shape
 obtain ⟨tao, tn, tcap, rfl, -⟩ := htw.shape
 have HF := Hd hfr
 have HW := Hd htw
 obtain ⟨r1, hlet_r1⟩ : ∃ r, r = isRule (nm, sx, pl, fr, tw) := ⟨_, rfl⟩
 have H1 := Hd hlet_r1
 clear hlet_r1
 have HR := Hd (show R = if r1 = true then ruleT4 (nm, sx, pl, fr, tw) ++ ⟨#[32, 45, 62, 32]⟩ ++ dotT (stepsT tw) else ⟨#[]⟩ by rw [hR, H1.out]; rfl)
 clear h hfr htw gnm gsx gpl hR
 go_enter Tryz.func184, Tryz.ntmps184
 go_wp2_with fail
 refine (isRuleS_b _ _ _ _ _ _ (nm, sx, pl, fr, tw) (HRR.out.below bwT) r1 H1.out).mono ?_
 rintro e5 w5 ⟨rfl, hbw5⟩
 have hpw5 : Below w.heap.size w w5 := Below.after bwT hbw5 szT
 have sw5 := hpw5.size
 have hBw5 : Below w.heap.size w w5 := hpw5
 have l_r : w.heap.size < w5.heap.size := by have := hbw5.size; simp at this; omega
 have q_r0 : w5.cell? ⟨w.heap.size, 0, none⟩ = some (.string nm) := oldc hbw5 ltT sgT
 have q_r1 : w5.cell? ⟨w.heap.size, 1, none⟩ = some (.int .i64 sx) := oldc hbw5 ltT sgT
 have q_r2 : w5.cell? ⟨w.heap.size, 2, none⟩ = some (.int .i64 pl) := oldc hbw5 ltT sgT
 have q_r3 : w5.cell? ⟨w.heap.size, 3, none⟩ = some (.slice fao fn fcap) := oldc hbw5 ltT sgT
 have q_r4 : w5.cell? ⟨w.heap.size, 4, none⟩ = some (.slice tao tn tcap) := oldc hbw5 ltT sgT
 clear hbw5 hpw5
 cases r1
 ·obtain rfl : R = ⟨#[]⟩ := HR.out
  clear HR H1 HRR HF HW
  go_wp2
  go_ret
  exact ⟨rfl, hBw5⟩
 have hru := isRule_facts H1.out.symm
 have hst := rule_steps H1.out.symm
 have hsx : 0 ≤ sx ∧ sx ≤ 2 := hru.2.1
 have hpl : pl = 0 ∨ pl = 1 ∨ pl = 2 := by have := hru.2.2.1; dsimp only at this; omega
 have hfl : 1 ≤ fr.length ∧ fr.length ≤ 4 := hru.2.2.2.1
 have htl : tw.length ≤ 4 := hst.2.2
 have HK1 := Hd (show SOk fr from hst.1)
 have HK2 := Hd (show SOk tw from hst.2.1)
 have hnm : nm.size ≤ 12 := name_size hru.1
 obtain ⟨E, hE⟩ : ∃ E, E = egoTxt sx := ⟨_, rfl⟩
 obtain ⟨S, hS⟩ : ∃ S, S = stepsT fr := ⟨_, rfl⟩
 obtain ⟨T, hT⟩ : ∃ T, T = stepsT tw := ⟨_, rfl⟩
 obtain ⟨D, hD⟩ : ∃ D, D = dotT T := ⟨_, rfl⟩
 have hEs : E.size ≤ 2 := by rw [hE]; exact egoTxt_size _
 have hSs : S.size ≤ 8 := by have := stepsT_size fr HK1.out; rw [hS]; omega
 have hDs : D.size ≤ 9 := by have := ruleTo_size H1.out.symm; rw [hD, hT]; exact this
 have HE := Hd hE
 have HS := Hd hS
 have HT := Hd hT
 have HD := Hd hD
 have HR2 := Hd (show R = (if pl = 2 then ((if pl = 1 then nm ++ ⟨#[58, 32]⟩ ++ E ++ ⟨#[94]⟩ else nm ++ ⟨#[58, 32]⟩ ++ E) ++ S) ++ ⟨#[36]⟩ else ((if pl = 1 then nm ++ ⟨#[58, 32]⟩ ++ E ++ ⟨#[94]⟩ else nm ++ ⟨#[58, 32]⟩ ++ E) ++ S)) ++ ⟨#[32, 45, 62, 32]⟩ ++ D by rw [HR.out, if_pos rfl, hE, hS, hD, hT]; rfl)
 have c1 : ¬ 9223372036854775807 < nm.size + 2 := by omega
 have c2 : ¬ 9223372036854775807 < nm.size + 2 + E.size := by omega
 obtain ⟨W1, hW1⟩ : ∃ W : World, W = w5 := ⟨_, rfl⟩
 subst hW1
 have hB1 : Below w.heap.size w W1 := hBw5
 have s1 := hB1.size
 have l1 : w.heap.size < W1.heap.size := l_r
 clear hru hst hE hS hT hD HR H1
 go_upto_region 3 with fail
 refine wp_region_held_drew (S := (fun w' => w'.cell? ⟨w.heap.size, 0, none⟩ = some (.string nm) ∧ w'.cell? ⟨w.heap.size, 1, none⟩ = some (.int .i64 sx))) krT ?_ (fun hHeld => ?_)
 ·exact kpT
 refine tkA 0 ?_
 try simp only [cD]
 refine tkA 3 ?_
 try simp only [cD]
 refine tkA 1 ?_
 try simp only [cD]
 refine tkA 4 ?_
 try simp only [cD]
 refine tkA 2 ?_
 try simp only [cD]
 refine rd1 5 fun K hK => ?_
 go_simp
 refine (prefixS_any _ sx hsx E HE.out).mono ?_
 rintro e2 w2 ⟨rfl, hb2⟩
 have hp2 : Below W1.heap.size W1 w2 := Below.trans (show Below W1.heap.size W1 _ from bwT) (hb2.mono szT)
 have s2 := hp2.size
 have hS2 := aI (oldc hp2 l1 q_r0) (oldc hp2 l1 q_r1)
 clear hb2
 refine hK.out _ _ kpT fun hHeld => ?_
 clear hK K
 try simp only [cD]
 refine tkA 6 ?_
 try simp only [cD]
 refine tkA 7 ?_
 try simp only [cD]
 refine wdT ?_
 have q0 := oldc hp2 l1 q_r0
 have q2 := oldc hp2 l1 q_r2
 have q3 := oldc hp2 l1 q_r3
 have q4 := oldc hp2 l1 q_r4
 have l2 : w.heap.size < w2.heap.size := by omega
 have hB2 : Below w.heap.size w w2 := hB1.trans (hp2.mono s1)
 obtain ⟨X1, hX1⟩ : ∃ X, X = nm ++ ⟨#[58, 32]⟩ ++ E := ⟨_, rfl⟩
 have hX1s : X1.size ≤ 16 := by rw [hX1, ByteArray.size_append, ByteArray.size_append, show (⟨#[58, 32]⟩ : ByteArray).size = 2 from rfl]; omega
 rw [← hX1] at HR2 ⊢
 clear hX1 hHeld q_r0 q_r1 q_r2 q_r3 q_r4 hS2
 rcases hpl with rfl | rfl | rfl
 ·have HF2 := Hd (show X1 ++ S ++ ⟨#[32, 45, 62, 32]⟩ ++ D = R from HR2.out.symm)
  have d1 : ¬ 9223372036854775807 < X1.size + S.size := by omega
  have d1' : ¬ 9223372036854775807 < X1.size + 1 := by omega
  have d1b : ¬ 9223372036854775807 < X1.size + 1 + S.size := by omega
  have d2 : ¬ 9223372036854775807 < X1.size + S.size + 1 := by omega
  have d3 : ¬ 9223372036854775807 < X1.size + S.size + 4 := by omega
  have d3b : ¬ 9223372036854775807 < X1.size + 1 + S.size + 4 := by omega
  have d3c : ¬ 9223372036854775807 < X1.size + S.size + 1 + 4 := by omega
  have d4 : ¬ 9223372036854775807 < X1.size + S.size + 4 + D.size := by omega
  have d4b : ¬ 9223372036854775807 < X1.size + 1 + S.size + 4 + D.size := by omega
  have d4c : ¬ 9223372036854775807 < X1.size + S.size + 1 + 4 + D.size := by omega
  clear HR2
  go_wp2_with fail
  refine (wordS_any _ _ fr (HF.out.below hB2) omT HK1.out S (by rw [dot_steps hfl.1 HK1.out, HS.out])).mono ?_
  rintro e3 w3 ⟨rfl, hb3⟩
  have q0 := oldc hb3 l2 q0
  have q2 := oldc hb3 l2 q2
  have q4 := oldc hb3 l2 q4
  have l3 : w.heap.size < w3.heap.size := ltL l2 hb3.size
  have hB3 : Below w.heap.size w w3 := hB2.trans (hb3.mono hB2.size)
  clear hb3 q3
  go_wp2_with fail
  refine (wordS_any _ _ tw (HW.out.below hB3) omT HK2.out D (by rw [HD.out, HT.out])).mono ?_
  rintro e5 w5 ⟨rfl, hb5⟩
  have hB5 : Below w.heap.size w w5 := hB3.trans (hb5.mono hB3.size)
  clear hb5
  go_wp2
  go_ret
  exact ⟨by rw [← HF2.out]; rfl, hB5⟩
 ·have HF2 := Hd (show X1 ++ ⟨#[94]⟩ ++ S ++ ⟨#[32, 45, 62, 32]⟩ ++ D = R from HR2.out.symm)
  have d1 : ¬ 9223372036854775807 < X1.size + S.size := by omega
  have d1' : ¬ 9223372036854775807 < X1.size + 1 := by omega
  have d1b : ¬ 9223372036854775807 < X1.size + 1 + S.size := by omega
  have d2 : ¬ 9223372036854775807 < X1.size + S.size + 1 := by omega
  have d3 : ¬ 9223372036854775807 < X1.size + S.size + 4 := by omega
  have d3b : ¬ 9223372036854775807 < X1.size + 1 + S.size + 4 := by omega
  have d3c : ¬ 9223372036854775807 < X1.size + S.size + 1 + 4 := by omega
  have d4 : ¬ 9223372036854775807 < X1.size + S.size + 4 + D.size := by omega
  have d4b : ¬ 9223372036854775807 < X1.size + 1 + S.size + 4 + D.size := by omega
  have d4c : ¬ 9223372036854775807 < X1.size + S.size + 1 + 4 + D.size := by omega
  clear HR2
  go_wp2_with fail
  refine (wordS_any _ _ fr (HF.out.below hB2) omT HK1.out S (by rw [dot_steps hfl.1 HK1.out, HS.out])).mono ?_
  rintro e3 w3 ⟨rfl, hb3⟩
  have q0 := oldc hb3 l2 q0
  have q2 := oldc hb3 l2 q2
  have q4 := oldc hb3 l2 q4
  have l3 : w.heap.size < w3.heap.size := ltL l2 hb3.size
  have hB3 : Below w.heap.size w w3 := hB2.trans (hb3.mono hB2.size)
  clear hb3 q3
  go_wp2_with fail
  refine (wordS_any _ _ tw (HW.out.below hB3) omT HK2.out D (by rw [HD.out, HT.out])).mono ?_
  rintro e5 w5 ⟨rfl, hb5⟩
  have hB5 : Below w.heap.size w w5 := hB3.trans (hb5.mono hB3.size)
  clear hb5
  go_wp2
  go_ret
  exact ⟨by rw [← HF2.out]; rfl, hB5⟩
 ·have HF2 := Hd (show X1 ++ S ++ ⟨#[36]⟩ ++ ⟨#[32, 45, 62, 32]⟩ ++ D = R from HR2.out.symm)
  have d1 : ¬ 9223372036854775807 < X1.size + S.size := by omega
  have d1' : ¬ 9223372036854775807 < X1.size + 1 := by omega
  have d1b : ¬ 9223372036854775807 < X1.size + 1 + S.size := by omega
  have d2 : ¬ 9223372036854775807 < X1.size + S.size + 1 := by omega
  have d3 : ¬ 9223372036854775807 < X1.size + S.size + 4 := by omega
  have d3b : ¬ 9223372036854775807 < X1.size + 1 + S.size + 4 := by omega
  have d3c : ¬ 9223372036854775807 < X1.size + S.size + 1 + 4 := by omega
  have d4 : ¬ 9223372036854775807 < X1.size + S.size + 4 + D.size := by omega
  have d4b : ¬ 9223372036854775807 < X1.size + 1 + S.size + 4 + D.size := by omega
  have d4c : ¬ 9223372036854775807 < X1.size + S.size + 1 + 4 + D.size := by omega
  clear HR2
  go_wp2_with fail
  refine (wordS_any _ _ fr (HF.out.below hB2) omT HK1.out S (by rw [dot_steps hfl.1 HK1.out, HS.out])).mono ?_
  rintro e3 w3 ⟨rfl, hb3⟩
  have q0 := oldc hb3 l2 q0
  have q2 := oldc hb3 l2 q2
  have q4 := oldc hb3 l2 q4
  have l3 : w.heap.size < w3.heap.size := ltL l2 hb3.size
  have hB3 : Below w.heap.size w w3 := hB2.trans (hb3.mono hB2.size)
  clear hb3 q3
  go_wp2_with fail
  refine (wordS_any _ _ tw (HW.out.below hB3) omT HK2.out D (by rw [HD.out, HT.out])).mono ?_
  rintro e5 w5 ⟨rfl, hb5⟩
  have hB5 : Below w.heap.size w w5 := hB3.trans (hb5.mono hB3.size)
  clear hb5
  go_wp2
  go_ret
  exact ⟨by rw [← HF2.out]; rfl, hB5⟩
end
end Go.Proofs.YtcbhdmmohdnjbaaGreat
