/- Texts laid one behind the other (merge.py): Ren, Trd, TrdS, Tms. -/
import Derived.Test.YtdpkldapobbnpaaGreatDoorDivM
import Derived.Test.YtdpkldapobbnpaaGreatDoorPtrM
import Derived.Test.YtdpkldapobbnpaaGreatDoorRdsK
import Derived.Test.YtdpkldapobbnpaaGreatDoorDrwR2
import Derived.Test.YtdpkldapobbnpaaGreatDoorDrwT
import Derived.Test.YtdpkldapobbnpaaGreatDoorDEntry
import Derived.Test.YtdpkldapobbnpaaGreatDoorTrmB
import Derived.Test.YtdpkldapobbnpaaGreatDoorTrmA
import Derived.Test.YtdpkldapobbnpaaGreatDoorTrsM
import Derived.Test.YtdpkldapobbnpaaGreatDoorSdM
import Derived.Test.YtdpkldapobbnpaaGreatDoorIrI
namespace Go.Proofs.YtdpkldapobbnpaaGreatDoor
set_option linter.unusedVariables false
set_option linter.unusedSimpArgs false
open Go.RowKit
section
def qT (s : ByteArray) : ByteArray := ⟨#[113]⟩ ++ s
def renE (es : List Ent) : List Ent := es.map fun e => (e.1, qT e.2)
def ren (y : Trm) : Trm := (y.1, renE y.2)
theorem qT_inj {a b : ByteArray} (h : qT a = qT b) : a = b := by
 have h2 := congrArg (fun x : ByteArray => x.data.toList) h
 simp only [qT, app_B] at h2
 have h3 : a.data.toList = b.data.toList := by simpa using h2
 have h4 : a.data = b.data := by rw [← Array.toArray_toList (xs := a.data), h3, Array.toArray_toList]
 cases a; cases b; simp only at h4; rw [h4]
theorem qT_name {s : ByteArray} (h : nameOk s = true) (hl : s.size < 12) : nameOk (qT s) = true := by
 have h2 : letters s.data.toList = true ∧ 1 ≤ s.size := by
  unfold nameOk at h; simp at h; exact ⟨h.2, h.1.1⟩
 unfold nameOk
 have e1 : (qT s).size = 1 + s.size := by simp [qT, ByteArray.size_append]; rfl
 have e2 : (qT s).data.toList = 113 :: s.data.toList := by simp only [qT, app_B]; rfl
 have e3 : letters (113 :: s.data.toList) = true := by
  have h3 : (decide (97 ≤ (113 : UInt8).toNat ∧ (113 : UInt8).toNat ≤ 122) && letters s.data.toList) = true := by rw [h2.1]; decide
  exact h3
 rw [e1, e2, e3]
 simp; omega
theorem ren_term {y : Trm} (h : isTerm y = true) (hl : ∀ e ∈ y.2, e.2.size < 12) : isTerm (ren y) = true := by
 obtain ⟨h1, h2, h3, h4⟩ := isTerm_facts h
 unfold isTerm
 simp only [Bool.and_eq_true, decide_eq_true_eq, List.all_eq_true]
 refine ⟨h1, by unfold ren renE; rw [List.length_map]; exact h2, fun e he => ?_, ?_⟩
 ·obtain ⟨x, hx, rfl⟩ := List.mem_map.1 (show e ∈ y.2.map _ from he)
  unfold entOk
  simp only [Bool.and_eq_true, decide_eq_true_eq]
  exact ⟨qT_name (h3 x hx).1 (hl x hx), (h3 x hx).2⟩
 ·show ((y.2.map _).map _).Nodup
  rw [List.map_map]; exact h4
theorem ren_of (y : Trm) (t : Kin) : termOf (ren y) t = (termOf y t).map qT := by
 unfold termOf ren renE
 rw [List.find?_map, Option.map_map, Option.map_map]
 rfl
theorem map_inj {a b : Option ByteArray} : a.map qT = b.map qT ↔ a = b := by
 cases a <;> cases b <;> simp
 exact ⟨qT_inj, fun h => by rw [h]⟩
theorem ren_ag (y : Trm) (T : List Kin) (i j : Nat) : agD y (ren y) T i j = true ∧ agD (ren y) y T i j = true := by
 unfold agD
 cases T[i]? <;> cases T[j]? <;> simp [ren_of, map_inj]
theorem ren_div {y : Trm} (h : isTerm y = true) (hl : ∀ e ∈ y.2, e.2.size < 12) {n : Int} (h1 : 1 ≤ n) (h3 : n ≤ 3) : sameDiv y (ren y) n = true ∧ sameDiv (ren y) y n = true := by
 have hr := ren_term h hl
 unfold sameDiv sameV divD rowD
 simp only [h, hr, Bool.and_eq_true, decide_eq_true_eq, List.all_eq_true]
 exact ⟨⟨⟨trivial, trivial, h1, h3⟩, fun i _ j _ => (ren_ag y _ i j).1, fun i _ j _ => (ren_ag y _ i j).1⟩, ⟨trivial, trivial, h1, h3⟩, fun i _ j _ => (ren_ag y _ i j).2, fun i _ j _ => (ren_ag y _ i j).2⟩
theorem ren_rec (y : Trm) (T : List Kin) (i j : Nat) : recB (ren y) T i j = recB y T i j := by
 unfold recB
 cases T[i]? <;> cases T[j]? <;> simp [ren_of, map_inj]
theorem ren_recip {y : Trm} (h : isTerm y = true) (hl : ∀ e ∈ y.2, e.2.size < 12) (n : Int) : isRecip (ren y) n = isRecip y n := by
 have hr := ren_term h hl
 have e : ∀ T m, divR (ren y) T m = divR y T m := fun T m => by
  unfold divR rowR
  congr 1; funext i; congr 1; funext j; exact ren_rec y T i j
 unfold isRecip
 rw [h, hr, e, e]
theorem nf_idem {rs : List Rul} (hrs : allRules rs) {t : Kin} (ht : isKin t = true) : nf rs (nf rs t) = nf rs t := nf_none (nf_ok hrs _ (Nat.le_refl _) ht).2
theorem tmO_nf {y : Trm} (h : isTerm y = true) {t : Kin} (ht : isKin t = true) : tmO y (nf y.1 t) = tmO y t := by
 have hrs : allRules y.1 := term_rules h
 rw [tmO_some h.symm ht.symm, tmO_some h.symm (nf_kin hrs ht).symm]
 unfold termOf
 rw [nf_idem hrs ht]
theorem stepsB_len : ∀ l : List Stp, (stepsB l).length ≤ 2 * l.length
 | [] => by simp [stepsB]
 | x :: l => by
   have ih := stepsB_len l
   have h1 : (aB x.2).length ≤ 1 := by unfold aB; split <;> (try split) <;> simp
   have e : stepsB (x :: l) = stB x ++ stepsB l := rfl
   rw [e, List.length_append, List.length_cons]
   unfold stB
   rw [List.length_append]
   simp only [List.length_cons, List.length_nil]; omega
theorem dotB_len (w : Bs) : (dotB w).length ≤ w.length + 1 := by unfold dotB; split <;> simp
theorem egoB_len (e : Int) : (egoB e).length ≤ 2 := by unfold egoB; split <;> (try split) <;> simp
theorem nameOk_len {s : ByteArray} (h : nameOk s = true) : s.data.toList.length ≤ 12 := by
 unfold nameOk at h
 simp only [Bool.and_eq_true, decide_eq_true_eq] at h
 have := h.1.2
 rw [← Lib.size_eq]; exact this
theorem lnR_len {r : Rul} (h : isRule r = true) : (lnR r).length ≤ 100 := by
 obtain ⟨-, -, -, h4, h5⟩ := rul_SOk h
 have h1 := nameOk_len (isRule_facts h).1
 have a1 := stepsB_len r.2.2.2.1
 have a2 := stepsB_len r.2.2.2.2
 have a3 := dotB_len (stepsB r.2.2.2.2)
 have a4 := egoB_len r.2.1
 have a5 : (midB r).length ≤ 2 + (stepsB r.2.2.2.1).length := by
  unfold midB
  rw [List.length_append, List.length_append]
  have e1 : (if r.2.2.1 = 1 then ([94] : Bs) else []).length ≤ 1 := by split <;> simp
  have e2 : (if r.2.2.1 = 2 then ([36] : Bs) else []).length ≤ 1 := by split <;> simp
  omega
 unfold lnR ruleB
 simp only [List.length_append, List.length_cons, List.length_nil]
 omega
theorem lnE_len {e : Ent} (h : isKin e.1 = true) (hn : nameOk e.2 = true) : (lnE e).length ≤ 100 := by
 have h1 := nameOk_len hn
 have h2 := (isKin_facts h).2.1
 have a1 := stepsB_len e.1.2
 have a3 := dotB_len (stepsB e.1.2)
 have a4 := egoB_len e.1.1
 unfold lnE kinB
 simp only [List.length_append, List.length_cons, List.length_nil]
 omega
theorem joinL_len : ∀ ls : List Bs, (∀ l ∈ ls, l.length ≤ 100) → (joinL ls).length ≤ 101 * ls.length
 | [], _ => by simp [joinL]
 | l :: ls, h => by
   have ih := joinL_len ls fun x hx => h x (List.mem_cons_of_mem _ hx)
   have h1 := h l List.mem_cons_self
   have e : joinL (l :: ls) = (l ++ [10]) ++ joinL ls := rfl
   rw [e, List.length_append, List.length_append, List.length_cons]
   simp only [List.length_cons, List.length_nil]; omega
theorem trm_size {y : Trm} (h : isTerm y = true) : (trmTxt y).size ≤ 1048576 := by
 have h1 := joinL_len (lns y) fun l hl => by
  unfold lns at hl
  rcases List.mem_append.1 hl with hl | hl
  ·obtain ⟨r, hr, rfl⟩ := List.mem_map.1 hl
   exact lnR_len (term_rules h r hr)
  ·obtain ⟨e, he, rfl⟩ := List.mem_map.1 hl
   have := (isTerm_facts h).2.2.1 e he
   exact lnE_len this.2.1 this.1
 have h2 := lns_len h
 rw [Lib.size_eq, trmTxt_B h]
 omega
end
section
def GE {α : Type} [Rep α] (S : Nat → Prop) (K : Nat) (w : World) (E : TypeId) (v : Value) (xs : List α) : Prop :=
 ∃ css fps, w.ownsRow K E (Rep.sz α) v xs.length css.flatten ∧ Zip (Rep.rep false w) css xs fps ∧ ∀ b ∈ fps.flatten, S b ∧ some b ≠ v.ownBlock
section
variable {α : Type} [Rep α] {S : Nat → Prop} {K : Nat} {w w' : World} {E : TypeId} {v : Value} {xs : List α}
theorem GE.lit0 (S : Nat → Prop) (K : Nat) (w : World) (E : TypeId) (h : K ≤ w.heap.size) : GE (α := α) S K (w.alloc (.cells #[] E)) E (.slice (some ⟨w.heap.size, 0, none⟩) 0 0) [] :=
 ⟨[], [], by simpa using World.ownsRow_made (e := E) (size := Rep.sz α) w #[] 0 h (Nat.zero_le _) (by simp), trivial, by simp⟩
theorem GE.own (h : GE S K w E v xs) {g : Nat} (e : v.ownBlock = some g) : K ≤ g ∧ g < w.heap.size := by
 obtain ⟨css, fps, ho, _⟩ := h
 exact ho.lt g e
theorem GE.len (h : GE S K w E v xs) : ∃ ao cap, v = .slice ao xs.length cap := by
 obtain ⟨css, fps, ho, _⟩ := h
 rcases ho.2 with ⟨rfl, h⟩ | ⟨g, cap, cur, rfl, _⟩
 ·have h0 : xs.length = 0 := by omega
  exact ⟨none, 0, by rw [h0]⟩
 ·exact ⟨_, _, rfl⟩
theorem GE.keep (h : GE S K w E v xs) (k : ∀ b, b < w.heap.size → (S b ∨ v.ownBlock = some b) → w'.heap[b]? = w.heap[b]?) : GE S K w' E v xs := by
 obtain ⟨css, fps, ho, hz, hl⟩ := h
 refine ⟨css, fps, ⟨ho.1, ?_⟩, hz.keep (fun b hb => k b (hz.lt b hb) (.inl (hl b hb).1)), hl⟩
 rcases ho.2 with h | ⟨g, cap, cur, rfl, hbb, hh, r⟩
 ·exact .inl h
 ·exact .inr ⟨g, cap, cur, rfl, hbb, by rw [k g (ho.lt g rfl).2 (.inr rfl)]; exact hh, r⟩
theorem GE.rds (h : GE S K w E v xs) (k : ∀ g, K ≤ g → S g) : RdS S w [v] xs := by
 obtain ⟨css, fps, ho, hz, hl⟩ := h
 rcases ho.2 with ⟨rfl, h⟩ | ⟨g, cap, cur, rfl, hbb, hh, h3, h4, h5, h6⟩
 ·exact ⟨[], ⟨_, rfl, none, 0, 0, rfl, h, Nat.le_refl _, by simp [maxLen], fun _ => rfl, .inl ⟨rfl, rfl⟩⟩, (fun _ h => by cases h)⟩
 ·refine ⟨g :: fps.flatten, ⟨_, rfl, some ⟨g, 0, none⟩, xs.length, cap, rfl, rfl, h3, h4, (fun h => by cases h), .inr ⟨g, 0, css, fps, rfl, (ho.lt g rfl).2, rfl, hz, ?_, (fun h => by cases h)⟩⟩, ?_⟩
  ·intro j c hj
   have := ho.cells (g := g) rfl j c hj
   by_cases hj0 : j = 0
   ·subst hj0; simpa [Addr.add] using this
   ·simpa [Addr.add, hj0] using this
  ·intro b hb
   rcases List.mem_cons.1 hb with rfl | hb
   ·exact ⟨(ho.lt b rfl).2, k b hbb⟩
   ·exact ⟨hz.lt b hb, (hl b hb).1⟩
theorem run_push_gs {P : Program} {t ty : TypeId} {z0 : Value} {bytes : Nat} (hT : SlTy P t E z0 (Rep.sz α) bytes) (hsz : 0 < Rep.sz α) (hG : GE S K w E v xs)
  {ao : Option Addr} {c : Nat} {css' : List (List Value)} {ys : List α} {fps' : List (List Nat)} (hz' : Zip (Rep.rep false w) css' ys fps')
  (hnone : ao = none → ys.length = 0 ∧ c = 0) (hnews : ∀ a, ao = some a → ∀ j u, css'.flatten[j]? = some u → w.cell? (a.add j) = some u)
  (hd : ∀ b ∈ fps'.flatten, S b ∧ some b ≠ v.ownBlock)
  (h63 : xs.length + ys.length ≤ maxLen) (hbytes : (xs.length + ys.length) * bytes ≤ 140737488355328) (hlo : K ≤ w.heap.size) :
  ∃ v' w', (Builtin.append_ #[t, t] ty #[v, .slice ao ys.length c]).run P w = .ok v' w' ∧ GE S K w' E v' (xs ++ ys) ∧ w.grownBy w' v.ownBlock ∧ (v'.ownBlock = v.ownBlock ∨ v'.ownBlock = some w.heap.size) ∧ Below K w w' := by
 obtain ⟨css, fps, ho, hz, hf⟩ := hG
 have hl' : css'.flatten.length = ys.length * Rep.sz α := by rw [length_flat hz'.sizes, hz'.lens.1]
 obtain ⟨v', w', hr, ho', hgr, hv⟩ := run_app (P := P) w (t := t) (ty := ty) hT hsz ho hl' hnone hnews hz'.one h63 hbytes hlo
 have hlt : ∀ b ∈ (fps ++ fps').flatten, b < w.heap.size := by
  intro b hb
  simp only [List.flatten_append, List.mem_append] at hb
  rcases hb with hb | hb
  ·exact hz.lt b hb
  ·exact hz'.lt b hb
 have hne : ∀ b ∈ (fps ++ fps').flatten, S b ∧ some b ≠ v.ownBlock := by
  intro b hb
  simp only [List.flatten_append, List.mem_append] at hb
  rcases hb with hb | hb
  ·exact hf b hb
  ·exact hd b hb
 refine ⟨v', w', hr, ⟨css ++ css', fps ++ fps', by rw [List.length_append, List.flatten_append]; exact ho', (hz.append hz').keep fun b hb => hgr.block b (hlt b hb) (hne b hb).2, fun b hb => ⟨(hne b hb).1, fun e => ?_⟩⟩, hgr, hv, (Below.refl K w).grown hgr hlo fun k hk => (ho.lt k hk).1⟩
 rcases hv with hv | hv
 ·exact (hne b hb).2 (by rw [← hv]; exact e)
 ·rw [hv] at e; have := hlt b hb; simp at e; omega
end
section
variable {P : Program} {α : Type} [Rep α] {S : Nat → Prop} {K : Nat} {w : World} {E : TypeId} {v : Value} {xs : List α}
theorem run_spread_gs {t ty : TypeId} {z0 : Value} {bytes : Nat} (hT : SlTy P t E z0 (Rep.sz α) bytes) (hsz : 0 < Rep.sz α) (hG : GE S K w E v xs) {u : Value} {ys : List α} (hy : RdS (fun b => S b ∧ some b ≠ v.ownBlock) w [u] ys)
  (h63 : xs.length + ys.length ≤ maxLen) (hbytes : (xs.length + ys.length) * bytes ≤ 140737488355328) (hlo : K ≤ w.heap.size) :
  ∃ v' w', (Builtin.append_ #[t, t] ty #[v, u]).run P w = .ok v' w' ∧ GE S K w' E v' (xs ++ ys) ∧ w.grownBy w' v.ownBlock ∧ (v'.ownBlock = v.ownBlock ∨ v'.ownBlock = some w.heap.size) ∧ Below K w w' := by
 obtain ⟨fp, ⟨v1, hv1, ao, n, cap, rfl, e1, e2, e3, e4, hr⟩, hz⟩ := hy
 simp at hv1; subst hv1 e1
 rcases hr with ⟨h0, rfl⟩ | ⟨b, off, css', fps', rfl, hb, rfl, hzip, hcells, _⟩
 ·have hys : ys = [] := List.eq_nil_of_length_eq_zero h0
  subst hys
  exact run_push_gs hT hsz hG (css' := []) (ys := []) (fps' := []) trivial (fun h => ⟨rfl, e4 h⟩) (fun a _ j u hj => by simp at hj) (by simp) h63 hbytes hlo
 ·refine run_push_gs hT hsz hG hzip (fun h => by cases h) (fun a e j u hj => ?_) (fun b' hb => (hz b' (List.mem_cons_of_mem _ hb)).2) h63 hbytes hlo
  simp only [Option.some.injEq] at e; subst e
  have := hcells j u hj
  by_cases hj0 : j = 0
  ·subst hj0; simpa [Addr.add] using this
  ·simpa [Addr.add, hj0] using this
theorem run_one_gs {t ty : TypeId} {z0 : Value} {bytes : Nat} (hT : SlTy P t E z0 (Rep.sz α) bytes) (hsz : 0 < Rep.sz α) (hG : GE S K w E v xs) {g c : Nat} {cs : List Value} {y : α} (hcells : ∀ j u, cs[j]? = some u → w.cell? ⟨g, j, none⟩ = some u)
  (hy : RdS (fun b => S b ∧ some b ≠ v.ownBlock) w cs y)
  (h63 : xs.length + 1 ≤ maxLen) (hbytes : (xs.length + 1) * bytes ≤ 140737488355328) (hlo : K ≤ w.heap.size) :
  ∃ v' w', (Builtin.append_ #[t, t] ty #[v, .slice (some ⟨g, 0, none⟩) 1 c]).run P w = .ok v' w' ∧ GE S K w' E v' (xs ++ [y]) ∧ w.grownBy w' v.ownBlock ∧ (v'.ownBlock = v.ownBlock ∨ v'.ownBlock = some w.heap.size) ∧ Below K w w' := by
 obtain ⟨fp, hr, hz⟩ := hy
 exact run_push_gs hT hsz hG (css' := [cs]) (ys := [y]) (fps' := [fp]) ⟨hr, trivial⟩ (fun h => by cases h) (fun a e j u hj => by
  simp only [Option.some.injEq] at e; subst e
  have := hcells j u (by simpa using hj)
  by_cases hj0 : j = 0
  ·subst hj0; simpa [Addr.add] using this
  ·simpa [Addr.add, hj0] using this) (fun b hb => (hz b (by simpa using hb)).2) h63 hbytes hlo
theorem step_app {ops : Array Oper} {o : Oper} {a : Act} {KK : Act → World → Prop} {Q : Exit → Act → World → Prop} {EE : Prop} (hgd : o.guard = none) {s x : Operand} {t : TypeId}
  (ho : o.op = .call { callee := .builtin .append, args := #[s, x], argTypes := #[t, t] }) (hs : a.eval s = v) {u : Value} (hx : a.eval x = u) {R : Value → World → Prop}
  (hrun : ∃ v' w', (Builtin.append_ #[t, t] o.type #[v, u]).run P w = .ok v' w' ∧ R v' w')
  (h : ∀ v' w', R v' w' → KK (a.put o.dst v') w') :
  if Region.wanted o (yielded ops a.tmps) = true then Oper.wp P o a w KK Q else EE := by
 have hw : Region.wanted o (yielded ops a.tmps) = true := by simp [Region.wanted, hgd]
 rw [if_pos hw]
 obtain ⟨v', w', hrun, h2⟩ := hrun
 unfold Oper.wp execOp
 simp only [ho, resolve, invoke, builtin, Sem.run_bind, Sem.run_pure, Result.andThen_ok, List.map_toArray, List.map_cons, List.map_nil, hs, hx]
 rw [hrun]
 exact h v' w' h2
end
theorem RdS.zone {α : Type} [Rep α] {w : World} {cs : List Value} {x : α} {S : Nat → Prop} {lo : Nat} (h : RdS S w cs x) (k : ∀ b, S b → lo ≤ b) : Rd false lo w.heap.size w cs x := by
 obtain ⟨fp, h1, h2⟩ := h
 exact ⟨fp, h1, fun b hb => ⟨k b (h2 b hb).2, (h2 b hb).1⟩⟩
theorem RdS.ent {S : Nat → Prop} {w : World} {te : Int} {v : Value} {tl : List Stp} {tm : ByteArray} (h : RdS S w [.int .i64 te, v] ((te, tl) : Kin)) (hm : tm.size ≤ maxLen) : RdS S w [.int .i64 te, v, .string tm] (((te, tl), tm) : Ent) := by
 obtain ⟨fp, hr, hz⟩ := h
 obtain ⟨v', e, hI, hr2⟩ := repKin_inv hr
 simp only [List.cons.injEq, and_true, true_and] at e
 subst e
 exact ⟨fp, Rep.weak (dEnt_mk hI hm hr2), hz⟩
theorem RdS.trm {S : Nat → Prop} {w : World} {a b : Value} {rs : List Rul} {es : List Ent} (h : RdS S w [a] rs) (k : RdS S w [b] es) : RdS S w [a, b] ((rs, es) : Trm) := by
 obtain ⟨f1, r1, h1⟩ := h
 obtain ⟨f2, r2, h2⟩ := k
 refine ⟨f1 ++ f2, ⟨[a], [b], f1, f2, rfl, rfl, r1, r2⟩, fun x hx => ?_⟩
 rcases List.mem_append.1 hx with hx | hx
 ·exact h1 x hx
 ·exact h2 x hx
theorem RdS.nil {α : Type} [Rep α] (S : Nat → Prop) (w : World) : RdS (α := List α) S w [.slice none 0 0] [] :=
 ⟨[], ⟨_, rfl, none, 0, 0, rfl, rfl, Nat.le_refl _, by simp [maxLen], fun _ => rfl, .inl ⟨rfl, rfl⟩⟩, (fun _ h => by cases h)⟩
def ownO (a : Option Value) : Option Nat := a.bind Value.ownBlock
structure R11 (p : Nat) (S : Nat → Prop) (W3 : World) (ts : List ByteArray) (a : Option Value) (xs : List Ent) (n : Option Value) (t : Kin) (l : Option Value) (m : Option Nat) (s : ByteArray) (w : World) : Prop where
 off : OffF [p] W3 w
 cur : CurOk p w
 ls : ∀ v, a = some v → GE S W3.heap.size w 43 v xs
 nk : ∀ v, n = some v → RdS (fun b => S b ∧ some b ≠ ownO a) w [.int .i64 t.1, v] t
 lk : ∀ v, l = some v → RdS (fun b => W3.heap.size ≤ b ∧ some b ≠ ownO a) w [v] ts
 ek : ∀ g v, m = some g → n = some v → (∀ j u, ([.int .i64 t.1, v, .string s] : List Value)[j]? = some u → w.cell? ⟨g, j, none⟩ = some u) ∧ some g ≠ ownO a ∧ W3.heap.size ≤ g ∧ g < w.heap.size
section
variable {p : Nat} {S : Nat → Prop} {W3 : World} {ts : List ByteArray} {a : Option Value} {xs : List Ent} {n : Option Value} {t : Kin} {l : Option Value} {m : Option Nat} {s : ByteArray} {w w' : World}
theorem R11.start (hp : CurOk p W3) : R11 p S W3 ts none xs none t none none s W3 :=
 ⟨OffF.refl _ _, hp, fun _ h => (by cases h), fun _ h => (by cases h), fun _ h => (by cases h), fun _ _ h => (by cases h)⟩
theorem R11.size (h : R11 p S W3 ts a xs n t l m s w) : W3.heap.size ≤ w.heap.size := h.off.size
theorem R11.step (h : R11 p S W3 ts a xs n t l m s w) (hp : p < W3.heap.size) (hS : ∀ b, S b → b ≠ p) (k : OffF [p] w w') (hc : CurOk p w') : R11 p S W3 ts a xs n t l m s w' := by
 refine ⟨h.off.trans k, hc, fun v e => (h.ls v e).keep fun b hb hh => k.block b hb ?_, fun v e => (h.nk v e).keep fun b hb hh => k.block b hb (by simpa using hS b hh.1), fun v e => (h.lk v e).keep fun b hb hh => k.block b hb (by simp; omega), fun g v e e2 => ?_⟩
 ·simp
  rcases hh with hh | hh
  ·exact hS b hh
  ·have := ((h.ls v e).own hh).1; omega
 ·obtain ⟨h1, h2, h3, h4⟩ := h.ek g v e e2
  exact ⟨fun j u hj => (World.cell?_of_block (a := ⟨g, j, none⟩) (k.block g h4 (by simp; omega))).trans (h1 j u hj), h2, h3, Nat.lt_of_lt_of_le h4 k.size⟩
theorem OffF.one (p : Nat) (w : World) (o : Obj) : OffF [p] w (w.alloc o) := (OffF.refl _ _).alloc o
theorem R11.alloc (h : R11 p S W3 ts a xs n t l m s w) (hp : p < W3.heap.size) (hS : ∀ b, S b → b ≠ p) (o : Obj) : R11 p S W3 ts a xs n t l m s (w.alloc o) :=
 h.step hp hS (OffF.one p w o) (h.cur.grow ((Below.refl _ _).alloc (Nat.le_refl _) o))
theorem R11.make (h : R11 p S W3 ts none xs n t l m s w) (hp : p < W3.heap.size) (hS : ∀ b, S b → b ≠ p) : R11 p S W3 ts (some (.slice (some ⟨w.heap.size, 0, none⟩) 0 0)) [] n t l m s (w.alloc (.cells #[] 43)) := by
 have k := h.alloc hp hS (.cells #[] 43)
 have hs := h.size
 refine ⟨k.off, k.cur, fun v e => ?_, fun v e => ?_, fun v e => ?_, fun g v e e2 => ?_⟩
 ·cases e; exact GE.lit0 _ _ _ _ hs
 ·obtain ⟨fp, h1, h2⟩ := h.nk v e
  obtain ⟨fp', h3, h4⟩ := k.nk v e
  exact ((h.nk v e).mono (S' := fun b => S b ∧ some b ≠ some w.heap.size) fun b hb hh => ⟨hh.1, by simp; omega⟩).below ((Below.refl _ _).alloc (Nat.le_refl _) _)
 ·exact ((h.lk v e).mono (S' := fun b => W3.heap.size ≤ b ∧ some b ≠ some w.heap.size) fun b hb hh => ⟨hh.1, by simp; omega⟩).below ((Below.refl _ _).alloc (Nat.le_refl _) _)
 ·obtain ⟨h1, h2, h3, h4⟩ := h.ek g v e e2
  obtain ⟨k1, k2, k3, k4⟩ := k.ek g v e e2
  exact ⟨k1, by simp [ownO, Value.ownBlock]; omega, k3, k4⟩
theorem R11.grow {v v' : Value} {ys zs : List Ent} (h : R11 p S W3 ts (some v) ys n t l m s w) (hp : p < W3.heap.size) (hG : GE S W3.heap.size w' 43 v' zs) (hg : w.grownBy w' v.ownBlock) (hv : v'.ownBlock = v.ownBlock ∨ v'.ownBlock = some w.heap.size) (hB : Below W3.heap.size w w') : R11 p S W3 ts (some v') zs n t l m s w' := by
 have hs := h.size
 have hne : ∀ b, b < w.heap.size → some b ≠ v.ownBlock → some b ≠ v'.ownBlock := fun b hb e e2 => by
  rcases hv with hv | hv
  ·exact e (by rw [← hv]; exact e2)
  ·rw [hv] at e2; simp at e2; omega
 refine ⟨⟨hB.os.trans h.off.os, hB.tape.trans h.off.tape, hB.output.trans h.off.output, Nat.le_trans hs hB.size, fun b hb hn => (hB.block b hb).trans (h.off.block b hb hn)⟩, h.cur.below (hB.mono hp), fun u e => ?_, fun u e => ?_, fun u e => ?_, fun g u e e2 => ?_⟩
 ·cases e; exact hG
 ·exact ((h.nk u e).mono (S' := fun b => S b ∧ some b ≠ v.ownBlock ∧ some b ≠ v'.ownBlock) fun b hb hh => ⟨hh.1, hh.2, hne b hb hh.2⟩).keep (fun b hb hh => hg.block b hb hh.2.1) |>.mono fun b _ hh => ⟨hh.1, hh.2.2⟩
 ·exact ((h.lk u e).mono (S' := fun b => W3.heap.size ≤ b ∧ some b ≠ v.ownBlock ∧ some b ≠ v'.ownBlock) fun b hb hh => ⟨hh.1, hh.2, hne b hb hh.2⟩).keep (fun b hb hh => hg.block b hb hh.2.1) |>.mono fun b _ hh => ⟨hh.1, hh.2.2⟩
 ·obtain ⟨h1, h2, h3, h4⟩ := h.ek g u e e2
  exact ⟨fun j u hj => (World.cell?_of_block (a := ⟨g, j, none⟩) (hg.block g h4 h2)).trans (h1 j u hj), hne g h4 h2, h3, Nat.lt_of_lt_of_le h4 hB.size⟩
theorem R11.norm {v : Value} {u : Kin} (h : R11 p S W3 ts a xs none t l m s w) (hp : p < W3.heap.size) (hS : ∀ b, S b → b ≠ p) (hS2 : ∀ b, W3.heap.size ≤ b → S b) (hm : m = none) (hb : Below w.heap.size w w') (ho : Ow w.heap.size w'.heap.size w' [.int .i64 u.1, v] u) : R11 p S W3 ts a xs (some v) u l m s w' := by
 have hs := h.size
 subst hm
 have k : OffF [p] w w' := (OffF.refl _ _).below hb
 have h2 : R11 p S W3 ts a xs none t l none s w' := h.step hp hS k (h.cur.grow hb)
 refine ⟨h2.off, h2.cur, h2.ls, fun v' e => ?_, h2.lk, fun g v' e => by cases e⟩
 cases e
 obtain ⟨fp, h3, h4, _⟩ := ho
 refine ⟨fp, Rep.weak h3, fun b hb => ⟨(h4 b hb).2, hS2 b (Nat.le_trans hs (h4 b hb).1), fun e => ?_⟩⟩
 have h5 := (h4 b hb).1
 cases a with
 | none => cases e
 | some q => have := ((h.ls q rfl).own e.symm).2; omega
theorem R11.lit {ts : List ByteArray} {E : TypeId} (h : R11 p S W3 ts a xs n t none m s w) (hp : p < W3.heap.size) (hS : ∀ b, S b → b ≠ p) (h1 : ∀ x ∈ ts, x.size ≤ maxLen) (h2 : ts.length ≤ maxLen) : R11 p S W3 ts a xs n t (some (.slice (some ⟨w.heap.size, 0, none⟩) ts.length ts.length)) m s (w.alloc (.cells (ts.map Value.string).toArray E)) := by
 have k := h.alloc hp hS (.cells (ts.map Value.string).toArray E)
 have hs := h.size
 refine ⟨k.off, k.cur, k.ls, k.nk, fun v' e => ?_, k.ek⟩
 cases e
 obtain ⟨fp, h3, h4, _⟩ := Ow.strs_lit0 w E ts h1 h2
 refine ⟨fp, Rep.weak h3, fun b hb => ⟨by have := h4 b hb; simp; omega, by have := h4 b hb; omega, fun e => ?_⟩⟩
 have h5 := h4 b hb
 cases a with
 | none => cases e
 | some q => have := ((h.ls q rfl).own e.symm).2; omega
theorem R11.mk1 {v : Value} {s' : ByteArray} (h : R11 p S W3 ts a xs (some v) t l m s w) (hp : p < W3.heap.size) (hS : ∀ b, S b → b ≠ p) {E : TypeId} : R11 p S W3 ts a xs (some v) t l (some w.heap.size) s' (w.alloc (.cells #[.int .i64 t.1, v, .string s'] E)) := by
 have k := h.alloc hp hS (.cells #[.int .i64 t.1, v, .string s'] E)
 have hs := h.size
 refine ⟨k.off, k.cur, k.ls, k.nk, k.lk, fun g u e e2 => ?_⟩
 cases e; cases e2
 refine ⟨fun j u hj => ?_, fun e => ?_, hs, by simp⟩
 ·match j, hj with
  | 0, hj => simp at hj; subst hj; simp [go_sem]
  | 1, hj => simp at hj; subst hj; simp [go_sem]
  | 2, hj => simp at hj; subst hj; simp [go_sem]
 ·cases a with
  | none => cases e
  | some q => have := ((h.ls q rfl).own e.symm).2; omega
end
structure DB (p R T : Nat) (w0 : World) (rs : List Rul) (es : List Ent) (rv ev : Value) (W : World) : Prop where
 r0 : W.cell? ⟨R, 0, none⟩ = some (.slice none 0 0)
 r1 : W.cell? ⟨R, 1, none⟩ = some (.slice none 0 0)
 fR : ∀ o, W.frozen? ⟨R, o, none⟩ = false
 q0 : W.cell? ⟨T, 0, none⟩ = some rv
 q1 : W.cell? ⟨T, 1, none⟩ = some ev
 fT : ∀ o, W.frozen? ⟨T, o, none⟩ = false
 cur : CurOk p W
 off : OffF [p] w0 W
 pR : p < R
 RT : R < T
 lT : T < W.heap.size
 w0R : w0.heap.size ≤ R
 hr : RdS (fun b => b ≠ p ∧ b ≠ R ∧ b ≠ T ∧ w0.heap.size ≤ b) W [rv] rs
 he : RdS (fun b => b ≠ p ∧ b ≠ R ∧ b ≠ T ∧ w0.heap.size ≤ b) W [ev] es
theorem DB.step {p R T : Nat} {w0 W W' : World} {rs : List Rul} {es : List Ent} {rv ev : Value} (h : DB p R T w0 rs es rv ev W) (k : OffF [p] W W') (hc : CurOk p W') : DB p R T w0 rs es rv ev W' := by
 have hT := h.lT; have hR := h.RT; have hp := h.pR
 exact ⟨offq k (by omega) (by omega) h.r0, offq k (by omega) (by omega) h.r1, offfr k (by omega) (by omega) h.fR, offq k (by omega) hT h.q0, offq k (by omega) hT h.q1, offfr k (by omega) hT h.fT, hc, h.off.trans k, hp, hR, Nat.lt_of_lt_of_le hT k.size, h.w0R,
  h.hr.keep (fun b hb hh => k.block b hb (by simpa using hh.1)), h.he.keep (fun b hb hh => k.block b hb (by simpa using hh.1))⟩
theorem DB.upd {p R T : Nat} {w0 W : World} {rs : List Rul} {es zs : List Ent} {rv ev zv : Value} (h : DB p R T w0 rs es rv ev W) (hz : RdS (fun b => b ≠ p ∧ b ≠ R ∧ b ≠ T ∧ w0.heap.size ≤ b) W [zv] zs) : DB p R T w0 rs zs rv zv ((W.setCell ⟨T, 0, none⟩ rv).setCell ⟨T, 1, none⟩ zv) := by
 have hT := h.lT; have hR := h.RT; have hp := h.pR
 have hk : ∀ b, b ≠ T → ((W.setCell ⟨T, 0, none⟩ rv).setCell ⟨T, 1, none⟩ zv).heap[b]? = W.heap[b]? := fun b hb => by
  rw [Below.heap_setCell _ _ _ _ (by simpa using hb), Below.heap_setCell _ _ _ _ (by simpa using hb)]
 have hcr : ∀ o u, W.cell? ⟨R, o, none⟩ = some u → ((W.setCell ⟨T, 0, none⟩ rv).setCell ⟨T, 1, none⟩ zv).cell? ⟨R, o, none⟩ = some u := fun o u hu => (World.cell?_of_block (a := ⟨R, o, none⟩) (hk R (by omega))).trans hu
 refine ⟨hcr _ _ h.r0, hcr _ _ h.r1, fun o => (World.frozen?_of_block (a := ⟨R, o, none⟩) (hk R (by omega))).trans (h.fR o), ?_, ?_, fun o => ?_, ?_, (h.off.setNew (by show w0.heap.size ≤ T; have := h.w0R; omega) _).setNew (by show w0.heap.size ≤ T; have := h.w0R; omega) _, hp, hR, by simpa using hT, h.w0R, h.hr.keep (fun b _ hh => hk b hh.2.2.1), hz.keep (fun b _ hh => hk b hh.2.2.1)⟩
 ·have q1 : (W.setCell ⟨T, 0, none⟩ rv).cell? ⟨T, 0, none⟩ = some rv := by rw [cell_setCell _ _ _ _ _ _ h.q0]; simp
  rw [cell_setCell _ _ _ _ _ _ q1]; simp
 ·have q1 : (W.setCell ⟨T, 0, none⟩ rv).cell? ⟨T, 1, none⟩ = some ev := by rw [cell_setCell _ _ _ _ _ _ h.q1]; simp
  rw [cell_setCell _ _ _ _ _ _ q1]; simp
 ·exact frozen_setCell _ _ _ _ _ (frozen_setCell _ _ _ _ _ (h.fT o))
 ·exact h.cur.below ((((Below.refl (p + 1) W).setCell (by show p + 1 ≤ T; omega) _)).setCell (by show p + 1 ≤ T; omega) _)
end
section
def kinL : List Bs := [[102, 97, 116, 104, 101, 114], [109, 111, 116, 104, 101, 114], [115, 111, 110], [97, 117, 110, 116], [117, 110, 99, 108, 101], [99, 111, 117, 115, 105, 110], [107, 105, 110]]
theorem trm_ok : ∀ l ∈ nameL, isTerm (trmX l) = true := by decide +kernel
theorem trm_ok2 {s : ByteArray} (h : s ∈ nameL.map txt) : isTerm (trmX s.data.toList) = true := by
 obtain ⟨l, hl, rfl⟩ := List.mem_map.1 h
 rw [list_txt]; exact trm_ok l hl
theorem term_nil {rs : List Rul} (h : areRules rs = true) : isTerm (rs, []) = true := by simp [isTerm, h]
theorem rules_all {rs : List Rul} (h : areRules rs = true) : allRules rs := fun r hr => by
 unfold areRules at h
 simp only [Bool.and_eq_true, List.all_eq_true] at h
 exact h.2.1 r hr
theorem term_short {rs : List Rul} {es : List Ent} (h : isTerm (rs, es) = true) : es.length ≤ 60 := (isTerm_facts h).2.1
theorem R11.old {α : Type} [Rep α] {p : Nat} {S : Nat → Prop} {W3 : World} {ts : List ByteArray} {a : Option Value} {xs : List Ent} {n : Option Value} {t : Kin} {l : Option Value} {m : Option Nat} {s : ByteArray} {w : World} (h : R11 p S W3 ts a xs n t l m s w) {cs : List Value} {x : α} (k : RdS S W3 cs x) (hS : ∀ b, S b → b ≠ p) : RdS (fun b => S b ∧ some b ≠ ownO a) w cs x := by
 obtain ⟨fp, h1, h2⟩ := k
 have h3 := Rep.keep h1 fun b hb => h.off.block b (h2 b hb).1 (by simpa using hS b (h2 b hb).2)
 refine ⟨fp, h3, fun b hb => ⟨Rep.lt h3 b hb, (h2 b hb).2, fun e => ?_⟩⟩
 have h5 := (h2 b hb).1
 cases a with
 | none => cases e
 | some q => have := ((h.ls q rfl).own e.symm).1; omega
theorem RdS.ret {α : Type} [Rep α] {S : Nat → Prop} {R : Nat} {W : World} {cs : List Value} {x : α} {u v : Value} (h : RdS S W cs x) (k : ∀ b, b < W.heap.size → S b → b ≠ R) : RdS S ((W.setCell ⟨R, 0, none⟩ u).setCell ⟨R, 1, none⟩ v) cs x := by
 refine h.keep fun b hb hh => ?_
 have hR := k b hb hh
 rw [Below.heap_setCell _ _ _ _ (by simpa using hR), Below.heap_setCell _ _ _ _ (by simpa using hR)]
theorem DB.set0 {p R T : Nat} {w0 W : World} {rs : List Rul} {es : List Ent} {rv ev : Value} (h : DB p R T w0 rs es rv ev W) : DB p R T w0 [] es (.slice none 0 0) ev (W.setCell ⟨T, 0, none⟩ (.slice none 0 0)) := by
 have hT := h.lT; have hR := h.RT; have hp := h.pR
 have hk : ∀ b, b ≠ T → (W.setCell ⟨T, 0, none⟩ (.slice none 0 0)).heap[b]? = W.heap[b]? := fun b hb => by
  rw [Below.heap_setCell _ _ _ _ (by simpa using hb)]
 have hcr : ∀ o u, W.cell? ⟨R, o, none⟩ = some u → (W.setCell ⟨T, 0, none⟩ (.slice none 0 0)).cell? ⟨R, o, none⟩ = some u := fun o u hu => (World.cell?_of_block (a := ⟨R, o, none⟩) (hk R (by omega))).trans hu
 refine ⟨hcr _ _ h.r0, hcr _ _ h.r1, fun o => (World.frozen?_of_block (a := ⟨R, o, none⟩) (hk R (by omega))).trans (h.fR o), ?_, ?_, fun o => frozen_setCell _ _ _ _ _ (h.fT o), ?_, h.off.setNew (by show w0.heap.size ≤ T; have := h.w0R; omega) _, hp, hR, by simpa using hT, h.w0R, RdS.nil _ _, h.he.keep (fun b _ hh => hk b hh.2.2.1)⟩
 ·rw [cell_setCell _ _ _ _ _ _ h.q0]; simp
 ·rw [cell_setCell _ _ _ _ _ _ h.q1]; simp
 ·exact h.cur.below ((Below.refl (p + 1) W).setCell (by show p + 1 ≤ T; omega) _)
theorem R11.drew {p : Nat} {S : Nat → Prop} {W3 : World} {ts : List ByteArray} {a : Option Value} {xs : List Ent} {n : Option Value} {t : Kin} {l : Option Value} {m : Option Nat} {s : ByteArray} {w : World} (h : R11 p S W3 ts a xs n t l m s w) (hp : p < W3.heap.size) (hS : ∀ b, S b → b ≠ p) : R11 p S W3 ts a xs n t l m s w.drew :=
 h.step hp hS (OffF.refl [p] w).drew (h.cur.grow (Below.refl _ w).drew)
def PostTD (p : Nat) (w : World) (e : Ending) (w' : World) : Prop := ∃ (a b : Value) (y : Trm), e = .returned (.agg #[a, b]) ∧ RdS (fun b => b ≠ p ∧ w.heap.size ≤ b) w' [a, b] y ∧ Hid (isTerm y = true) ∧ CurOk p w' ∧ OffF [p] w w'
set_option maxRecDepth 20000 in
set_option maxHeartbeats 16000000 in
theorem l5Draw_any (w : World) (p : Nat) (h : CurOk p w) :
  Calls Tryz.prog 35 #[.pointer (some ⟨p, 0, none⟩)] w (PostTD p w) := by
 have hpl := h.lt
 go_enter Tryz.func35, Tryz.ntmps35
 go_wp2_with fail
 refine (l01Once_any _ p (h.grow bwT) 2 (by omega) (by omega)).mono ?_
 rintro e1 w1 ⟨c1, rfl, hC1, hO1⟩
 have s1 : w.heap.size < w1.heap.size := by have := hO1.size; simp at this; omega
 have hF1 : OffF [p] w w1 := ((OffF.refl [p] w).alloc _).trans hO1
 have r0 : w1.cell? ⟨w.heap.size, 0, none⟩ = some (.slice none 0 0) := offq hO1 (by omega) (by simp) (by simp [go_sem])
 have r1 : w1.cell? ⟨w.heap.size, 1, none⟩ = some (.slice none 0 0) := offq hO1 (by omega) (by simp) (by simp [go_sem])
 have rf : ∀ o, w1.frozen? ⟨w.heap.size, o, none⟩ = false := offfr hO1 (by omega) (by simp) (by simp [go_sem])
 clear h hO1
 cases c1
 rotate_left
 ·have hsz := sz_lits (ls := nameL) (by decide)
  have HL := Lib.hid (Ow.strs_lit0 w1 9 (nameL.map txt) hsz.1 hsz.2).rd
  have HC := Lib.hid (show CurOk p (w1.alloc (.cells ((nameL.map txt).map Value.string).toArray 9)) from hC1.grow bwT)
  clear hsz hC1
  go_wp2_with (go_at_call 76; refine (l01Pick_any _ p HC.out _ (nameL.map txt) HL.out (by decide) (by decide) (.inl (by omega)) (by simp)).mono ?_)
  rintro e2 w2 ⟨s, rfl, hs, hC2, hO2⟩
  have hF2 : OffF [p] w w2 := (hF1.alloc _).trans hO2
  have s2 : w.heap.size < w2.heap.size := by have := hO2.size; simp at this; omega
  have r0 : w2.cell? ⟨w.heap.size, 0, none⟩ = some (.slice none 0 0) := offq hO2 (by omega) (by simp; omega) (oldc (k := w1.heap.size) bwT s1 r0)
  have r1 : w2.cell? ⟨w.heap.size, 1, none⟩ = some (.slice none 0 0) := offq hO2 (by omega) (by simp; omega) (oldc (k := w1.heap.size) bwT s1 r1)
  have rf : ∀ o, w2.frozen? ⟨w.heap.size, o, none⟩ = false := offfr hO2 (by omega) (by simp; omega) (fun o => ((show Below w1.heap.size w1 _ from bwT).frozen (p := ⟨w.heap.size, o, none⟩) s1).trans (rf o))
  have HTM := Lib.hid (trm_ok2 hs)
  clear hs HL HC hO2
  go_wp2_with fail
  refine (sampTS_any _ s _ rfl).mono ?_
  rintro e3 w3 ⟨va, vb, rfl, ho, hb3⟩
  have hF3 : OffF [p] w w3 := hF2.below hb3
  have HC3 := Lib.hid (hC2.grow hb3)
  have r0 := oldc hb3 s2 r0
  have r1 := oldc hb3 s2 r1
  have rf : ∀ o, w3.frozen? ⟨w.heap.size, o, none⟩ = false := fun o => (hb3.frozen (p := ⟨w.heap.size, o, none⟩) s2).trans (rf o)
  have s3 : w.heap.size < w3.heap.size := Nat.lt_of_lt_of_le s2 hb3.size
  obtain ⟨ao, n, cap, bo, m, dap, rfl, rfl⟩ := shapeTrm ho.rd
  have HRD := Lib.hid ((RdS.ret (R := w.heap.size) (u := .slice ao n cap) (v := .slice bo m dap) (ho.rd.rds (S := fun b => w.heap.size < b) (fun b h1 h2 => by omega)) (fun b _ hh => by omega)).mono (S' := fun b => b ≠ p ∧ w.heap.size ≤ b) (fun b _ hh => by omega))
  have HOF := Lib.hid hF3
  clear ho hb3 hF2 hF1 hF3 hC2
  go_wp2
  refine bodyPost_ret (v := .agg #[.slice ao n cap, .slice bo m dap]) (by simp [results, Tryz.results35, go_sem, r0, r1, rf, s3]) rfl ⟨_, _, _, rfl, HRD.out, HTM, HC3.out.below ?b1, (HOF.out.setNew (Nat.le_refl _) _).setNew (Nat.le_refl _) _⟩
  case b1 => exact ((Below.refl (p + 1) w3).setCell (by show p + 1 ≤ w.heap.size; omega) _).setCell (by show p + 1 ≤ w.heap.size; omega) _
 go_wp2_with fail
 refine (l4Rules_any _ p (hC1.grow bwT)).mono ?_
 rintro e2 w2 ⟨rv, rs0, rfl, ho, -, hC2, hO2⟩
 have s2 : w.heap.size < w2.heap.size := by have := hO2.size; omega
 have hF2 : OffF [p] w w2 := hF1.trans hO2
 obtain ⟨ao, n, cap, rfl, hn, -⟩ := ho.rd.shape
 subst hn
 obtain ⟨R1, hlet_R1⟩ : ∃ r, r = areRules rs0 := ⟨_, rfl⟩
 have H1 := Lib.hid hlet_R1
 clear hlet_R1
 obtain ⟨W2, hW2⟩ : ∃ W : World, W = w2.alloc (.cells #[.slice ao rs0.length cap, .slice none 0 0] 25) := ⟨_, rfl⟩
 have hB2 : Below w2.heap.size w2 W2 := by rw [hW2]; exact bwT
 have HD0 := Lib.hid (show DB p w.heap.size w2.heap.size w rs0 [] (.slice ao rs0.length cap) (.slice none 0 0) W2 from
  ⟨oldc hB2 s2 (offq hO2 (by omega) s1 r0), oldc hB2 s2 (offq hO2 (by omega) s1 r1), fun o => (hB2.frozen (p := ⟨w.heap.size, o, none⟩) s2).trans (offfr hO2 (by omega) s1 rf o), by rw [hW2]; simp [go_sem], by rw [hW2]; simp [go_sem], by rw [hW2]; intro o; simp [go_sem], hC2.grow hB2, hF2.below hB2, hpl, s2, by rw [hW2]; simp, Nat.le_refl _,
   (ho.rd.rds (fun b h1 h2 => by omega)).below hB2, RdS.nil _ _⟩)
 have q0 := HD0.out.q0
 have q1 := HD0.out.q1
 have hRd := Lib.hid HD0.out.hr.rd
 clear ho hC2 hO2 hF2 hF1 r0 r1 rf hC1
 go_upto_region 4 with fail
 rw [← hW2]
 clear hW2 hB2
 go_wp2_with fail
 refine (areRulesS_b _ _ rs0 (hRd.out.below bwT) R1 H1.out).mono ?_
 rintro e w3 ⟨rfl, hb3⟩
 have HD3 := Lib.hid (HD0.out.step (OffF.below (OffF.refl [p] W2) hb3) (HD0.out.cur.grow hb3))
 clear q0 q1 hRd HD0 hb3
 go_upto_if 19 with fail
 go_cut [3] (fun s3 wx => s3 = .pointer (some ⟨w2.heap.size, 0, none⟩) ∧ ∃ rv' rs', Hid (DB p w.heap.size w2.heap.size w rs' [] rv' (.slice none 0 0) wx) ∧ Hid (areRules rs' = true))
 case first =>
  have q0 := HD3.out.q0
  have q1 := HD3.out.q1
  have fT := HD3.out.fT
  have lT := HD3.out.lT
  cases R1
  ·go_wp2_with fail
   go_meet
   exact ⟨rfl, _, [], Lib.hid HD3.out.set0, Lib.hid rfl⟩
  ·go_wp2_with fail
   go_meet
   exact ⟨rfl, _, rs0, HD3, Lib.hid H1.out.symm⟩
 case rest =>
  obtain ⟨W4, hW4⟩ : ∃ W : World, W = wc := ⟨_, rfl⟩
  subst hW4
  obtain ⟨rfl, rv, rs, HD4, HAR⟩ := hcut
  have hC4 := HD4.out.cur
  clear HD3 H1
  go_wp2_with fail
  refine (l01Below_any _ p (hC4.grow bwT) 20 (by omega) (by omega)).mono ?_
  rintro e w4 ⟨k0, rfl, ⟨hk0, hk1⟩, hC5, hO5⟩
  have HD5 := Lib.hid (HD4.out.step (W' := w4) ((OffF.below (OffF.refl [p] W4) bwT).trans hO5) hC5)
  have HT0 := Lib.hid (term_nil HAR.out)
  have HALL := Lib.hid (rules_all HAR.out)
  obtain ⟨rao, rn, rcap, rfl, hrn, -⟩ := HD5.out.hr.rd.shape
  subst hrn
  clear HD4 hC4 hC5 hO5 HAR
  go_wp2
  go_loopw [4, 5, 6] (fun s4 _ _ wr => ∃ (k : Int) (es : List Ent) (ev : Value), (0 ≤ k ∧ k ≤ 19) ∧ s4 = .int .i64 k ∧ Hid (DB p w.heap.size w2.heap.size w rs es (.slice rao rs.length rcap) ev wr) ∧ Hid (isTerm (rs, es) = true)) (fun s4 _ _ _ => (intOf s4).toNat)
  case atStart => exact ⟨k0, [], _, ⟨hk0, by omega⟩, rfl, HD5, HT0⟩
  case round =>
   clear HD5 HT0
   obtain ⟨wb, hwb⟩ : ∃ wm : World, wm = wr := ⟨_, rfl⟩
   subst hwb
   obtain ⟨k, es, ev, ⟨hk, hk19⟩, rfl, HD, HT⟩ := hrel
   obtain ⟨eao, en, ecap, rfl, hen, -⟩ := HD.out.he.rd.shape
   subst hen
   have hes : es.length ≤ 60 := term_short HT.out
   by_cases hlt : 0 < k
   rotate_left
   ·have hL : ¬ (0 : Int) < k := hlt
    have q0 := HD.out.q0
    have q1 := HD.out.q1
    have r0 := HD.out.r0
    have r1 := HD.out.r1
    have rf := HD.out.fR
    have lT := HD.out.lT
    have hRT := HD.out.RT
    have ne1 : ¬ w.heap.size = w2.heap.size := by omega
    have ne2 : ¬ w2.heap.size = w.heap.size := by omega
    have lR : w.heap.size < wb.heap.size := by omega
    have HRD := Lib.hid ((RdS.ret (R := w.heap.size) (u := .slice rao rs.length rcap) (v := .slice eao es.length ecap) (RdS.trm HD.out.hr HD.out.he) (fun b _ hh => hh.2.1)).mono (S' := fun b => b ≠ p ∧ w.heap.size ≤ b) (fun b _ hh => ⟨hh.1, hh.2.2.2⟩))
    go_wp2
    refine bodyPost_ret (v := .agg #[.slice rao rs.length rcap, .slice eao es.length ecap]) (by simp [results, Tryz.results35, go_sem, r0, r1, rf, lR]) rfl ⟨_, _, (rs, es), rfl, HRD.out, HT, HD.out.cur.below ?b1, (HD.out.off.setNew (Nat.le_refl _) _).setNew (Nat.le_refl _) _⟩
    case b1 => exact ((Below.refl (p + 1) wb).setCell (by show p + 1 ≤ w.heap.size; omega) _).setCell (by show p + 1 ≤ w.heap.size; omega) _
   have hCb := HD.out.cur
   go_wp2_with fail
   refine (l3Draw_any _ p (hCb.grow bwT) 3 (by omega)).mono ?_
   rintro e w5 ⟨tv, t, rfl, hot, hkt, hC5, hO5⟩
   have HD5 := Lib.hid (HD.out.step (W' := w5) ((OffF.below (OffF.refl [p] wb) bwT).trans hO5) hC5)
   obtain ⟨-, -, htv⟩ := hot.rd.kin
   obtain ⟨sao, sn, scap, rfl, hsn, -⟩ := htv.shape
   subst hsn
   have HKT := Lib.hid hkt.out.1
   obtain ⟨N, hN⟩ : ∃ N, N = nf rs t := ⟨_, rfl⟩
   have HN := Lib.hid hN
   obtain ⟨wy, hwy⟩ : ∃ W : World, W = (w5.alloc (.cells #[.int .i64 t.1, .slice sao t.2.length scap] 36)).alloc (.cells #[.slice rao rs.length rcap, .slice eao es.length ecap] 25) := ⟨_, rfl⟩
   have hBy : Below w5.heap.size w5 wy := by rw [hwy]; exact bwT
   have hsy : wy.heap.size = w5.heap.size + 2 := by rw [hwy]; simp
   have lT5 := HD5.out.lT
   have hRT := HD5.out.RT
   have hpR := HD5.out.pR
   have t0 := oldc hBy lT5 HD5.out.q0
   have t1 := oldc hBy lT5 HD5.out.q1
   have t2 : wy.cell? ⟨w5.heap.size, 0, none⟩ = some (.int .i64 t.1) := by rw [hwy]; simp [go_sem]
   have t3 : wy.cell? ⟨w5.heap.size, 1, none⟩ = some (.slice sao t.2.length scap) := by rw [hwy]; simp [go_sem]
   have z0 : wy.cell? ⟨w5.heap.size + 1, 0, none⟩ = some (.slice rao rs.length rcap) := by rw [hwy]; simp [go_sem]
   have z1 : wy.cell? ⟨w5.heap.size + 1, 1, none⟩ = some (.slice eao es.length ecap) := by rw [hwy]; simp [go_sem]
   have zf : ∀ o, wy.frozen? ⟨w5.heap.size + 1, o, none⟩ = false := by rw [hwy]; intro o; simp [go_sem]
   obtain ⟨SZ, hSZ⟩ : ∃ S : Nat → Prop, S = fun b => b ≠ p ∧ b ≠ w.heap.size ∧ b ≠ w2.heap.size ∧ w.heap.size ≤ b ∧ b ≠ w5.heap.size + 1 := ⟨_, rfl⟩
   have HSZ := Lib.hid hSZ
   have hSp : ∀ b, SZ b → b ≠ p := fun b hb => by rw [hSZ] at hb; exact hb.1
   have hS2 : ∀ b, wy.heap.size ≤ b → SZ b := fun b hb => by rw [hSZ]; refine ⟨?_, ?_, ?_, ?_, ?_⟩ <;> omega
   have HRV := Lib.hid (show RdS SZ wy [.slice rao rs.length rcap] rs from (HD5.out.hr.mono (fun b hb hh => by rw [hSZ]; exact ⟨hh.1, hh.2.1, hh.2.2.1, hh.2.2.2, by omega⟩)).below hBy)
   have HEV := Lib.hid (show RdS SZ wy [.slice eao es.length ecap] es from (HD5.out.he.mono (fun b hb hh => by rw [hSZ]; exact ⟨hh.1, hh.2.1, hh.2.2.1, hh.2.2.2, by omega⟩)).below hBy)
   have sb5 : wb.heap.size ≤ w5.heap.size := hO5.size
   have lTb := HD.out.lT
   have HTV := Lib.hid (show RdS SZ wy [.int .i64 t.1, .slice sao t.2.length scap] t from ((hot.rd.rds (S := SZ) (fun b h1 h2 => by rw [hSZ]; refine ⟨?_, ?_, ?_, ?_, ?_⟩ <;> omega)).below hBy))
   have hCy : CurOk p wy := HD5.out.cur.grow hBy
   have hpW : p < wy.heap.size := by omega
   have hn1 : w2.heap.size ≠ p := by omega
   have hl1 : w2.heap.size < wy.heap.size := by omega
   have hn2 : w5.heap.size ≠ p := by omega
   have hl2 : w5.heap.size < wy.heap.size := by omega
   have hn3 : w5.heap.size + 1 ≠ p := by omega
   have hl3 : w5.heap.size + 1 < wy.heap.size := by omega
   have nz1 : ¬ w2.heap.size = w5.heap.size + 1 := by omega
   have nz2 : ¬ w5.heap.size + 1 = w2.heap.size := by omega
   have HOy := Lib.hid (show OffF [p] w5 wy from OffF.below (OffF.refl [p] w5) hBy)
   have hkz := sz_lits (ls := kinL) (by decide)
   have HR := Lib.hid (R11.start (S := SZ) (xs := es) (ts := kinL.map txt) (t := t) (s := ByteArray.empty) hCy)
   have hq0 := HD5.out.q0
   have hq1 := HD5.out.q1
   have hfT := HD5.out.fT
   clear hot htv hkt hC5 hO5 hN hSZ hCb hCy HD hsy
   go_upto_region 11 with fail
   rw [← hwy]
   clear hwy hBy hq0 hq1 hfT
   go_cut [43] (fun s43 wx => ∃ (wm : World) (s : ByteArray), wx = wm.setCell ⟨w5.heap.size + 1, 1, none⟩ s43 ∧ OffF [p] wy wm ∧ CurOk p wm ∧ Hid (RdS SZ wm [s43] (es ++ [((N, s) : Ent)])) ∧ Hid (s.size ≤ maxLen))
   case first =>
    refine wp_region_held_drew (S := (fun w' => w'.cell? ⟨w2.heap.size, 0, none⟩ = some (.slice rao rs.length rcap) ∧ w'.cell? ⟨w2.heap.size, 1, none⟩ = some (.slice eao es.length ecap) ∧ w'.cell? ⟨w5.heap.size, 0, none⟩ = some (.int .i64 t.1) ∧ w'.cell? ⟨w5.heap.size, 1, none⟩ = some (.slice sao t.2.length scap))) (by kernel_rfl) ?_ (fun hHeld => ?_)
    ·first | exact trivial | ((try dsimp only); go_keep)
    refine tkA 1 ?_
    try simp only [Act.put, cA, cB, cC]
    refine tkA 4 ?_
    try simp only [Act.put, cA, cB, cC]
    refine tkA 6 ?_
    try simp only [Act.put, cA, cB, cC]
    refine tkA 8 ?_
    try simp only [Act.put, cA, cB, cC]
    refine tkA 2 ?_
    try simp only [Act.put, cA, cB, cC]
    refine tkA 5 ?_
    try simp only [Act.put, cA, cB, cC]
    refine wpAnyH_ready (rs := [0, 9]) (by kernel_rfl) (by simp) ?_
    refine rdR (fun K hK => ?_) ?_
    ·go_simp
     have HR := Lib.hid (HR.out.make hpW hSp)
     obtain ⟨wy, hwy⟩ : ∃ W : World, W = wy.alloc (.cells #[] 43) := ⟨_, rfl⟩
     rw [← hwy] at HR ⊢
     clear hwy
     have hS := And.intro (offq HR.out.off hn1 hl1 t0) (And.intro (offq HR.out.off hn1 hl1 t1) (And.intro (offq HR.out.off hn2 hl2 t2) (offq HR.out.off hn2 hl2 t3)))
     refine hK.out _ _ ?_ (fun hHeld => ?_)
     ·exact kpT
     clear hK K
     try simp only [Act.put, cA, cB, cC]
     refine wpAnyH_ready (rs := [3, 9]) (by kernel_rfl) (by simp) ?_
     refine rdR (fun K hK => ?_) ?_
     ·have HRd := Lib.hid (HR.out.drew hpW hSp)
      first | (refine step_app rfl rfl ?_ ?_ (run_spread_gs slEntry (by show (0 : Nat) < 3; omega) (HR.out.ls _ rfl) (u := .slice eao es.length ecap) (ys := es) (HR.out.old HEV.out hSp) (by unfold maxLen; simp; omega) (by simp; omega) HR.out.size) ?_) | (have HR := HRd; refine step_app rfl rfl ?_ ?_ (run_spread_gs slEntry (by show (0 : Nat) < 3; omega) (HR.out.ls _ rfl) (u := .slice eao es.length ecap) (ys := es) (HR.out.old HEV.out hSp) (by unfold maxLen; simp; omega) (by simp; omega) HR.out.size) ?_)
      ·simp [Act.eval, Act.put]
      ·simp [Act.eval, Act.put]
      clear HRd
      rintro v' wy ⟨hG, hg, hv, hB⟩
      rw [List.nil_append] at hG
      have HR := Lib.hid (HR.out.grow hpW hG hg hv hB)
      clear hG hg hv hB
      have hS := And.intro (offq HR.out.off hn1 hl1 t0) (And.intro (offq HR.out.off hn1 hl1 t1) (And.intro (offq HR.out.off hn2 hl2 t2) (offq HR.out.off hn2 hl2 t3)))
      refine hK.out _ _ ?_ (fun hHeld => ?_)
      ·exact kpT
      clear hK K
      try simp only [Act.put, cA, cB, cC]
      refine wpAnyH_ready (rs := [7, 9]) (by kernel_rfl) (by simp) ?_
      refine rdR (fun K hK => ?_) ?_
      ·go_simp
       refine (nfS_any _ _ _ _ rs t (HR.out.old HRV.out hSp).rd (HR.out.old HTV.out hSp).rd HALL.out HKT.out).mono ?_
       rintro e wy ⟨na, nb, rfl, hon, hbn⟩
       rw [← HN.out] at hon
       obtain ⟨rfl, -, hnb⟩ := hon.rd.kin
       obtain ⟨nao, nn, ncap, rfl, hnn, -⟩ := hnb.shape
       subst hnn
       have HR := Lib.hid (HR.out.norm hpW hSp hS2 rfl hbn hon)
       clear hon hbn hnb
       have hS := And.intro (offq HR.out.off hn1 hl1 t0) (And.intro (offq HR.out.off hn1 hl1 t1) (And.intro (offq HR.out.off hn2 hl2 t2) (offq HR.out.off hn2 hl2 t3)))
       refine hK.out _ _ ?_ (fun hHeld => ?_)
       ·exact kpT
       clear hK K
       try simp only [Act.put, cA, cB, cC]
       refine wpAnyH_ready (rs := [9]) (by kernel_rfl) (by simp) ?_
       refine rdR (fun K hK => ?_) ?_
       ·go_simp
        have HR := Lib.hid (show R11 _ _ _ _ _ _ _ _ (some (.slice (some ⟨wy.heap.size, 0, none⟩) 7 7)) _ _ (wy.alloc (.cells #[Value.string { data := #[102, 97, 116, 104, 101, 114] }, Value.string { data := #[109, 111, 116, 104, 101, 114] }, Value.string { data := #[115, 111, 110] }, Value.string { data := #[97, 117, 110, 116] }, Value.string { data := #[117, 110, 99, 108, 101] }, Value.string { data := #[99, 111, 117, 115, 105, 110] }, Value.string { data := #[107, 105, 110] }] 9)) from HR.out.lit (ts := kinL.map txt) (E := 9) hpW hSp hkz.1 hkz.2)
        obtain ⟨wy, hwy⟩ : ∃ W : World, W = wy.alloc (.cells #[Value.string { data := #[102, 97, 116, 104, 101, 114] }, Value.string { data := #[109, 111, 116, 104, 101, 114] }, Value.string { data := #[115, 111, 110] }, Value.string { data := #[97, 117, 110, 116] }, Value.string { data := #[117, 110, 99, 108, 101] }, Value.string { data := #[99, 111, 117, 115, 105, 110] }, Value.string { data := #[107, 105, 110] }] 9) := ⟨_, rfl⟩
        rw [← hwy] at HR ⊢
        clear hwy
        have hS := And.intro (offq HR.out.off hn1 hl1 t0) (And.intro (offq HR.out.off hn1 hl1 t1) (And.intro (offq HR.out.off hn2 hl2 t2) (offq HR.out.off hn2 hl2 t3)))
        refine hK.out _ _ ?_ (fun hHeld => ?_)
        ·exact kpT
        clear hK K
        try simp only [Act.put, cA, cB, cC]
        refine wpAnyH_ready (rs := [10]) (by kernel_rfl) (by simp) ?_
        refine rdR (fun K hK => ?_) ?_
        ·go_simp
         refine (l01Pick_any _ p HR.out.cur _ (kinL.map txt) ((HR.out.lk _ rfl).zone (fun _ hh => hh.1)) (by decide) (by decide) (.inl hpW) (Nat.le_refl _)).mono ?_
         rintro e wy ⟨s, rfl, hs, hC, hO⟩
         have HR := Lib.hid (HR.out.step hpW hSp hO hC)
         have HSM := Lib.hid (hkz.1 s hs)
         clear hs hC hO
         have hS := And.intro (offq HR.out.off hn1 hl1 t0) (And.intro (offq HR.out.off hn1 hl1 t1) (And.intro (offq HR.out.off hn2 hl2 t2) (offq HR.out.off hn2 hl2 t3)))
         refine hK.out _ _ ?_ (fun hHeld => ?_)
         ·exact kpT
         clear hK K
         try simp only [Act.put, cA, cB, cC]
         refine tkA 11 ?_
         try simp only [Act.put, cA, cB, cC]
         refine wpAnyH_ready (rs := [12]) (by kernel_rfl) (by simp) ?_
         refine rdR (fun K hK => ?_) ?_
         ·go_simp
          have HR := Lib.hid (HR.out.mk1 (s' := s) hpW hSp (E := 43))
          obtain ⟨wy, hwy⟩ : ∃ W : World, W = wy.alloc (.cells #[.int .i64 N.1, .slice nao N.2.length ncap, .string s] 43) := ⟨_, rfl⟩
          rw [← hwy] at HR ⊢
          clear hwy
          have hS := And.intro (offq HR.out.off hn1 hl1 t0) (And.intro (offq HR.out.off hn1 hl1 t1) (And.intro (offq HR.out.off hn2 hl2 t2) (offq HR.out.off hn2 hl2 t3)))
          refine hK.out _ _ ?_ (fun hHeld => ?_)
          ·exact kpT
          clear hK K
          try simp only [Act.put, cA, cB, cC]
          refine wpAnyH_ready (rs := [13]) (by kernel_rfl) (by simp) ?_
          refine rdR (fun K hK => ?_) ?_
          ·have HRd := Lib.hid (HR.out.drew hpW hSp)
           first | (refine step_app rfl rfl ?_ ?_ (run_one_gs (c := 1) slEntry (by show (0 : Nat) < 3; omega) (HR.out.ls _ rfl) (HR.out.ek _ _ rfl rfl).1 ((HR.out.nk _ rfl).ent HSM.out) (by unfold maxLen; omega) (by omega) HR.out.size) ?_) | (have HR := HRd; refine step_app rfl rfl ?_ ?_ (run_one_gs (c := 1) slEntry (by show (0 : Nat) < 3; omega) (HR.out.ls _ rfl) (HR.out.ek _ _ rfl rfl).1 ((HR.out.nk _ rfl).ent HSM.out) (by unfold maxLen; omega) (by omega) HR.out.size) ?_)
           ·simp [Act.eval, Act.put]
           ·simp [Act.eval, Act.put]
           clear HRd
           rintro v' wy ⟨hG, hg, hv, hB⟩
           obtain ⟨zao, zcap, hz⟩ := hG.len
           rw [List.length_append] at hz
           have hz : v' = .slice zao (es.length + 1) zcap := hz
           subst hz
           have HR := Lib.hid (HR.out.grow hpW hG hg hv hB)
           have HZ := Lib.hid ((HR.out.ls _ rfl).rds hS2)
           clear hG hg hv hB
           have hS := And.intro (offq HR.out.off hn1 hl1 t0) (And.intro (offq HR.out.off hn1 hl1 t1) (And.intro (offq HR.out.off hn2 hl2 t2) (offq HR.out.off hn2 hl2 t3)))
           have z1 := offq HR.out.off hn3 hl3 z1
           have zf := offfr HR.out.off hn3 hl3 zf
           have hl3w : w5.heap.size + 1 < wy.heap.size := Nat.lt_of_lt_of_le hl3 HR.out.off.size
           refine hK.out _ _ ?_ (fun hHeld => ?_)
           ·exact kpT
           clear hK K
           try simp only [Act.put, cA, cB, cC]
           refine tkA 14 ?_
           try simp only [Act.put, cA, cB, cC]
           refine wpAnyH_ready (rs := [15]) (by kernel_rfl) (by simp) ?_
           refine rdR (fun K hK => ?_) ?_
           ·go_simp
            refine hK.out _ _ ?_ (fun hHeld => ?_)
            ·exact kpT
            clear hK K
            try simp only [Act.put, cA, cB, cC]
            refine wpAnyH_done (by kernel_rfl) ?_ _
            go_wp2_with fail
            go_meet
            exact ⟨wy, s, rfl, HR.out.off, HR.out.cur, HZ, HSM⟩
           exact AllReadyH.nil
          exact AllReadyH.nil
         exact AllReadyH.nil
        exact AllReadyH.nil
       exact AllReadyH.nil
      refine rdR (fun K hK => ?_) ?_
      ·go_simp
       have HR := Lib.hid (show R11 _ _ _ _ _ _ _ _ (some (.slice (some ⟨wy.heap.size, 0, none⟩) 7 7)) _ _ (wy.alloc (.cells #[Value.string { data := #[102, 97, 116, 104, 101, 114] }, Value.string { data := #[109, 111, 116, 104, 101, 114] }, Value.string { data := #[115, 111, 110] }, Value.string { data := #[97, 117, 110, 116] }, Value.string { data := #[117, 110, 99, 108, 101] }, Value.string { data := #[99, 111, 117, 115, 105, 110] }, Value.string { data := #[107, 105, 110] }] 9)) from HR.out.lit (ts := kinL.map txt) (E := 9) hpW hSp hkz.1 hkz.2)
       obtain ⟨wy, hwy⟩ : ∃ W : World, W = wy.alloc (.cells #[Value.string { data := #[102, 97, 116, 104, 101, 114] }, Value.string { data := #[109, 111, 116, 104, 101, 114] }, Value.string { data := #[115, 111, 110] }, Value.string { data := #[97, 117, 110, 116] }, Value.string { data := #[117, 110, 99, 108, 101] }, Value.string { data := #[99, 111, 117, 115, 105, 110] }, Value.string { data := #[107, 105, 110] }] 9) := ⟨_, rfl⟩
       rw [← hwy] at HR ⊢
       clear hwy
       have hS := And.intro (offq HR.out.off hn1 hl1 t0) (And.intro (offq HR.out.off hn1 hl1 t1) (And.intro (offq HR.out.off hn2 hl2 t2) (offq HR.out.off hn2 hl2 t3)))
       refine hK.out _ _ ?_ (fun hHeld => ?_)
       ·exact kpT
       clear hK K
       try simp only [Act.put, cA, cB, cC]
       refine wpAnyH_ready (rs := [7]) (by kernel_rfl) (by simp) ?_
       refine rdR (fun K hK => ?_) ?_
       ·go_simp
        refine (nfS_any _ _ _ _ rs t (HR.out.old HRV.out hSp).rd (HR.out.old HTV.out hSp).rd HALL.out HKT.out).mono ?_
        rintro e wy ⟨na, nb, rfl, hon, hbn⟩
        rw [← HN.out] at hon
        obtain ⟨rfl, -, hnb⟩ := hon.rd.kin
        obtain ⟨nao, nn, ncap, rfl, hnn, -⟩ := hnb.shape
        subst hnn
        have HR := Lib.hid (HR.out.norm hpW hSp hS2 rfl hbn hon)
        clear hon hbn hnb
        have hS := And.intro (offq HR.out.off hn1 hl1 t0) (And.intro (offq HR.out.off hn1 hl1 t1) (And.intro (offq HR.out.off hn2 hl2 t2) (offq HR.out.off hn2 hl2 t3)))
        refine hK.out _ _ ?_ (fun hHeld => ?_)
        ·exact kpT
        clear hK K
        try simp only [Act.put, cA, cB, cC]
        refine wpAnyH_ready (rs := [10]) (by kernel_rfl) (by simp) ?_
        refine rdR (fun K hK => ?_) ?_
        ·go_simp
         refine (l01Pick_any _ p HR.out.cur _ (kinL.map txt) ((HR.out.lk _ rfl).zone (fun _ hh => hh.1)) (by decide) (by decide) (.inl hpW) (Nat.le_refl _)).mono ?_
         rintro e wy ⟨s, rfl, hs, hC, hO⟩
         have HR := Lib.hid (HR.out.step hpW hSp hO hC)
         have HSM := Lib.hid (hkz.1 s hs)
         clear hs hC hO
         have hS := And.intro (offq HR.out.off hn1 hl1 t0) (And.intro (offq HR.out.off hn1 hl1 t1) (And.intro (offq HR.out.off hn2 hl2 t2) (offq HR.out.off hn2 hl2 t3)))
         refine hK.out _ _ ?_ (fun hHeld => ?_)
         ·exact kpT
         clear hK K
         try simp only [Act.put, cA, cB, cC]
         refine tkA 11 ?_
         try simp only [Act.put, cA, cB, cC]
         refine wpAnyH_ready (rs := [12]) (by kernel_rfl) (by simp) ?_
         refine rdR (fun K hK => ?_) ?_
         ·go_simp
          have HR := Lib.hid (HR.out.mk1 (s' := s) hpW hSp (E := 43))
          obtain ⟨wy, hwy⟩ : ∃ W : World, W = wy.alloc (.cells #[.int .i64 N.1, .slice nao N.2.length ncap, .string s] 43) := ⟨_, rfl⟩
          rw [← hwy] at HR ⊢
          clear hwy
          have hS := And.intro (offq HR.out.off hn1 hl1 t0) (And.intro (offq HR.out.off hn1 hl1 t1) (And.intro (offq HR.out.off hn2 hl2 t2) (offq HR.out.off hn2 hl2 t3)))
          refine hK.out _ _ ?_ (fun hHeld => ?_)
          ·exact kpT
          clear hK K
          try simp only [Act.put, cA, cB, cC]
          refine wpAnyH_ready (rs := [13]) (by kernel_rfl) (by simp) ?_
          refine rdR (fun K hK => ?_) ?_
          ·have HRd := Lib.hid (HR.out.drew hpW hSp)
           first | (refine step_app rfl rfl ?_ ?_ (run_one_gs (c := 1) slEntry (by show (0 : Nat) < 3; omega) (HR.out.ls _ rfl) (HR.out.ek _ _ rfl rfl).1 ((HR.out.nk _ rfl).ent HSM.out) (by unfold maxLen; omega) (by omega) HR.out.size) ?_) | (have HR := HRd; refine step_app rfl rfl ?_ ?_ (run_one_gs (c := 1) slEntry (by show (0 : Nat) < 3; omega) (HR.out.ls _ rfl) (HR.out.ek _ _ rfl rfl).1 ((HR.out.nk _ rfl).ent HSM.out) (by unfold maxLen; omega) (by omega) HR.out.size) ?_)
           ·simp [Act.eval, Act.put]
           ·simp [Act.eval, Act.put]
           clear HRd
           rintro v' wy ⟨hG, hg, hv, hB⟩
           obtain ⟨zao, zcap, hz⟩ := hG.len
           rw [List.length_append] at hz
           have hz : v' = .slice zao (es.length + 1) zcap := hz
           subst hz
           have HR := Lib.hid (HR.out.grow hpW hG hg hv hB)
           have HZ := Lib.hid ((HR.out.ls _ rfl).rds hS2)
           clear hG hg hv hB
           have hS := And.intro (offq HR.out.off hn1 hl1 t0) (And.intro (offq HR.out.off hn1 hl1 t1) (And.intro (offq HR.out.off hn2 hl2 t2) (offq HR.out.off hn2 hl2 t3)))
           have z1 := offq HR.out.off hn3 hl3 z1
           have zf := offfr HR.out.off hn3 hl3 zf
           have hl3w : w5.heap.size + 1 < wy.heap.size := Nat.lt_of_lt_of_le hl3 HR.out.off.size
           refine hK.out _ _ ?_ (fun hHeld => ?_)
           ·exact kpT
           clear hK K
           try simp only [Act.put, cA, cB, cC]
           refine tkA 14 ?_
           try simp only [Act.put, cA, cB, cC]
           refine wpAnyH_ready (rs := [15]) (by kernel_rfl) (by simp) ?_
           refine rdR (fun K hK => ?_) ?_
           ·go_simp
            refine hK.out _ _ ?_ (fun hHeld => ?_)
            ·exact kpT
            clear hK K
            try simp only [Act.put, cA, cB, cC]
            refine wpAnyH_done (by kernel_rfl) ?_ _
            go_wp2_with fail
            go_meet
            exact ⟨wy, s, rfl, HR.out.off, HR.out.cur, HZ, HSM⟩
           exact AllReadyH.nil
          exact AllReadyH.nil
         exact AllReadyH.nil
        exact AllReadyH.nil
       exact AllReadyH.nil
      exact AllReadyH.nil
     refine rdR (fun K hK => ?_) ?_
     ·go_simp
      have HR := Lib.hid (show R11 _ _ _ _ _ _ _ _ (some (.slice (some ⟨wy.heap.size, 0, none⟩) 7 7)) _ _ (wy.alloc (.cells #[Value.string { data := #[102, 97, 116, 104, 101, 114] }, Value.string { data := #[109, 111, 116, 104, 101, 114] }, Value.string { data := #[115, 111, 110] }, Value.string { data := #[97, 117, 110, 116] }, Value.string { data := #[117, 110, 99, 108, 101] }, Value.string { data := #[99, 111, 117, 115, 105, 110] }, Value.string { data := #[107, 105, 110] }] 9)) from HR.out.lit (ts := kinL.map txt) (E := 9) hpW hSp hkz.1 hkz.2)
      obtain ⟨wy, hwy⟩ : ∃ W : World, W = wy.alloc (.cells #[Value.string { data := #[102, 97, 116, 104, 101, 114] }, Value.string { data := #[109, 111, 116, 104, 101, 114] }, Value.string { data := #[115, 111, 110] }, Value.string { data := #[97, 117, 110, 116] }, Value.string { data := #[117, 110, 99, 108, 101] }, Value.string { data := #[99, 111, 117, 115, 105, 110] }, Value.string { data := #[107, 105, 110] }] 9) := ⟨_, rfl⟩
      rw [← hwy] at HR ⊢
      clear hwy
      have hS := And.intro (offq HR.out.off hn1 hl1 t0) (And.intro (offq HR.out.off hn1 hl1 t1) (And.intro (offq HR.out.off hn2 hl2 t2) (offq HR.out.off hn2 hl2 t3)))
      refine hK.out _ _ ?_ (fun hHeld => ?_)
      ·exact kpT
      clear hK K
      try simp only [Act.put, cA, cB, cC]
      refine wpAnyH_ready (rs := [3]) (by kernel_rfl) (by simp) ?_
      refine rdR (fun K hK => ?_) ?_
      ·have HRd := Lib.hid (HR.out.drew hpW hSp)
       first | (refine step_app rfl rfl ?_ ?_ (run_spread_gs slEntry (by show (0 : Nat) < 3; omega) (HR.out.ls _ rfl) (u := .slice eao es.length ecap) (ys := es) (HR.out.old HEV.out hSp) (by unfold maxLen; simp; omega) (by simp; omega) HR.out.size) ?_) | (have HR := HRd; refine step_app rfl rfl ?_ ?_ (run_spread_gs slEntry (by show (0 : Nat) < 3; omega) (HR.out.ls _ rfl) (u := .slice eao es.length ecap) (ys := es) (HR.out.old HEV.out hSp) (by unfold maxLen; simp; omega) (by simp; omega) HR.out.size) ?_)
       ·simp [Act.eval, Act.put]
       ·simp [Act.eval, Act.put]
       clear HRd
       rintro v' wy ⟨hG, hg, hv, hB⟩
       rw [List.nil_append] at hG
       have HR := Lib.hid (HR.out.grow hpW hG hg hv hB)
       clear hG hg hv hB
       have hS := And.intro (offq HR.out.off hn1 hl1 t0) (And.intro (offq HR.out.off hn1 hl1 t1) (And.intro (offq HR.out.off hn2 hl2 t2) (offq HR.out.off hn2 hl2 t3)))
       refine hK.out _ _ ?_ (fun hHeld => ?_)
       ·exact kpT
       clear hK K
       try simp only [Act.put, cA, cB, cC]
       refine wpAnyH_ready (rs := [7]) (by kernel_rfl) (by simp) ?_
       refine rdR (fun K hK => ?_) ?_
       ·go_simp
        refine (nfS_any _ _ _ _ rs t (HR.out.old HRV.out hSp).rd (HR.out.old HTV.out hSp).rd HALL.out HKT.out).mono ?_
        rintro e wy ⟨na, nb, rfl, hon, hbn⟩
        rw [← HN.out] at hon
        obtain ⟨rfl, -, hnb⟩ := hon.rd.kin
        obtain ⟨nao, nn, ncap, rfl, hnn, -⟩ := hnb.shape
        subst hnn
        have HR := Lib.hid (HR.out.norm hpW hSp hS2 rfl hbn hon)
        clear hon hbn hnb
        have hS := And.intro (offq HR.out.off hn1 hl1 t0) (And.intro (offq HR.out.off hn1 hl1 t1) (And.intro (offq HR.out.off hn2 hl2 t2) (offq HR.out.off hn2 hl2 t3)))
        refine hK.out _ _ ?_ (fun hHeld => ?_)
        ·exact kpT
        clear hK K
        try simp only [Act.put, cA, cB, cC]
        refine wpAnyH_ready (rs := [10]) (by kernel_rfl) (by simp) ?_
        refine rdR (fun K hK => ?_) ?_
        ·go_simp
         refine (l01Pick_any _ p HR.out.cur _ (kinL.map txt) ((HR.out.lk _ rfl).zone (fun _ hh => hh.1)) (by decide) (by decide) (.inl hpW) (Nat.le_refl _)).mono ?_
         rintro e wy ⟨s, rfl, hs, hC, hO⟩
         have HR := Lib.hid (HR.out.step hpW hSp hO hC)
         have HSM := Lib.hid (hkz.1 s hs)
         clear hs hC hO
         have hS := And.intro (offq HR.out.off hn1 hl1 t0) (And.intro (offq HR.out.off hn1 hl1 t1) (And.intro (offq HR.out.off hn2 hl2 t2) (offq HR.out.off hn2 hl2 t3)))
         refine hK.out _ _ ?_ (fun hHeld => ?_)
         ·exact kpT
         clear hK K
         try simp only [Act.put, cA, cB, cC]
         refine tkA 11 ?_
         try simp only [Act.put, cA, cB, cC]
         refine wpAnyH_ready (rs := [12]) (by kernel_rfl) (by simp) ?_
         refine rdR (fun K hK => ?_) ?_
         ·go_simp
          have HR := Lib.hid (HR.out.mk1 (s' := s) hpW hSp (E := 43))
          obtain ⟨wy, hwy⟩ : ∃ W : World, W = wy.alloc (.cells #[.int .i64 N.1, .slice nao N.2.length ncap, .string s] 43) := ⟨_, rfl⟩
          rw [← hwy] at HR ⊢
          clear hwy
          have hS := And.intro (offq HR.out.off hn1 hl1 t0) (And.intro (offq HR.out.off hn1 hl1 t1) (And.intro (offq HR.out.off hn2 hl2 t2) (offq HR.out.off hn2 hl2 t3)))
          refine hK.out _ _ ?_ (fun hHeld => ?_)
          ·exact kpT
          clear hK K
          try simp only [Act.put, cA, cB, cC]
          refine wpAnyH_ready (rs := [13]) (by kernel_rfl) (by simp) ?_
          refine rdR (fun K hK => ?_) ?_
          ·have HRd := Lib.hid (HR.out.drew hpW hSp)
           first | (refine step_app rfl rfl ?_ ?_ (run_one_gs (c := 1) slEntry (by show (0 : Nat) < 3; omega) (HR.out.ls _ rfl) (HR.out.ek _ _ rfl rfl).1 ((HR.out.nk _ rfl).ent HSM.out) (by unfold maxLen; omega) (by omega) HR.out.size) ?_) | (have HR := HRd; refine step_app rfl rfl ?_ ?_ (run_one_gs (c := 1) slEntry (by show (0 : Nat) < 3; omega) (HR.out.ls _ rfl) (HR.out.ek _ _ rfl rfl).1 ((HR.out.nk _ rfl).ent HSM.out) (by unfold maxLen; omega) (by omega) HR.out.size) ?_)
           ·simp [Act.eval, Act.put]
           ·simp [Act.eval, Act.put]
           clear HRd
           rintro v' wy ⟨hG, hg, hv, hB⟩
           obtain ⟨zao, zcap, hz⟩ := hG.len
           rw [List.length_append] at hz
           have hz : v' = .slice zao (es.length + 1) zcap := hz
           subst hz
           have HR := Lib.hid (HR.out.grow hpW hG hg hv hB)
           have HZ := Lib.hid ((HR.out.ls _ rfl).rds hS2)
           clear hG hg hv hB
           have hS := And.intro (offq HR.out.off hn1 hl1 t0) (And.intro (offq HR.out.off hn1 hl1 t1) (And.intro (offq HR.out.off hn2 hl2 t2) (offq HR.out.off hn2 hl2 t3)))
           have z1 := offq HR.out.off hn3 hl3 z1
           have zf := offfr HR.out.off hn3 hl3 zf
           have hl3w : w5.heap.size + 1 < wy.heap.size := Nat.lt_of_lt_of_le hl3 HR.out.off.size
           refine hK.out _ _ ?_ (fun hHeld => ?_)
           ·exact kpT
           clear hK K
           try simp only [Act.put, cA, cB, cC]
           refine tkA 14 ?_
           try simp only [Act.put, cA, cB, cC]
           refine wpAnyH_ready (rs := [15]) (by kernel_rfl) (by simp) ?_
           refine rdR (fun K hK => ?_) ?_
           ·go_simp
            refine hK.out _ _ ?_ (fun hHeld => ?_)
            ·exact kpT
            clear hK K
            try simp only [Act.put, cA, cB, cC]
            refine wpAnyH_done (by kernel_rfl) ?_ _
            go_wp2_with fail
            go_meet
            exact ⟨wy, s, rfl, HR.out.off, HR.out.cur, HZ, HSM⟩
           exact AllReadyH.nil
          exact AllReadyH.nil
         exact AllReadyH.nil
        exact AllReadyH.nil
       exact AllReadyH.nil
      exact AllReadyH.nil
     exact AllReadyH.nil
    refine rdR (fun K hK => ?_) ?_
    ·go_simp
     have HR := Lib.hid (show R11 _ _ _ _ _ _ _ _ (some (.slice (some ⟨wy.heap.size, 0, none⟩) 7 7)) _ _ (wy.alloc (.cells #[Value.string { data := #[102, 97, 116, 104, 101, 114] }, Value.string { data := #[109, 111, 116, 104, 101, 114] }, Value.string { data := #[115, 111, 110] }, Value.string { data := #[97, 117, 110, 116] }, Value.string { data := #[117, 110, 99, 108, 101] }, Value.string { data := #[99, 111, 117, 115, 105, 110] }, Value.string { data := #[107, 105, 110] }] 9)) from HR.out.lit (ts := kinL.map txt) (E := 9) hpW hSp hkz.1 hkz.2)
     obtain ⟨wy, hwy⟩ : ∃ W : World, W = wy.alloc (.cells #[Value.string { data := #[102, 97, 116, 104, 101, 114] }, Value.string { data := #[109, 111, 116, 104, 101, 114] }, Value.string { data := #[115, 111, 110] }, Value.string { data := #[97, 117, 110, 116] }, Value.string { data := #[117, 110, 99, 108, 101] }, Value.string { data := #[99, 111, 117, 115, 105, 110] }, Value.string { data := #[107, 105, 110] }] 9) := ⟨_, rfl⟩
     rw [← hwy] at HR ⊢
     clear hwy
     have hS := And.intro (offq HR.out.off hn1 hl1 t0) (And.intro (offq HR.out.off hn1 hl1 t1) (And.intro (offq HR.out.off hn2 hl2 t2) (offq HR.out.off hn2 hl2 t3)))
     refine hK.out _ _ ?_ (fun hHeld => ?_)
     ·exact kpT
     clear hK K
     try simp only [Act.put, cA, cB, cC]
     refine wpAnyH_ready (rs := [0]) (by kernel_rfl) (by simp) ?_
     refine rdR (fun K hK => ?_) ?_
     ·go_simp
      have HR := Lib.hid (HR.out.make hpW hSp)
      obtain ⟨wy, hwy⟩ : ∃ W : World, W = wy.alloc (.cells #[] 43) := ⟨_, rfl⟩
      rw [← hwy] at HR ⊢
      clear hwy
      have hS := And.intro (offq HR.out.off hn1 hl1 t0) (And.intro (offq HR.out.off hn1 hl1 t1) (And.intro (offq HR.out.off hn2 hl2 t2) (offq HR.out.off hn2 hl2 t3)))
      refine hK.out _ _ ?_ (fun hHeld => ?_)
      ·exact kpT
      clear hK K
      try simp only [Act.put, cA, cB, cC]
      refine wpAnyH_ready (rs := [3]) (by kernel_rfl) (by simp) ?_
      refine rdR (fun K hK => ?_) ?_
      ·have HRd := Lib.hid (HR.out.drew hpW hSp)
       first | (refine step_app rfl rfl ?_ ?_ (run_spread_gs slEntry (by show (0 : Nat) < 3; omega) (HR.out.ls _ rfl) (u := .slice eao es.length ecap) (ys := es) (HR.out.old HEV.out hSp) (by unfold maxLen; simp; omega) (by simp; omega) HR.out.size) ?_) | (have HR := HRd; refine step_app rfl rfl ?_ ?_ (run_spread_gs slEntry (by show (0 : Nat) < 3; omega) (HR.out.ls _ rfl) (u := .slice eao es.length ecap) (ys := es) (HR.out.old HEV.out hSp) (by unfold maxLen; simp; omega) (by simp; omega) HR.out.size) ?_)
       ·simp [Act.eval, Act.put]
       ·simp [Act.eval, Act.put]
       clear HRd
       rintro v' wy ⟨hG, hg, hv, hB⟩
       rw [List.nil_append] at hG
       have HR := Lib.hid (HR.out.grow hpW hG hg hv hB)
       clear hG hg hv hB
       have hS := And.intro (offq HR.out.off hn1 hl1 t0) (And.intro (offq HR.out.off hn1 hl1 t1) (And.intro (offq HR.out.off hn2 hl2 t2) (offq HR.out.off hn2 hl2 t3)))
       refine hK.out _ _ ?_ (fun hHeld => ?_)
       ·exact kpT
       clear hK K
       try simp only [Act.put, cA, cB, cC]
       refine wpAnyH_ready (rs := [7]) (by kernel_rfl) (by simp) ?_
       refine rdR (fun K hK => ?_) ?_
       ·go_simp
        refine (nfS_any _ _ _ _ rs t (HR.out.old HRV.out hSp).rd (HR.out.old HTV.out hSp).rd HALL.out HKT.out).mono ?_
        rintro e wy ⟨na, nb, rfl, hon, hbn⟩
        rw [← HN.out] at hon
        obtain ⟨rfl, -, hnb⟩ := hon.rd.kin
        obtain ⟨nao, nn, ncap, rfl, hnn, -⟩ := hnb.shape
        subst hnn
        have HR := Lib.hid (HR.out.norm hpW hSp hS2 rfl hbn hon)
        clear hon hbn hnb
        have hS := And.intro (offq HR.out.off hn1 hl1 t0) (And.intro (offq HR.out.off hn1 hl1 t1) (And.intro (offq HR.out.off hn2 hl2 t2) (offq HR.out.off hn2 hl2 t3)))
        refine hK.out _ _ ?_ (fun hHeld => ?_)
        ·exact kpT
        clear hK K
        try simp only [Act.put, cA, cB, cC]
        refine wpAnyH_ready (rs := [10]) (by kernel_rfl) (by simp) ?_
        refine rdR (fun K hK => ?_) ?_
        ·go_simp
         refine (l01Pick_any _ p HR.out.cur _ (kinL.map txt) ((HR.out.lk _ rfl).zone (fun _ hh => hh.1)) (by decide) (by decide) (.inl hpW) (Nat.le_refl _)).mono ?_
         rintro e wy ⟨s, rfl, hs, hC, hO⟩
         have HR := Lib.hid (HR.out.step hpW hSp hO hC)
         have HSM := Lib.hid (hkz.1 s hs)
         clear hs hC hO
         have hS := And.intro (offq HR.out.off hn1 hl1 t0) (And.intro (offq HR.out.off hn1 hl1 t1) (And.intro (offq HR.out.off hn2 hl2 t2) (offq HR.out.off hn2 hl2 t3)))
         refine hK.out _ _ ?_ (fun hHeld => ?_)
         ·exact kpT
         clear hK K
         try simp only [Act.put, cA, cB, cC]
         refine tkA 11 ?_
         try simp only [Act.put, cA, cB, cC]
         refine wpAnyH_ready (rs := [12]) (by kernel_rfl) (by simp) ?_
         refine rdR (fun K hK => ?_) ?_
         ·go_simp
          have HR := Lib.hid (HR.out.mk1 (s' := s) hpW hSp (E := 43))
          obtain ⟨wy, hwy⟩ : ∃ W : World, W = wy.alloc (.cells #[.int .i64 N.1, .slice nao N.2.length ncap, .string s] 43) := ⟨_, rfl⟩
          rw [← hwy] at HR ⊢
          clear hwy
          have hS := And.intro (offq HR.out.off hn1 hl1 t0) (And.intro (offq HR.out.off hn1 hl1 t1) (And.intro (offq HR.out.off hn2 hl2 t2) (offq HR.out.off hn2 hl2 t3)))
          refine hK.out _ _ ?_ (fun hHeld => ?_)
          ·exact kpT
          clear hK K
          try simp only [Act.put, cA, cB, cC]
          refine wpAnyH_ready (rs := [13]) (by kernel_rfl) (by simp) ?_
          refine rdR (fun K hK => ?_) ?_
          ·have HRd := Lib.hid (HR.out.drew hpW hSp)
           first | (refine step_app rfl rfl ?_ ?_ (run_one_gs (c := 1) slEntry (by show (0 : Nat) < 3; omega) (HR.out.ls _ rfl) (HR.out.ek _ _ rfl rfl).1 ((HR.out.nk _ rfl).ent HSM.out) (by unfold maxLen; omega) (by omega) HR.out.size) ?_) | (have HR := HRd; refine step_app rfl rfl ?_ ?_ (run_one_gs (c := 1) slEntry (by show (0 : Nat) < 3; omega) (HR.out.ls _ rfl) (HR.out.ek _ _ rfl rfl).1 ((HR.out.nk _ rfl).ent HSM.out) (by unfold maxLen; omega) (by omega) HR.out.size) ?_)
           ·simp [Act.eval, Act.put]
           ·simp [Act.eval, Act.put]
           clear HRd
           rintro v' wy ⟨hG, hg, hv, hB⟩
           obtain ⟨zao, zcap, hz⟩ := hG.len
           rw [List.length_append] at hz
           have hz : v' = .slice zao (es.length + 1) zcap := hz
           subst hz
           have HR := Lib.hid (HR.out.grow hpW hG hg hv hB)
           have HZ := Lib.hid ((HR.out.ls _ rfl).rds hS2)
           clear hG hg hv hB
           have hS := And.intro (offq HR.out.off hn1 hl1 t0) (And.intro (offq HR.out.off hn1 hl1 t1) (And.intro (offq HR.out.off hn2 hl2 t2) (offq HR.out.off hn2 hl2 t3)))
           have z1 := offq HR.out.off hn3 hl3 z1
           have zf := offfr HR.out.off hn3 hl3 zf
           have hl3w : w5.heap.size + 1 < wy.heap.size := Nat.lt_of_lt_of_le hl3 HR.out.off.size
           refine hK.out _ _ ?_ (fun hHeld => ?_)
           ·exact kpT
           clear hK K
           try simp only [Act.put, cA, cB, cC]
           refine tkA 14 ?_
           try simp only [Act.put, cA, cB, cC]
           refine wpAnyH_ready (rs := [15]) (by kernel_rfl) (by simp) ?_
           refine rdR (fun K hK => ?_) ?_
           ·go_simp
            refine hK.out _ _ ?_ (fun hHeld => ?_)
            ·exact kpT
            clear hK K
            try simp only [Act.put, cA, cB, cC]
            refine wpAnyH_done (by kernel_rfl) ?_ _
            go_wp2_with fail
            go_meet
            exact ⟨wy, s, rfl, HR.out.off, HR.out.cur, HZ, HSM⟩
           exact AllReadyH.nil
          exact AllReadyH.nil
         exact AllReadyH.nil
        exact AllReadyH.nil
       exact AllReadyH.nil
      exact AllReadyH.nil
     exact AllReadyH.nil
    exact AllReadyH.nil
   case rest =>
    obtain ⟨WX, hWX⟩ : ∃ W : World, W = wc := ⟨_, rfl⟩
    subst hWX
    obtain ⟨wm, s, hwc, hOm, hCm, HZ, HSM⟩ := hcut
    obtain ⟨zao, zn, zcap, rfl, hzn, -⟩ := HZ.out.rd.shape
    rw [List.length_append] at hzn
    have hzn : es.length + 1 = zn := hzn
    subst hzn
    have sm := hOm.size
    have lX : w5.heap.size + 1 < WX.heap.size := by rw [hwc]; simp; omega
    have zz0 : WX.cell? ⟨w5.heap.size + 1, 0, none⟩ = some (.slice rao rs.length rcap) := by
     rw [hwc, cell_setCell _ _ _ _ _ _ (offq hOm hn3 hl3 z0)]; simp
    have zz1 : WX.cell? ⟨w5.heap.size + 1, 1, none⟩ = some (.slice zao (es.length + 1) zcap) := by
     rw [hwc, cell_setCell _ _ _ _ _ _ (offq hOm hn3 hl3 z1)]; simp
    have HDX := Lib.hid (show DB p w.heap.size w2.heap.size w rs es (.slice rao rs.length rcap) (.slice eao es.length ecap) WX by
     rw [hwc]
     exact HD5.out.step ((HOy.out.trans hOm).setNew (Nat.le_succ _) _) (hCm.below ((Below.refl (p + 1) wm).setCell (by show p + 1 ≤ w5.heap.size + 1; omega) _)))
    have HZX := Lib.hid (show RdS SZ WX [.slice zao (es.length + 1) zcap] (es ++ [((N, s) : Ent)]) by
     rw [hwc]
     exact HZ.out.keep fun b _ hb => Below.heap_setCell _ _ _ _ (by rw [HSZ.out] at hb; simpa using hb.2.2.2.2))
    have HZX := Lib.hid (HZX.out.mono (S' := fun b => b ≠ p ∧ b ≠ w.heap.size ∧ b ≠ w2.heap.size ∧ w.heap.size ≤ b) (fun b _ hb => by rw [HSZ.out] at hb; exact ⟨hb.1, hb.2.1, hb.2.2.1, hb.2.2.2.1⟩))
    have HYR := Lib.hid (RdS.trm HDX.out.hr HZX.out).rd
    clear hwc hOm hCm HZ HSM z0 z1 zf t0 t1 t2 t3 HRV HEV HTV HR HD5 HOy sm hSp hS2 sb5 lTb
    obtain ⟨R2, hlet_R2⟩ : ∃ r, r = isTerm (rs, es ++ [((N, s) : Ent)]) := ⟨_, rfl⟩
    have H2 := Lib.hid hlet_R2
    clear hlet_R2
    go_wp2_with fail
    refine (isTermS_b _ _ _ rs _ (HYR.out.below bwT) R2 H2.out).mono ?_
    rintro e w9 ⟨rfl, hb9⟩
    have HD9 := Lib.hid (HDX.out.step (OffF.below (OffF.refl [p] WX) hb9) (HDX.out.cur.grow hb9))
    have HZ9 := Lib.hid (HZX.out.below hb9)
    have zz0 := oldc hb9 lX zz0
    have zz1 := oldc hb9 lX zz1
    have q0 := HD9.out.q0
    have q1 := HD9.out.q1
    have fT := HD9.out.fT
    have lT9 := HD9.out.lT
    clear hb9 HDX HZX HYR
    cases R2
    ·go_wp2
     go_roundw
     case rel => exact ⟨k - 1, es, _, ⟨by omega, by omega⟩, by first | rfl | go_num, HD9, HT⟩
     case measure => simp [intOf]; omega
    ·go_wp2
     go_roundw
     case rel => exact ⟨k - 1, _, _, ⟨by omega, by omega⟩, by first | rfl | go_num, Lib.hid (HD9.out.upd HZ9.out), Lib.hid H2.out.symm⟩
     case measure => simp [intOf]; omega
def PostMTr (w : World) (e : Ending) (w' : World) : Prop := ∃ (a b : Value) (y : Trm), e = .returned (.agg #[a, b]) ∧ Rd false 0 w'.heap.size w' [a, b] y ∧ Hid (isTerm y = true) ∧ Below w.heap.size w w'
set_option maxHeartbeats 4000000 in
theorem makeTerms_any {z : Bool} {lo hi : Nat} (w : World) (v : Value) (code : List UInt8) (h : Rd z lo hi w [v] code) (hl : code.length ≤ 1048576) :
  Calls Tryz.prog 10 #[v] w (PostMTr w) := by
 go_enter Tryz.func10, Tryz.ntmps10
 go_wp2_with fail
 refine (l01New_any _ _ code (h.below bwT) hl).mono ?_
 rintro e w1 ⟨p, rfl, hp, hC, hb1⟩
 have s1 : w.heap.size < w1.heap.size := by have := hb1.size; simp at this; omega
 have hr1 : Below w.heap.size w w1 := Below.after bwT hb1 szT
 have r0 : w1.cell? ⟨w.heap.size, 0, none⟩ = some (.slice none 0 0) := oldc hb1 (by simp) (by simp [go_sem])
 have r1 : w1.cell? ⟨w.heap.size, 1, none⟩ = some (.slice none 0 0) := oldc hb1 (by simp) (by simp [go_sem])
 have rf : ∀ o, w1.frozen? ⟨w.heap.size, o, none⟩ = false := fun o => (hb1.frozen (p := ⟨w.heap.size, o, none⟩) (by simp)).trans (by simp [go_sem])
 have hpn : w.heap.size < p := by simp at hp; omega
 clear h hb1
 go_wp2_with fail
 refine (l5Draw_any _ p hC).mono ?_
 rintro e w2 ⟨va, vb, y, rfl, hr, hT, -, hF⟩
 have hB2 : Below w.heap.size w w2 := hr1.trans (hF.toBelow (by omega) (fun b hb => by simp at hb; omega))
 have r0 : w2.cell? ⟨w.heap.size, 0, none⟩ = some (.slice none 0 0) := offq hF (by omega) s1 r0
 have r1 : w2.cell? ⟨w.heap.size, 1, none⟩ = some (.slice none 0 0) := offq hF (by omega) s1 r1
 have rf : ∀ o, w2.frozen? ⟨w.heap.size, o, none⟩ = false := offfr hF (by omega) s1 rf
 have s2 : w.heap.size < w2.heap.size := Nat.lt_of_lt_of_le s1 hF.size
 obtain ⟨ao, n, cap, bo, m, dap, rfl, rfl⟩ := shapeTrm hr.rd
 have HRD := Lib.hid (RdS.ret (R := w.heap.size) (u := .slice ao n cap) (v := .slice bo m dap) hr (fun b _ hh => by omega)).rd
 have HB := Lib.hid hB2
 clear hr hF hB2 hr1 hC
 go_wp2
 refine bodyPost_ret (v := .agg #[.slice ao n cap, .slice bo m dap]) (by simp [results, Tryz.results10, go_sem, r0, r1, rf, s2]) rfl ⟨_, _, y, rfl, HRD.out, hT, (HB.out.setCell (Nat.le_refl _) _).setCell (Nat.le_refl _) _⟩
end
section
section
variable {α : Type} [Rep α] {S : Nat → Prop} {K : Nat} {w w' : World} {E : TypeId} {v : Value} {xs : List α}
theorem GE.mono {S' : Nat → Prop} (h : GE S K w E v xs) (k : ∀ b, S b → S' b) : GE S' K w E v xs := by
 obtain ⟨css, fps, ho, hz, hl⟩ := h
 exact ⟨css, fps, ho, hz, fun b hb => ⟨k b (hl b hb).1, (hl b hb).2⟩⟩
theorem GE.rd (h : GE S K w E v xs) : Rd false 0 w.heap.size w [v] xs := ((h.mono (S' := fun _ => True) fun _ _ => trivial).rds fun _ _ => trivial).rd
theorem GE.nil (S : Nat → Prop) (K : Nat) (w : World) (E : TypeId) : GE (α := α) S K w E (.slice none 0 0) [] :=
 ⟨[], [], by simpa using World.ownsRow_nil w K E (Rep.sz α), trivial, by simp⟩
end
theorem RdS.ent2 {S : Nat → Prop} {w : World} {te : Int} {v : Value} {tl : List Stp} {tm : ByteArray} (h : RdS S w [v] tl) (hI : I64 te) (hm : tm.size ≤ maxLen) : RdS S w [.int .i64 te, v, .string tm] (((te, tl), tm) : Ent) := by
 obtain ⟨fp, hr, hz⟩ := h
 exact ⟨fp, dEnt_mk hI hm hr, hz⟩
structure XB (K : Nat) (w0 : World) (rv xv : Value) (es : List Ent) (W : World) : Prop where
 q0 : W.cell? ⟨K, 0, none⟩ = some rv
 q1 : W.cell? ⟨K, 1, none⟩ = some xv
 fr : ∀ o, W.frozen? ⟨K, o, none⟩ = false
 lt : K < W.heap.size
 ge : GE (fun b => b < K) (K + 1) W 43 xv es
 below : Below K w0 W
theorem XB.push {K : Nat} {w0 : World} {rv xv : Value} {es zs : List Ent} {W wa w' : World} {v' : Value} (h : XB K w0 rv xv es W) (hwa : Below W.heap.size W wa) (hG : GE (fun b => b < K) (K + 1) w' 43 v' zs) (hB : Below (K + 1) wa w') : XB K w0 rv v' zs (w'.setCell ⟨K, 1, none⟩ v') := by
 have q0 := oldc hB (Nat.lt_succ_self K) (oldc hwa h.lt h.q0)
 have q1 := oldc hB (Nat.lt_succ_self K) (oldc hwa h.lt h.q1)
 have hs := hwa.size
 have hs2 := hB.size
 have hl := h.lt
 refine ⟨?_, ?_, fun o => frozen_setCell _ _ _ _ _ ((hB.frozen (p := ⟨K, o, none⟩) (Nat.lt_succ_self K)).trans ((hwa.frozen (p := ⟨K, o, none⟩) hl).trans (h.fr o))), by simp; omega, hG.keep fun b hb hh => Below.heap_setCell _ _ _ _ ?_, ((h.below.trans (hwa.mono (by omega))).trans (hB.mono (Nat.le_succ K))).setCell (Nat.le_refl _) _⟩
 ·rw [cell_setCell _ _ _ _ _ _ q0]; simp
 ·rw [cell_setCell _ _ _ _ _ _ q1]; simp
 ·show b ≠ K
  rcases hh with hh | hh
  ·omega
  ·have := (hG.own hh).1; omega
theorem ren_snoc {es : List Ent} {i : Nat} {e : Ent} (h : es[i]? = some e) : renE (es.take (i + 1)) = renE (es.take i) ++ [(e.1, qT e.2)] := by
 unfold renE
 rw [take_snoc h, List.map_append]; rfl
theorem run_one_h {P : Program} {α : Type} [Rep α] {S : Nat → Prop} {K : Nat} {w : World} {E : TypeId} {v : Value} {xs : List α} {t ty : TypeId} {z0 : Value} {bytes : Nat} (hT : SlTy P t E z0 (Rep.sz α) bytes) (hsz : 0 < Rep.sz α) (hG : GE S K w E v xs) {g c : Nat} {cs : List Value} {y : α} (hcells : ∀ j u, cs[j]? = some u → w.cell? ⟨g, j, none⟩ = some u)
  (hy : RdS (fun b => S b ∧ some b ≠ v.ownBlock) w cs y) (h63 : xs.length + 1 ≤ maxLen) (hbytes : (xs.length + 1) * bytes ≤ 140737488355328) (hlo : K ≤ w.heap.size) :
  ∃ v' w', (Builtin.append_ #[t, t] ty #[v, .slice (some ⟨g, 0, none⟩) 1 c]).run P w = .ok v' w' ∧ Hid (GE S K w' E v' (xs ++ [y]) ∧ Below K w w') := by
 obtain ⟨v', w', h1, h2, -, -, h3⟩ := run_one_gs (ty := ty) (c := c) hT hsz hG hcells hy h63 hbytes hlo
 exact ⟨v', w', h1, Lib.hid ⟨h2, h3⟩⟩
theorem wpList_app {P : Program} {w : World} {v : Value} {ops : Array Oper} {rest : List Oper} {o : Oper} {a : Act} {Q : Exit → Act → World → Prop} (hgd : o.guard = none) {s x : Operand} {t : TypeId}
  (ho : o.op = .call { callee := .builtin .append, args := #[s, x], argTypes := #[t, t] }) {R : Value → World → Prop} {u : Value} (hs : a.eval s = v) (hx : a.eval x = u)
  (hrun : ∃ v' w', (Builtin.append_ #[t, t] o.type #[v, u]).run P w = .ok v' w' ∧ R v' w')
  (h : ∀ v' w', R v' w' → wpList P ops Q rest (a.put o.dst v') w') : wpList P ops Q (o :: rest) a w := by
 obtain ⟨v', w', hrun, h2⟩ := hrun
 refine wpList_plain hgd fun K hK => ?_
 unfold Oper.wp execOp
 simp only [ho, resolve, invoke, builtin, Sem.run_bind, Sem.run_pure, Result.andThen_ok, List.map_toArray, List.map_cons, List.map_nil, hs, hx]
 rw [hrun]
 exact hK _ _ (h v' w' h2)
theorem parseBack_any (w : World) (m : Int) (hm : w.cell? ⟨0, 0, none⟩ = some (.int .i64 m)) (hgl : 0 < w.heap.size) (y : Trm) (hy : isTerm y = true) (s : ByteArray) (hs : s = trmTxt y) :
  Calls Tryz.prog 6 #[.string s] w (PostOw2B w y true) := by
 subst hs
 exact parseTrmI_any w m hm hgl _ (trm_size hy) (some y) (par_txt hy).symm
set_option maxRecDepth 20000 in
set_option maxHeartbeats 4000000 in
theorem normalFormI_k {z z1 : Bool} {lo hi lo1 hi1 : Nat} (w : World) (v a b : Value) (rs : List Rul) (t : Kin) (h : Rd z lo hi w [v] rs) (h' : Rd z1 lo1 hi1 w [a, b] t) (hr : areRules rs = true) (ht : isKin t = true) :
  Calls Tryz.prog 16 #[v, .agg #[a, b]] w (PostOw2 w (nf rs t)) := by
 obtain ⟨ao, n, cap, rfl, -⟩ := h.shape
 have HZ := Lib.hid h
 have HT := Lib.hid h'
 obtain ⟨rfl, -, hb⟩ := h'.kin
 obtain ⟨sao, sn, scap, rfl, -⟩ := hb.shape
 have H1 := Lib.hid hr.symm
 have H2 := Lib.hid ht.symm
 have HA := Lib.hid (areRules_facts hr).2.1
 have HK := Lib.hid ht
 obtain ⟨X, hX⟩ : ∃ X, X = nf rs t := ⟨_, rfl⟩
 rw [← hX]
 have HX := Lib.hid hX
 clear h h' hr ht hb hX
 go_enter Tryz.func16, Tryz.ntmps16
 go_wp2_with fail
 refine (areRulesI_b _ _ rs (HZ.out.below bwT) true H1.out).mono ?_
 rintro e1 w1 ⟨rfl, hbw1⟩
 have hpw1 : Below w.heap.size w w1 := Below.after bwT hbw1 szT
 have sw1 := hpw1.size
 have hBw1 : Below w.heap.size w w1 := hpw1
 have l_t : w.heap.size < w1.heap.size := by have := hbw1.size; simp at this; omega
 have q_t0 : w1.cell? ⟨w.heap.size, 0, none⟩ = some (.int .i64 t.1) := oldc hbw1 ltT (by simp [go_sem])
 have q_t1 : w1.cell? ⟨w.heap.size, 1, none⟩ = some (.slice sao sn scap) := oldc hbw1 ltT (by simp [go_sem])
 have l_o : w.heap.size + 1 < w1.heap.size := by have := hbw1.size; simp at this; omega
 have q_o0 : w1.cell? ⟨w.heap.size + 1, 0, none⟩ = some (.int .i64 0) := oldc hbw1 ltT (by simp [go_sem])
 have q_o1 : w1.cell? ⟨w.heap.size + 1, 1, none⟩ = some (.slice none 0 0) := oldc hbw1 ltT (by simp [go_sem])
 have f_o : ∀ o, w1.frozen? ⟨w.heap.size + 1, o, none⟩ = false := fun o => (hbw1.frozen (p := ⟨w.heap.size + 1, o, none⟩) ltT).trans (by simp [go_sem])
 clear hbw1 hpw1
 go_wp2_with fail
 refine (isTypeI_b _ _ _ t (HT.out.below bwT) true H2.out).mono ?_
 rintro e2 w2 ⟨rfl, hbw2⟩
 have hpw2 : Below w1.heap.size w1 w2 := Below.after bwT hbw2 szT
 have sw2 := hpw2.size
 have hBw2 : Below w.heap.size w w2 := Below.trans hBw1 (Below.mono hpw2 hBw1.size)
 replace q_t0 := oldc hpw2 l_t q_t0
 replace q_t1 := oldc hpw2 l_t q_t1
 replace q_o0 := oldc hpw2 l_o q_o0
 replace q_o1 := oldc hpw2 l_o q_o1
 replace f_o : ∀ o, w2.frozen? ⟨w.heap.size + 1, o, none⟩ = false := fun o => (hpw2.frozen (p := ⟨w.heap.size + 1, o, none⟩) l_o).trans (f_o o)
 replace l_o := Nat.lt_of_lt_of_le l_o sw2
 replace l_t := Nat.lt_of_lt_of_le l_t sw2
 clear hbw2 hpw2
 have hl2 : w.heap.size + 1 < (w2).heap.size := l_o
 go_wp2_with fail
 refine (nfI_any _ _ _ _ rs t (HZ.out.below bwT) (HT.out.below bwT) HA.out HK.out).mono ?_
 rintro e3 w3 ⟨na, nb, rfl, hov, hbw3⟩
 have hpw3 : Below w2.heap.size w2 w3 := Below.after bwT hbw3 szT
 have sw3 := hpw3.size
 have hBw3 : Below w.heap.size w w3 := Below.trans hBw2 (Below.mono hpw3 hBw2.size)
 replace q_t0 := oldc hpw3 l_t q_t0
 replace q_t1 := oldc hpw3 l_t q_t1
 replace q_o0 := oldc hpw3 l_o q_o0
 replace q_o1 := oldc hpw3 l_o q_o1
 replace f_o : ∀ o, w3.frozen? ⟨w.heap.size + 1, o, none⟩ = false := fun o => (hpw3.frozen (p := ⟨w.heap.size + 1, o, none⟩) l_o).trans (f_o o)
 replace l_o := Nat.lt_of_lt_of_le l_o sw3
 replace l_t := Nat.lt_of_lt_of_le l_t sw3
 clear hbw3 hpw3
 rw [← HX.out] at hov
 obtain ⟨rfl, -, hts⟩ := hov.rd.kin
 obtain ⟨nao, nn, ncap, rfl, -⟩ := hts.shape
 have HOV := Lib.hid hov
 clear hov hts HX
 go_wp2
 exact bodyPost_ret (v := .agg #[.int .i64 X.1, .slice nao nn ncap]) (by simp [results, go_sem, *]) rfl ⟨_, _, rfl, (HOV.out.keep zmT).mono (by omega) (by simp), bwT⟩
end
end Go.Proofs.YtdpkldapobbnpaaGreatDoor
