/- Texts laid one behind the other (merge.py): MarkT, MkStep, DKinType, Fam. -/
import Derived.Test.YtlnhhfebmeekhaaZ10G
import Derived.Laws.IdiomStrings
import Derived.Test.YtlnhhfebmeekhaaZ10A
import Derived.Test.YtlnhhfebmeekhaaZ10J
import Derived.Test.YtlnhhfebmeekhaaPut
import Derived.Test.YtlnhhfebmeekhaaKinS
namespace Go.Proofs.Ytlnhhfebmeekhaa
set_option linter.unusedVariables false
set_option linter.unusedSimpArgs false
open Go.RowKit

/-! ### MarkT -/
section

def dg1 (t : Nat) : ByteArray := ⟨#[48 + UInt8.ofNat (t % 10)]⟩
def dg : Nat → Nat → ByteArray → ByteArray
  | 0, _, x => x
  | f + 1, t, x => if t = 0 then x else dg f (t / 10) (dg1 t ++ x)
theorem dg_zero (f : Nat) (x : ByteArray) : dg f 0 x = x := by cases f <;> simp [dg]
theorem dg_fuel : ∀ (f g t : Nat) (x : ByteArray), t ≤ f → t ≤ g → dg f t x = dg g t x
  | 0, g, t, x, h, _ => by obtain rfl : t = 0 := by omega
                           rw [dg_zero, dg_zero]
  | f, 0, t, x, _, h => by obtain rfl : t = 0 := by omega
                           rw [dg_zero, dg_zero]
  | f + 1, g + 1, t, x, h1, h2 => by
    rw [dg, dg]
    split
    · rfl
    · exact dg_fuel f g (t / 10) _ (by omega) (by omega)
theorem dg_size : ∀ (f t : Nat) (x : ByteArray), (dg f t x).size ≤ x.size + t
  | 0, t, x => by simp [dg]
  | f + 1, t, x => by
    rw [dg]
    split
    · omega
    · have := dg_size f (t / 10) (dg1 t ++ x)
      have e : (dg1 t ++ x).size = 1 + x.size := by rw [ByteArray.size_append]; rfl
      omega
def markTxt (k : Nat) : ByteArray := if k = 0 then ⟨#[109, 48]⟩ else (⟨#[109]⟩ : ByteArray) ++ dg k k ⟨#[]⟩
theorem markTxt_size (k : Nat) : (markTxt k).size ≤ k + 2 := by
  unfold markTxt
  split
  · show 2 ≤ _; omega
  · rw [ByteArray.size_append]
    have := dg_size k k ⟨#[]⟩
    have e : (⟨#[]⟩ : ByteArray).size = 0 := rfl
    have e2 : (⟨#[109]⟩ : ByteArray).size = 1 := rfl
    omega


end

/-! ### MkStep -/
section

def mkStp (q : Int) : Stp := (q, q + 1)
def marksStp (k : Int) (n : Nat) : List Stp := (List.range n).map fun i => mkStp (k + 2 * (i : Nat))
theorem marksStp_len (k : Int) (n : Nat) : (marksStp k n).length = n := by simp [marksStp]
theorem marksStp_at {k : Int} {n i : Nat} {x : Stp} (h : (marksStp k n)[i]? = some x) : x = mkStp (k + 2 * (i : Nat)) := by
  simp only [marksStp, List.getElem?_map, List.getElem?_range, Option.map_eq_some_iff] at h
  obtain ⟨a, ha, rfl⟩ := h
  have : a = i := by
    rw [List.getElem?_eq_some_iff] at ha
    obtain ⟨_, ha⟩ := ha
    simpa using ha.symm
  rw [this]
theorem marksStp_step {k : Int} {xs : List Stp} {i : Nat} {x : Stp} (hx : xs[i]? = some x) : (marksStp k i ++ xs.drop i).set i (mkStp (k + 2 * (i : Nat))) = marksStp k (i + 1) ++ xs.drop (i + 1) := by
  rw [drop_cons hx, List.set_append_right _ _ (by simp [marksStp_len])]
  simp [marksStp, List.range_succ]
theorem rep_stp_at {z : Bool} {w : World} {ao : Option Addr} {n cap : Nat} {xs : List Stp} {fp : List Nat} (h : Rep.rep z w [.slice ao n cap] xs fp) {i : Nat} (hi' : i < n) :
    ∃ (b off : Nat) (ki : Int) (ag : Int), ao = some ⟨b, off, none⟩ ∧ Hid (xs[i]? = some (ki, ag)) ∧ w.cell? ⟨b, off + i * 2, none⟩ = some (.int .i64 ki) ∧ w.cell? ⟨b, off + i * 2 + 1, none⟩ = some (.int .i64 ag) ∧ I64 ki ∧ I64 ag ∧ Hid (b ∈ fp) ∧ b < w.heap.size ∧ (z = true → ∀ o, w.frozen? ⟨b, o, none⟩ = false) := by
  obtain ⟨b, off, ⟨ki, ag⟩, cs, f, e, hx, hr, _, m1, m2, m3, hc, hf⟩ := rep_at h hi'
  obtain ⟨rfl, h0, h1, -⟩ := repStp_inv hr
  refine ⟨b, off, ki, ag, e, hx, ?_, ?_, h0, h1, m1, m3, hf⟩
  · have := hc 0 (.int .i64 ki) rfl; simpa [Rep.sz, Nat.add_assoc] using this
  · have := hc 1 (.int .i64 ag) rfl; simpa [Rep.sz, Nat.add_assoc] using this
theorem rep_stp_put {w : World} {xs : List Stp} {b off n cap : Nat} {fp : List Nat} (h : Rep.rep true w [.slice (some ⟨b, off, none⟩) n cap] xs fp) {i : Nat} (hi' : i < n) {ki : Int} {ag : Int} (h0 : I64 ki) (h1 : I64 ag) :
    Rep.rep true ((w.setCell ⟨b, off + i * 2, none⟩ (.int .i64 ki)).setCell ⟨b, off + i * 2 + 1, none⟩ (.int .i64 ag)) [.slice (some ⟨b, off, none⟩) n cap] (xs.set i (ki, ag)) fp := by
  obtain ⟨b', off', ki0, ag0, e, hx, -, -, g0, g1, -, -, -⟩ := rep_stp_at h hi'
  have hx := hx.out
  have hl : i < xs.length := (List.getElem?_eq_some_iff.1 hx).1
  have s1 := rep_setc h (i := i) (j := 0) (x := (ki0, ag0)) (y := (ki, ag0)) (u := .int .i64 ki) (w' := w) hx (repStp_mk g0 g1) (by show 0 < 2; omega) (repStp_mk h0 g1)
  have e1 : (xs.set i (ki, ag0))[i]? = some (ki, ag0) := by simp [hl]
  have s2 := rep_setc s1 (i := i) (j := 1) (x := (ki, ag0)) (y := (ki, ag)) (u := .int .i64 ag) (w' := w) e1 (repStp_mk h0 g1) (by show 1 < 2; omega) (repStp_mk h0 h1)
  rw [List.set_set] at s2
  have e2 : (xs.set i (ki, ag))[i]? = some (ki, ag) := by simp [hl]
  simpa [Rep.sz, Nat.add_assoc] using s2



end

/-! ### DKinType -/
section

theorem slKinType : SlTy Try.prog 49 53 (.agg #[.int .i64 0, .slice none 0 0]) 2 32 := SlTy.of Try.underlying49 (by kernel_rfl) rfl
theorem dKin_inv {z : Bool} {w : World} {cs : List Value} {eg : Int} {sl : List Stp} {fp : List Nat} (h : Rep.rep z w cs ((eg, sl) : Kin) fp) : ∃ (vsl : Value) (fsl : List Nat), cs = [.int .i64 eg, vsl] ∧ I64 eg ∧ Rep.rep z w [vsl] sl fsl ∧ fsl = fp := by
  obtain ⟨_, _, _, _, rfl, rfl, ⟨rfl, heg, rfl⟩, hsl⟩ := h
  have gsl := hsl
  obtain ⟨vsl, rfl, -⟩ := gsl
  exact ⟨vsl, _, rfl, heg, hsl, by simp⟩
theorem dKin_mk {z : Bool} {w : World} {eg : Int} {sl : List Stp} {vsl : Value} {fsl : List Nat} (heg : I64 eg) (hsl : Rep.rep z w [vsl] sl fsl) : Rep.rep z w [.int .i64 eg, vsl] ((eg, sl) : Kin) (fsl) :=
  ⟨[.int .i64 eg], [vsl], [], (fsl), rfl, by simp, ⟨rfl, heg, rfl⟩, hsl⟩
theorem Rd.dKin {z : Bool} {lo hi : Nat} {w : World} {cs : List Value} {eg : Int} {sl : List Stp} (h : Rd z lo hi w cs ((eg, sl) : Kin)) : ∃ (vsl : Value), cs = [.int .i64 eg, vsl] ∧ I64 eg ∧ Rd z lo hi w [vsl] sl := by
  obtain ⟨fp, hr, hz⟩ := h
  obtain ⟨vsl, fsl, rfl, heg, hsl, rfl⟩ := dKin_inv hr
  exact ⟨vsl, rfl, heg, ⟨fsl, hsl, fun b hb => hz b (by simp [hb])⟩⟩
theorem Rd.dKin_at {z : Bool} {lo hi : Nat} {w : World} {xs : List Kin} {ao : Option Addr} {n cap : Nat} (h : Rd z lo hi w [.slice ao n cap] xs) {i : Nat} (hi' : i < n) :
    ∃ (b off : Nat) (eg : Int) (sl : List Stp) (vsl : Value), ao = some ⟨b, off, none⟩ ∧ Hid (xs[i]? = some (eg, sl)) ∧ w.cell? ⟨b, off + i * 2, none⟩ = some (.int .i64 eg) ∧ w.cell? ⟨b, off + i * 2 + 1, none⟩ = some (vsl) ∧ I64 eg ∧ Rd z lo hi w [vsl] sl ∧ Rd z lo hi w [.int .i64 eg, vsl] ((eg, sl) : Kin) ∧ lo ≤ b ∧ b < hi ∧ b < w.heap.size := by
  obtain ⟨b, off, ⟨eg, sl⟩, cs, e, hx, hr, _, g1, g2, g3, hc, hf⟩ := h.at hi'
  have hr0 := hr
  obtain ⟨vsl, rfl, heg, hsl⟩ := Rd.dKin hr
  refine ⟨b, off, eg, sl, vsl, e, hx, ?_, ?_, heg, hsl, hr0, g1, g2, g3⟩
  · have := hc 0 (.int .i64 eg) rfl; simpa [Rep.sz, Nat.add_assoc] using this
  · have := hc 1 (vsl) rfl; simpa [Rep.sz, Nat.add_assoc] using this
theorem dKin_zero (w : World) : Rep.rep true w (Value.agg #[.int .i64 0, .slice none 0 0]).cells.toList ((0, []) : Kin) [] := by
  have hz : Rep.rep true w [.slice none 0 0] ([] : List Stp) [] := ⟨_, rfl, none, 0, 0, rfl, rfl, Nat.le_refl _, by simp [maxLen], fun _ => rfl, .inl ⟨rfl, rfl⟩⟩
  exact dKin_mk (by unfold I64; omega) hz
def cntKin : Kin → Nat := fun (eg, sl) => 1 + 2 * sl.length
def szdKin : Kin → Nat := fun (eg, sl) => sl.length
def sszKin (xs : List Kin) : Nat := xs.length + lenBy szdKin xs
theorem cntKin_le (xs : List Kin) : lenBy cntKin xs ≤ 3 * sszKin xs := by
  unfold sszKin
  induction xs with
  | nil => simp [lenBy]
  | cons x xs ih =>
    obtain ⟨eg, sl⟩ := x
    rw [lenBy, lenBy, List.length_cons]
    have : cntKin (eg, sl) ≤ 3 + 3 * szdKin (eg, sl) := by unfold cntKin szdKin; dsimp only; omega
    omega
def mkdKin (k : Int) : Kin → Kin := fun (eg, sl) => (k, marksStp (k + 1) sl.length)
instance decEqLKin : DecidableEq (List Kin) := fun a b => instDecidableEqList a b




end

/-! ### Fam -/
section

/-- A person: name, sex, father, mother, born, died. A union: man, woman, from, tl. -/
abbrev Per := ByteArray × Int × Int × Int × Int × Int
abbrev Uni := Int × Int × Int × Int
abbrev Fam := List Per × List Uni

def letters (s : List UInt8) : Bool := s.all fun c => decide (97 ≤ c.toNat ∧ c.toNat ≤ 122)
def nameOk (s : ByteArray) : Bool := decide (1 ≤ s.size ∧ s.size ≤ 12) && letters s.data.toList

def upC (ps : List Per) (born q sex late : Int) : Bool :=
  match ps[q.toNat]? with
  | some (_, sx, _, _, bo, di) => decide (sx = sex) && (decide (bo < born) && decide (di = -1 ∨ born ≤ di + late))
  | none => false
def upOk (ps : List Per) (i : Nat) (born q sex late : Int) : Bool := decide (q = -1) || (decide (0 ≤ q ∧ q < i) && upC ps born q sex late)

def perC (ps : List Per) (i : Nat) : Per → Bool
  | (nm, sx, fa, mo, bo, di) => nameOk nm && (decide (sx = 1 ∨ sx = 2) && (decide (0 ≤ bo ∧ bo ≤ 9999) && (decide (di = -1 ∨ (bo ≤ di ∧ di ≤ 9999)) && (!decide (nm ∈ (ps.take i).map (·.1)) && (upOk ps i bo fa 1 1 && upOk ps i bo mo 2 0)))))
def perOk (ps : List Per) (i : Nat) : Bool := match ps[i]? with | some p => perC ps i p | none => false

def dep1 (out : List Int) (q : Int) : Int := if 0 ≤ q then out.getD q.toNat 0 + 1 else 0
def depOf (out : List Int) (fa mo : Int) : Int := max (dep1 out fa) (dep1 out mo)
def deps (ps : List Per) : List Int := ps.foldl (fun out p => out ++ [depOf out p.2.2.1 p.2.2.2.1]) []
def depOk (ps : List Per) : Bool := (deps ps).all fun d => decide (d ≤ 10)

def liveOk (di fr tl : Int) : Bool := decide (di = -1 ∨ (fr ≤ di ∧ (tl = -1 ∨ tl ≤ di)))
def uniP (a b : Per) (fr tl : Int) : Bool :=
  match a, b with
  | (_, sa, _, _, ba, da), (_, sb, _, _, bb, db) => decide (sa = 1 ∧ sb = 2) && (decide (fr ≤ 9999 ∧ ba ≤ fr ∧ bb ≤ fr) && (decide (tl = -1 ∨ (fr ≤ tl ∧ tl ≤ 9999)) && (liveOk da fr tl && liveOk db fr tl)))
def uniC (f : Fam) (k : Nat) : Uni → Bool
  | (m, wo, fr, tl) => decide ((0 ≤ m ∧ m < f.1.length) ∧ (0 ≤ wo ∧ wo < f.1.length)) &&
      ((match f.1[m.toNat]?, f.1[wo.toNat]? with | some a, some b => uniP a b fr tl | _, _ => false) && !decide ((m, wo) ∈ (f.2.take k).map fun v => (v.1, v.2.1)))
def uniOk (f : Fam) (k : Nat) : Bool := match f.2[k]? with | some u => uniC f k u | none => false

def famB (f : Fam) : Bool := decide (f.1.length ≤ 40 ∧ f.2.length ≤ 60) && ((List.range f.1.length).all (perOk f.1) && (depOk f.1 && (List.range f.2.length).all (uniOk f)))

theorem all_range {g : Nat → Bool} {n : Nat} : (List.range n).all g = true ↔ ∀ i, i < n → g i = true := by
  rw [List.all_eq_true]
  exact ⟨fun h i hi => h i (List.mem_range.2 hi), fun h i hi => h i (List.mem_range.1 hi)⟩
theorem all_range_false {g : Nat → Bool} {n i : Nat} (hi : i < n) (h : g i = false) : (List.range n).all g = false := by
  cases hh : (List.range n).all g
  · rfl
  · have := all_range.1 hh i hi; rw [h] at this; cases this

/-- What is known of the persons before i. -/
def PplTo (ps : List Per) (i : Nat) : Prop := ∀ k, k < i → perOk ps k = true

theorem perOk_at {ps : List Per} {i : Nat} {p : Per} (h : ps[i]? = some p) : perOk ps i = perC ps i p := by unfold perOk; rw [h]

theorem perC_facts {ps : List Per} {i : Nat} {nm : ByteArray} {sx fa mo bo di : Int} (h : perC ps i (nm, sx, fa, mo, bo, di) = true) :
    (sx = 1 ∨ sx = 2) ∧ (0 ≤ bo ∧ bo ≤ 9999) ∧ (di = -1 ∨ (bo ≤ di ∧ di ≤ 9999)) ∧ (fa = -1 ∨ (0 ≤ fa ∧ fa < i)) ∧ (mo = -1 ∨ (0 ≤ mo ∧ mo < i)) ∧ nameOk nm = true ∧ nm ∉ (ps.take i).map (·.1) := by
  simp only [perC, upOk, Bool.and_eq_true, Bool.or_eq_true, decide_eq_true_eq, Bool.not_eq_true', decide_eq_false_iff_not] at h
  obtain ⟨h1, h2, h3, h4, h5, h6, h7⟩ := h
  refine ⟨h2, h3, h4, ?_, ?_, h1, h5⟩
  · rcases h6 with h | h
    · exact .inl h
    · exact .inr h.1
  · rcases h7 with h | h
    · exact .inl h
    · exact .inr h.1
theorem PplTo.at {ps : List Per} {n i : Nat} (h : PplTo ps n) (hi : i < n) {nm : ByteArray} {sx fa mo bo di : Int} (hp : ps[i]? = some (nm, sx, fa, mo, bo, di)) :
    (sx = 1 ∨ sx = 2) ∧ (0 ≤ bo ∧ bo ≤ 9999) ∧ (di = -1 ∨ (bo ≤ di ∧ di ≤ 9999)) ∧ (fa = -1 ∨ (0 ≤ fa ∧ fa < i)) ∧ (mo = -1 ∨ (0 ≤ mo ∧ mo < i)) ∧ nameOk nm = true ∧ nm ∉ (ps.take i).map (·.1) :=
  perC_facts (by rw [← perOk_at hp]; exact h i hi)

theorem deps_snoc (ps : List Per) (p : Per) : deps (ps ++ [p]) = deps ps ++ [depOf (deps ps) p.2.2.1 p.2.2.2.1] := by
  unfold deps; rw [List.foldl_append]; rfl
theorem deps_len (ps : List Per) : (deps ps).length = ps.length := by
  have : ∀ (l : List Per) (o : List Int), (l.foldl (fun out p => out ++ [depOf out p.2.2.1 p.2.2.2.1]) o).length = o.length + l.length := by
    intro l
    induction l with
    | nil => intro o; rfl
    | cons a l ih => intro o; rw [List.foldl_cons, ih]; simp; omega
  have := this ps []
  simpa [deps] using this
theorem dep1_bd {out : List Int} {n : Nat} (h : ∀ d ∈ out, 0 ≤ d ∧ d ≤ n) (q : Int) : 0 ≤ dep1 out q ∧ dep1 out q ≤ (n : Int) + 1 := by
  unfold dep1; split
  · have : 0 ≤ out.getD q.toNat 0 ∧ out.getD q.toNat 0 ≤ n := by
      rw [List.getD_eq_getElem?_getD]
      cases e : out[q.toNat]? with
      | none => simp
      | some d => exact h d (List.mem_of_getElem? e)
    omega
  · omega
theorem deps_bd (ps : List Per) : ∀ i, i ≤ ps.length → ∀ d ∈ deps (ps.take i), 0 ≤ d ∧ d ≤ (i : Int)
  | 0, _ => fun d hd => by simp [deps] at hd
  | i + 1, hi => by
    have hx : ps[i]? = some ps[i] := List.getElem?_eq_getElem (by omega)
    have e : ps.take (i + 1) = ps.take i ++ [ps[i]] := take_snoc hx
    rw [e, deps_snoc]
    have ih := deps_bd ps i (by omega)
    intro d hd
    rcases List.mem_append.1 hd with hd | hd
    · have := ih d hd; omega
    · simp only [List.mem_singleton] at hd
      have h1 := dep1_bd (n := i) ih ps[i].2.2.1
      have h2 := dep1_bd (n := i) ih ps[i].2.2.2.1
      rw [hd]; unfold depOf; omega

end

end Go.Proofs.Ytlnhhfebmeekhaa
