/- Contracts of AddressTerm (both programs). -/
import Derived.Test.YtcbhdmmohdnjbaaGreatShtI
import Derived.Test.YtcbhdmmohdnjbaaGreatShtS
import Derived.Test.YtcbhdmmohdnjbaaGreatTrmB
namespace Go.Proofs.YtcbhdmmohdnjbaaGreat
set_option linter.unusedVariables false
set_option linter.unusedSimpArgs false
open Go.RowKit

def adO (f : Fam) (y : Trm) (a b : Int) : Option ByteArray := if shV f a b = true then tmO y (shX f a b) else none
set_option maxRecDepth 20000 in
set_option maxHeartbeats 8000000 in
theorem addressI_any {z z1 : Bool} {lo hi lo1 hi1 : Nat} (w : World) (v v2 y1 y2 : Value) (f : Fam) (y : Trm) (h : Rd z lo hi w [v, v2] f) (h' : Rd z1 lo1 hi1 w [y1, y2] y) (a b : Int) (ba : I64 a) (bb : I64 b) (S : ByteArray) (hS : S = tmText (adO f y a b)) (V : Bool) (hV : V = (adO f y a b).isSome) :
    Calls Tryz.prog 12 #[.agg #[v, v2], .agg #[y1, y2], .int .i64 a, .int .i64 b] w (PostV w (.tuple #[.string S, .bool V])) := by
  obtain ⟨ao, an, cap, rfl, hn, -⟩ := h.fam.1.shape
  subst hn
  obtain ⟨bo, bn, dap, rfl, hn2, -⟩ := h.fam.2.shape
  subst hn2
  obtain ⟨hy1, hy2⟩ := h'.two rfl
  obtain ⟨ra, rn, rcap, rfl, -⟩ := hy1.shape
  obtain ⟨ea, en, ecap, rfl, -⟩ := hy2.shape
  have HH := Lib.hid h
  have HY := Lib.hid h'
  obtain ⟨V1, hV1⟩ : ∃ q, q = shV f a b := ⟨_, rfl⟩
  obtain ⟨⟨te, tl⟩, hX1⟩ : ∃ q, q = shX f a b := ⟨_, rfl⟩
  have HS := Lib.hid (show S = tmText (if V1 = true then tmO y (te, tl) else none) by rw [hS, hV1, hX1]; rfl)
  have HV := Lib.hid (show V = (if V1 = true then tmO y (te, tl) else none).isSome by rw [hV, hV1, hX1]; rfl)
  have HV1 := Lib.hid hV1
  have HX1 := Lib.hid hX1
  clear h h' hy1 hy2 hS hV hV1 hX1
  go_enter Tryz.func12, Tryz.ntmps12
  go_wp2_with fail
  refine (shortestI_any _ _ _ f (HH.out.below bwT) a b ba bb (te, tl) HX1.out V1 HV1.out).mono ?_
  rintro e1 w1 ⟨ta, tb, rfl, ho, hbw1⟩
  have hpw1 : Below w.heap.size w w1 := Below.after bwT hbw1 szT
  have sw1 := hpw1.size
  have hBw1 : Below w.heap.size w w1 := hpw1
  have l_f : w.heap.size < w1.heap.size := by have := hbw1.size; simp at this; omega
  have q_f0 : w1.cell? ⟨w.heap.size, 0, none⟩ = some (.slice ao f.1.length cap) := oldc hbw1 ltT (by simp [go_sem])
  have q_f1 : w1.cell? ⟨w.heap.size, 1, none⟩ = some (.slice bo f.2.length dap) := oldc hbw1 ltT (by simp [go_sem])
  have l_y : w.heap.size + 1 < w1.heap.size := by have := hbw1.size; simp at this; omega
  have q_y0 : w1.cell? ⟨w.heap.size + 1, 0, none⟩ = some (.slice ra rn rcap) := oldc hbw1 ltT (by simp [go_sem])
  have q_y1 : w1.cell? ⟨w.heap.size + 1, 1, none⟩ = some (.slice ea en ecap) := oldc hbw1 ltT (by simp [go_sem])
  clear hbw1 hpw1
  obtain ⟨rfl, -, hb⟩ := ho.rd.kin
  dsimp only at hb
  obtain ⟨sao, sn, scap, rfl, -⟩ := hb.shape
  clear hb
  cases V1
  · obtain rfl : S = ⟨#[]⟩ := HS.out
    obtain rfl : V = false := HV.out
    clear HS HV HV1 HX1 HH HY ho
    go_wp2
    go_ret2
    exact ⟨rfl, bwT⟩
  have HS2 := Lib.hid (show S = tmText (tmO y (te, tl)) from HS.out)
  have HV2 := Lib.hid (show V = (tmO y (te, tl)).isSome from HV.out)
  clear HS HV HV1 HX1
  go_wp2_with fail
  refine (termForI_x _ _ _ _ _ y (te, tl) (HY.out.below bwT) (ho.rd.below bwT) S HS2.out V HV2.out).mono ?_
  rintro e2 w2 ⟨rfl, hbw2⟩
  have hpw2 : Below w1.heap.size w1 w2 := Below.after bwT hbw2 szT
  have sw2 := hpw2.size
  have hBw2 : Below w.heap.size w w2 := Below.trans hBw1 (Below.mono hpw2 hBw1.size)
  have q_f0 := oldc hpw2 l_f q_f0
  have q_f1 := oldc hpw2 l_f q_f1
  have q_y0 := oldc hpw2 l_y q_y0
  have q_y1 := oldc hpw2 l_y q_y1
  have l_f := Nat.lt_of_lt_of_le l_f sw2
  have l_y := Nat.lt_of_lt_of_le l_y sw2
  have l_t : w1.heap.size < w2.heap.size := by have := hbw2.size; simp at this; omega
  have q_t0 : w2.cell? ⟨w1.heap.size, 0, none⟩ = some (.int .i64 te) := oldc hbw2 ltT (by simp [go_sem])
  have q_t1 : w2.cell? ⟨w1.heap.size, 1, none⟩ = some (.slice sao sn scap) := oldc hbw2 ltT (by simp [go_sem])
  have ho := Ow.below ho hpw2
  clear hbw2 hpw2
  clear HS2 HV2 HH HY
  go_wp2
  go_ret2
  exact ⟨rfl, hBw2⟩
set_option maxRecDepth 20000 in
set_option maxHeartbeats 8000000 in
theorem addressS_any {z z1 : Bool} {lo hi lo1 hi1 : Nat} (w : World) (v v2 y1 y2 : Value) (f : Fam) (y : Trm) (h : Rd z lo hi w [v, v2] f) (h' : Rd z1 lo1 hi1 w [y1, y2] y) (a b : Int) (ba : I64 a) (bb : I64 b) (S : ByteArray) (hS : S = tmText (adO f y a b)) (V : Bool) (hV : V = (adO f y a b).isSome) :
    Calls Tryz.prog 9 #[.agg #[v, v2], .agg #[y1, y2], .int .i64 a, .int .i64 b] w (PostV w (.tuple #[.string S, .bool V])) := by
  obtain ⟨ao, an, cap, rfl, hn, -⟩ := h.fam.1.shape
  subst hn
  obtain ⟨bo, bn, dap, rfl, hn2, -⟩ := h.fam.2.shape
  subst hn2
  obtain ⟨hy1, hy2⟩ := h'.two rfl
  obtain ⟨ra, rn, rcap, rfl, -⟩ := hy1.shape
  obtain ⟨ea, en, ecap, rfl, -⟩ := hy2.shape
  have HH := Lib.hid h
  have HY := Lib.hid h'
  obtain ⟨V1, hV1⟩ : ∃ q, q = shV f a b := ⟨_, rfl⟩
  obtain ⟨⟨te, tl⟩, hX1⟩ : ∃ q, q = shX f a b := ⟨_, rfl⟩
  have HS := Lib.hid (show S = tmText (if V1 = true then tmO y (te, tl) else none) by rw [hS, hV1, hX1]; rfl)
  have HV := Lib.hid (show V = (if V1 = true then tmO y (te, tl) else none).isSome by rw [hV, hV1, hX1]; rfl)
  have HV1 := Lib.hid hV1
  have HX1 := Lib.hid hX1
  clear h h' hy1 hy2 hS hV hV1 hX1
  go_enter Tryz.func9, Tryz.ntmps9
  go_wp2_with fail
  refine (shortestS_any _ _ _ f (HH.out.below bwT) a b ba bb (te, tl) HX1.out V1 HV1.out).mono ?_
  rintro e3 w3 ⟨ta, tb, rfl, ho, hbw3⟩
  have hpw3 : Below w.heap.size w w3 := Below.after bwT hbw3 szT
  have sw3 := hpw3.size
  have hBw3 : Below w.heap.size w w3 := hpw3
  have l_f : w.heap.size < w3.heap.size := by have := hbw3.size; simp at this; omega
  have q_f0 : w3.cell? ⟨w.heap.size, 0, none⟩ = some (.slice ao f.1.length cap) := oldc hbw3 ltT (by simp [go_sem])
  have q_f1 : w3.cell? ⟨w.heap.size, 1, none⟩ = some (.slice bo f.2.length dap) := oldc hbw3 ltT (by simp [go_sem])
  have l_y : w.heap.size + 1 < w3.heap.size := by have := hbw3.size; simp at this; omega
  have q_y0 : w3.cell? ⟨w.heap.size + 1, 0, none⟩ = some (.slice ra rn rcap) := oldc hbw3 ltT (by simp [go_sem])
  have q_y1 : w3.cell? ⟨w.heap.size + 1, 1, none⟩ = some (.slice ea en ecap) := oldc hbw3 ltT (by simp [go_sem])
  clear hbw3 hpw3
  obtain ⟨rfl, -, hb⟩ := ho.rd.kin
  dsimp only at hb
  obtain ⟨sao, sn, scap, rfl, -⟩ := hb.shape
  clear hb
  cases V1
  · obtain rfl : S = ⟨#[]⟩ := HS.out
    obtain rfl : V = false := HV.out
    clear HS HV HV1 HX1 HH HY ho
    go_wp2
    go_ret2
    exact ⟨rfl, bwT⟩
  have HS2 := Lib.hid (show S = tmText (tmO y (te, tl)) from HS.out)
  have HV2 := Lib.hid (show V = (tmO y (te, tl)).isSome from HV.out)
  clear HS HV HV1 HX1
  go_wp2_with fail
  refine (termForS_x _ _ _ _ _ y (te, tl) (HY.out.below bwT) (ho.rd.below bwT) S HS2.out V HV2.out).mono ?_
  rintro e4 w4 ⟨rfl, hbw4⟩
  have hpw4 : Below w3.heap.size w3 w4 := Below.after bwT hbw4 szT
  have sw4 := hpw4.size
  have hBw4 : Below w.heap.size w w4 := Below.trans hBw3 (Below.mono hpw4 hBw3.size)
  have q_f0 := oldc hpw4 l_f q_f0
  have q_f1 := oldc hpw4 l_f q_f1
  have q_y0 := oldc hpw4 l_y q_y0
  have q_y1 := oldc hpw4 l_y q_y1
  have l_f := Nat.lt_of_lt_of_le l_f sw4
  have l_y := Nat.lt_of_lt_of_le l_y sw4
  have l_t : w3.heap.size < w4.heap.size := by have := hbw4.size; simp at this; omega
  have q_t0 : w4.cell? ⟨w3.heap.size, 0, none⟩ = some (.int .i64 te) := oldc hbw4 ltT (by simp [go_sem])
  have q_t1 : w4.cell? ⟨w3.heap.size, 1, none⟩ = some (.slice sao sn scap) := oldc hbw4 ltT (by simp [go_sem])
  have ho := Ow.below ho hpw4
  clear hbw4 hpw4
  clear HS2 HV2 HH HY
  go_wp2
  go_ret2
  exact ⟨rfl, hBw4⟩
end Go.Proofs.YtcbhdmmohdnjbaaGreat
