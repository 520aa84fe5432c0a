/- Plain: the sample terminologies. Written by trs_gen.py. -/
import Derived.Test.YtcbhdmmohdnjbaaGreatSmp
import Derived.Test.YtcbhdmmohdnjbaaGreatEnt
namespace Go.Proofs.YtcbhdmmohdnjbaaGreat
set_option linter.unusedVariables false
set_option linter.unusedSimpArgs false
open Go.RowKit
def wordL : List Bs := [[70], [102, 97, 116, 104, 101, 114], [77], [109, 111, 116, 104, 101, 114], [66], [98, 114, 111, 116, 104, 101, 114], [90], [115, 105, 115, 116, 101, 114], [83], [115, 111, 110], [68], [100, 97, 117, 103, 104, 116, 101, 114], [72], [104, 117, 115, 98, 97, 110, 100], [87], [119, 105, 102, 101], [70, 90], [97, 117, 110, 116], [77, 66], [117, 110, 99, 108, 101], [70, 90, 83], [99, 111, 117, 115, 105, 110], [70, 90, 68], [99, 111, 117, 115, 105, 110], [77, 66, 83], [99, 111, 117, 115, 105, 110], [77, 66, 68], [99, 111, 117, 115, 105, 110]]
def pairL : List (Bs × Bs) := [([70], [102, 97, 116, 104, 101, 114]), ([77], [109, 111, 116, 104, 101, 114]), ([66], [98, 114, 111, 116, 104, 101, 114]), ([90], [115, 105, 115, 116, 101, 114]), ([83], [115, 111, 110]), ([68], [100, 97, 117, 103, 104, 116, 101, 114]), ([72], [104, 117, 115, 98, 97, 110, 100]), ([87], [119, 105, 102, 101]), ([70, 90], [97, 117, 110, 116]), ([77, 66], [117, 110, 99, 108, 101]), ([70, 90, 83], [99, 111, 117, 115, 105, 110]), ([70, 90, 68], [99, 111, 117, 115, 105, 110]), ([77, 66, 83], [99, 111, 117, 115, 105, 110]), ([77, 66, 68], [99, 111, 117, 115, 105, 110])]
def lineL : List Bs := [[70, 32, 102, 97, 116, 104, 101, 114], [77, 32, 109, 111, 116, 104, 101, 114], [66, 32, 98, 114, 111, 116, 104, 101, 114], [90, 32, 115, 105, 115, 116, 101, 114], [83, 32, 115, 111, 110], [68, 32, 100, 97, 117, 103, 104, 116, 101, 114], [72, 32, 104, 117, 115, 98, 97, 110, 100], [87, 32, 119, 105, 102, 101], [70, 90, 32, 97, 117, 110, 116], [77, 66, 32, 117, 110, 99, 108, 101], [70, 90, 83, 32, 99, 111, 117, 115, 105, 110], [70, 90, 68, 32, 99, 111, 117, 115, 105, 110], [77, 66, 83, 32, 99, 111, 117, 115, 105, 110], [77, 66, 68, 32, 99, 111, 117, 115, 105, 110]]
def trmN (l : Bs) : Nat := if l = [103, 101, 110, 101, 114, 97, 116, 105, 111, 110] then 8 else if l = [109, 101, 114, 103, 105, 110, 103] then 14 else if l = [115, 107, 101, 119, 105, 110, 103] then 12 else 0
def kin0 : Kin := (0, [])
def entSG (p : Bs × Bs) : Ent := ((typeS p.1).getD kin0, txt p.2)
def entIG (l : Bs) : Ent := ((typeI (Lib.cut l [32]).1).getD kin0, txt (Lib.cut l [32]).2.1)
def trmX (l : Bs) : Trm := (smpX l, (pairL.take (trmN l)).map entSG)
theorem trmN_le (l : Bs) : trmN l ≤ 14 := by
 unfold trmN
 split
 ·decide
 ·split
  ·decide
  ·split <;> decide
theorem word_at : ∀ k : Fin 14, ∃ p, pairL[k.val]? = some p ∧ wordL[2 * k.val]? = some p.1 ∧ wordL[2 * k.val + 1]? = some p.2 := by
 intro k
 have h : ∀ k : Fin 14, (pairL[k.val]?.isSome && (decide (wordL[2 * k.val]? = (pairL[k.val]?).map (·.1)) && decide (wordL[2 * k.val + 1]? = (pairL[k.val]?).map (·.2)))) = true := by decide +kernel
 have h2 := h k
 simp only [Bool.and_eq_true, decide_eq_true_eq] at h2
 obtain ⟨p, hp⟩ := Option.isSome_iff_exists.1 h2.1
 rw [hp] at h2
 exact ⟨p, hp, h2.2.1, h2.2.2⟩
end Go.Proofs.YtcbhdmmohdnjbaaGreat
