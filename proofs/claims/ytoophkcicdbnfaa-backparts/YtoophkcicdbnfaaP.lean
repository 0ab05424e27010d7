/- The root; the awakening. -/
import Derived.Test.YtoophkcicdbnfaaO
set_option linter.unusedVariables false
set_option linter.unusedSimpArgs false
namespace Go.Proofs.Ytoophkcicdbnfaa
open Go Go.Av
set_option maxRecDepth 100000

def word (l : List UInt8) : ByteArray := ⟨l.toArray⟩
def rootFields : List SField :=
  [{ noField with place := ⟨0, noS, word [99, 111, 117, 112, 111, 110]⟩, kind := 2 },
   { noField with place := ⟨1, noS, word [110, 111, 116, 101]⟩, kind := 2 },
   { noField with place := ⟨1, noS, word [113, 116, 121]⟩, kind := 1, worth := 1 },
   { noField with place := ⟨1, noS, word [115, 105, 122, 101]⟩, kind := 3, dflt := word [109, 101, 100, 105, 117, 109], cases := [word [115, 109, 97, 108, 108], word [109, 101, 100, 105, 117, 109], word [108, 97, 114, 103, 101]] },
   { noField with place := ⟨1, noS, word [116, 97, 103, 115]⟩, kind := 4 }]
def rowFields (l : List SField) : Option Blk := some (.row 30 7 l.length fun i => at_ .any (fieldCells (l.getD i noField)))

theorem f19 : PCall Try.prog 19 [] (.sl 0) [rowFields rootFields] := by
  refine gcode hT hM Try.func19 rfl rfl (rv := [(0, none)]) rfl rfl rfl fun G hG => ?_
  conv => whnf
  refine ⟨⟨show 0 + 1 ≤ 9223372036854775807 by omega, show (0 + 1) * 96 ≤ 140737488355328 by omega⟩, ?_⟩
  conv => whnf
  refine ⟨⟨show 0 + 1 + 1 ≤ 9223372036854775807 by omega, show (0 + 1 + 1) * 96 ≤ 140737488355328 by omega⟩, ?_⟩
  conv => whnf
  refine ⟨⟨show 0 + 1 + 1 + 1 ≤ 9223372036854775807 by omega, show (0 + 1 + 1 + 1) * 96 ≤ 140737488355328 by omega⟩, ?_⟩
  conv => whnf
  refine ⟨⟨show 0 + 1 + 1 + 1 + 1 ≤ 9223372036854775807 by omega, show (0 + 1 + 1 + 1 + 1) * 96 ≤ 140737488355328 by omega⟩, ?_⟩
  conv => whnf
  refine ⟨⟨show 0 + 1 + 1 + 1 + 1 + 1 ≤ 9223372036854775807 by omega, show (0 + 1 + 1 + 1 + 1 + 1) * 96 ≤ 140737488355328 by omega⟩, ?_⟩
  conv => whnf
  refine ⟨[24608], _, _, _, rfl, rfl, rfl, RepLe.of rfl, BlkLe.rowLe rfl fun i j hi hj => ?_, trivial⟩
  have hi : i < 5 := hi
  have hj : j < 7 := hj
  have hj : j = 0 ∨ j = 1 ∨ j = 2 ∨ j = 3 ∨ j = 4 ∨ j = 5 ∨ j = 6 := by omega
  have hi : i = 0 ∨ i = 1 ∨ i = 2 ∨ i = 3 ∨ i = 4 := by omega
  rcases hi with rfl | rfl | rfl | rfl | rfl <;> rcases hj with rfl | rfl | rfl | rfl | rfl | rfl | rfl
  all_goals first | exact PLe.refl _ | exact PLe.nil | skip
  refine PLe.rows rfl fun a b ha hb => ?_
  have ha : a < 3 := ha
  have hb : b < 1 := hb
  have ha : a = 0 ∨ a = 1 ∨ a = 2 := by omega
  have hb : b = 0 := by omega
  subst hb
  rcases ha with rfl | rfl | rfl <;> rfl

def firstField : SField := { noField with place := ⟨0, noS, word [99, 111, 117, 112, 111, 110]⟩, kind := 2 }
def awakeLens : SLens := { noLens with kind := 2, field := firstField }
theorem awake_turn : inverse awakeLens = ({ awakeLens with kind := 3 }, 0) := by
  have h : lensOk awakeLens = true := by decide +kernel
  have h2 : turnOf awakeLens = { awakeLens with kind := 3 } := by
    unfold turnOf
    rw [show iEq awakeLens.kind 1 = false from iEq_f.2 (by decide), show iEq awakeLens.kind 2 = true from iEq_t.2 rfl]
    rfl
  unfold inverse
  rw [h, h2]; rfl
theorem sameLens_self (x : SLens) : sameLens x x = true := by simp [sameLens, sameRef_self, sameField_self, samePairs_self, iEq_self, sEq_self]

theorem awake_fit : fitLens awakeLens := ⟨Nat.zero_le _, Nat.zero_le _, Nat.zero_le _⟩
theorem f20 : PCall Try.prog 20 [] (.p (.val (.bool true))) [] := by
  refine gcode hT hM Try.func20 rfl rfl (rv := [(0, none)]) rfl rfl rfl fun G hG => ?_
  conv => whnf
  refine CallK.go [] (f19) rfl rfl rfl rfl rfl ?_
  conv => whnf
  refine ⟨by decide, ?_⟩
  conv => whnf
  refine ⟨by decide, ?_⟩
  conv => whnf
  refine CallK.go [] (GCall.arg1 (f22 awakeLens awake_fit) ?hh) rfl rfl rfl rfl rfl ?_
  case hh => exact PLe.rep (PLe.agg (by repeat' (first | refine PLes.cons ?_ ?_ | exact PLe.refl _ | exact PLe.nil | exact PLes.end)))
  conv => whnf
  refine ⟨fun c => ?_, fun c => ?_⟩
  · conv => whnf
    refine CallK.lent (GCall.args (f24 (inverse awakeLens).1 { awakeLens with kind := 3 } (by rw [awake_turn]; exact awake_fit.ok)) ?hh) rfl ?_
    case hh => exact allLe2 (RepLe.refl _) (PLe.rep (PLe.agg (by repeat' (first | refine PLes.cons ?_ ?_ | exact PLe.refl _ | exact PLe.nil | exact PLes.end))))
    conv => whnf
    exact ⟨[], _, _, _, rfl, rfl, rfl, RepLe.vb (by rw [awake_turn]; exact sameLens_self _), trivial⟩
  · have c : iEq (inverse awakeLens).2 0 = false := c
    rw [awake_turn, iEq_self] at c
    cases c
end Go.Proofs.Ytoophkcicdbnfaa
