/- LensCases: the awakening, and the law itself. -/
import Derived.Test.YtoophkcicdbnfaaAR
set_option linter.unusedVariables false
set_option linter.unusedSimpArgs false
namespace Go.Proofs.Ytoophkcicdbnfaa
open Go Go.Av
set_option maxRecDepth 100000
set_option maxHeartbeats 2000000

def splitLens : SLens := { noLens with kind := 6, place := ⟨1, noS, word [113, 116, 121]⟩, name := word [117, 110, 105, 116], other := word [98, 111, 120], factor := 12 }
def boxRef : SRef := ⟨1, noS, word [98, 111, 120]⟩
theorem split_fit : fitLens splitLens := ⟨Nat.zero_le _, Nat.zero_le _, Nat.zero_le _⟩
theorem split_code : (applyF rootFields splitLens).2 = 0 := by decide +kernel
theorem split_len : (applyF rootFields splitLens).1.length = 6 := by decide +kernel
theorem split_cases : ∀ y ∈ (applyF rootFields splitLens).1, y.cases.length ≤ 8796093022208 := by decide +kernel
theorem split_all : fitFields (applyF rootFields splitLens).1 := ⟨by rw [split_len]; decide, split_cases⟩
theorem split_box : (fieldAt (applyF rootFields splitLens).1 (placeIn (applyF rootFields splitLens).1 boxRef)).2 = 0 := by decide +kernel
theorem split_worth : (fieldAt (applyF rootFields splitLens).1 (placeIn (applyF rootFields splitLens).1 boxRef)).1.worth = 12 := by decide +kernel

theorem f48 : PCall Try.prog 48 [] (.p (.val (.bool true))) [] := by
  refine gcode hT hM Try.func48 rfl rfl (rv := [(0, none)]) rfl rfl rfl fun G hG => ?_
  conv => whnf
  refine CallK.go [] (f19) rfl rfl rfl rfl rfl ?_
  conv => whnf
  refine CallK.go [] (GCall.args (f49 rootFields splitLens root_fit split_fit) ?hh) rfl rfl rfl rfl rfl ?_
  case hh => exact allLe2 (RepLe.refl _) (PLe.rep (PLe.agg (by repeat' (first | refine PLes.cons ?_ ?_ | exact PLe.refl _ | exact PLe.nil | exact PLes.end))))
  conv => whnf
  refine CallK.go [] (f30 (applyF rootFields splitLens).1 boxRef split_all) rfl rfl rfl rfl rfl ?_
  conv => whnf
  refine ⟨fun a1 => ?_, fun a1 => ?_⟩
  · conv => whnf
    refine ⟨fun a2 => ?_, fun a2 => ?_⟩
    · conv => whnf
      refine ⟨fun a3 => ?_, fun a3 => ?_⟩
      · conv => whnf
        exact ⟨[], _, _, _, rfl, rfl, rfl, RepLe.vb (by rw [iEq_t]; exact split_worth), trivial⟩
      · rw [iEq_f] at a3
        exact absurd (by rw [split_len]; rfl) a3
    · rw [iEq_f] at a2
      exact absurd split_box a2
  · rw [iEq_f] at a1
    exact absurd split_code a1

theorem f11 (t : List SPair) (s : ByteArray) (ht : t.length ≤ maxLen) : PCall Try.prog 11 [encPairs t, .val (.string s)] (.p (.val (.bool true))) [] := by
  refine gcode hT hM Try.func11 rfl rfl (rv := [(4, none)]) rfl rfl rfl fun G hG => ?_
  conv => whnf
  refine CallK.lent (f48) rfl ?_
  conv => whnf
  refine ⟨fun h => ?_, fun h => ?_⟩
  · cases h
  conv => whnf
  refine ⟨fun h1 => ?_, fun h1 => ?_⟩
  · conv => whnf
    exact ⟨[], _, _, _, rfl, rfl, rfl, RepLe.bl rfl, trivial⟩
  conv => whnf
  refine CallK.go [] (f54 t s ht) rfl rfl rfl rfl rfl ?_
  conv => whnf
  refine CallK.go [] (f55 t s ht) rfl rfl rfl rfl rfl ?_
  conv => whnf
  refine ⟨fun a1 => ?_, fun a1 => ?_⟩
  · conv => whnf
    exact ⟨[], _, _, _, rfl, rfl, rfl, RepLe.vb (bEq_self _), trivial⟩
  · rw [sEq_f] at a1
    exact absurd rfl a1
end Go.Proofs.Ytoophkcicdbnfaa
