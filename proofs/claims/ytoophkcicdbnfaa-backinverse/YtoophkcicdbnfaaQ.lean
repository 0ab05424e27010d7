/- A lens turned twice. -/
import Derived.Test.YtoophkcicdbnfaaP
set_option linter.unusedVariables false
set_option linter.unusedSimpArgs false
namespace Go.Proofs.Ytoophkcicdbnfaa
open Go Go.Av
set_option maxRecDepth 100000

theorem nameOk_ne {s : ByteArray} (h : nameOk s = true) : sEq s noS = false := by
  rw [size_empty, iLe_f]
  simp only [nameOk, Bool.and_eq_true] at h
  exact iLt_t.1 h.1.1.1

theorem turn_ok (x : SLens) (h : lensOk x = true) : lensOk (turnOf x) = true := by
  have hk := kind_range h
  have hne := @nameOk_ne
  rcases hk with hk | hk | hk | hk | hk | hk | hk | hk | hk | hk
  all_goals
    simp [lensOk, restOk, kindOk, sameLens, partsOf, bareOf, iEq_d, iLe_d, hk, sameRef_self, sameField_self, samePairs_self, sEq_self, placeOk] at h
    simp [turnOf, lensOk, restOk, kindOk, sameLens, partsOf, bareOf, iEq_d, iLe_d, hk, sameRef_self, sameField_self, samePairs_self, sEq_self, placeOk]
    try (simp only [convOk, Bool.and_eq_true] at h ⊢)
    try grind
theorem turn_twice (x : SLens) (h : lensOk x = true) : sameLens (turnOf (turnOf x)) x = true := by
  have hk := kind_range h
  rcases hk with hk | hk | hk | hk | hk | hk | hk | hk | hk | hk
  all_goals
    simp [lensOk, restOk, kindOk, sameLens, partsOf, bareOf, iEq_d, iLe_d, hk, sameRef_self, sameField_self, samePairs_self, sEq_self, placeOk] at h
    simp [turnOf, sameLens, sameRef, iEq_d, hk, sameField_self, samePairs_self, sEq_self]
    try rw [sEq_comm]
    try grind

def lawOf (x : SLens) : Bool :=
  heavyLens x || (!iEq (inverse x).2 0 || (lensOk (inverse x).1 && (iEq (inverse (inverse x).1).2 0 && sameLens (inverse (inverse x).1).1 x)))
theorem law_true (x : SLens) : lawOf x = true := by
  unfold lawOf
  cases h : lensOk x with
  | false => simp [inverse, h, iEq_d]
  | true => simp [inverse, h, turn_ok x h, turn_twice x h, iEq_self]
theorem turn_fit (x : SLens) (h : fitLens x) : fitLens (turnOf x) := by
  unfold turnOf
  repeat' (split; exact h)
  split
  · exact ⟨h.1, h.2.2, h.2.1⟩
  · exact h
theorem inverse_fit (x : SLens) (h : fitLens x) : fitLens (inverse x).1 := by
  unfold inverse
  split
  · exact turn_fit x h
  · exact ⟨Nat.zero_le _, Nat.zero_le _, Nat.zero_le _⟩
end Go.Proofs.Ytoophkcicdbnfaa
