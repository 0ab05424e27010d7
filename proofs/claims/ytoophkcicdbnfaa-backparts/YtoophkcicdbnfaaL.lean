/- The reference: is a lens right. -/
import Derived.Test.YtoophkcicdbnfaaK
set_option linter.unusedVariables false
set_option linter.unusedSimpArgs false
namespace Go.Proofs.Ytoophkcicdbnfaa
open Go Go.Av
set_option maxRecDepth 100000

def bare2 (x : SLens) : Bool := (iEq x.place.scope 0 && (sEq x.place.group noS && sEq x.place.name noS)) && (sEq x.name noS && (sEq x.other noS && (iEq x.factor 0 && (!tablesB x && fieldOk x.field))))
def conv2 (x : SLens) : Bool := iEq x.factor 0 && (forthOk x.forth x.back && (forthOk x.back x.forth && ((caseOf x.forth x.name).2 && ((caseOf x.back x.other).2 && (sEq (caseOf x.forth x.name).1 x.other && sEq (caseOf x.back x.other).1 x.name)))))
def kind2 (x : SLens) : Bool :=
  if tablesB x then false
  else if iEq x.kind 6 || iEq x.kind 9 then nameOk x.name && (nameOk x.other && (!sEq x.name x.other && (iLt 1 x.factor && iLt x.factor 1001)))
  else if !iEq x.factor 0 then false
  else if iEq x.kind 7 || iEq x.kind 10 then sEq x.name noS && iLt x.other.size 41
  else if !sEq x.other noS then false
  else if iEq x.kind 1 then nameOk x.name
  else if iEq x.kind 4 then sEq x.name noS && !sEq x.place.group noS
  else iEq x.kind 5 && (sEq x.place.group noS && nameOk x.name)
def right2 (x : SLens) : Bool :=
  if iEq x.kind 2 || iEq x.kind 3 then bare2 x
  else if !placeOk x.place || !sameField x.field noField then false
  else if iEq x.kind 8 then conv2 x
  else kind2 x

theorem iEq_d (a b : Int) : iEq a b = decide (a = b) := by unfold iEq; rfl
theorem iLe_d (a b : Int) : iLe a b = decide (a ≤ b) := by unfold iLe; rfl
theorem iLt_d (a b : Int) : iLt a b = decide (a < b) := by unfold iLt; rfl
theorem iEq_self (a : Int) : iEq a a = true := iEq_t.2 rfl
theorem allUpto_true (p : Nat → Bool) (h : ∀ i, p i = true) : ∀ (k i : Nat), allUpto p k i = true
  | 0, _ => rfl
  | k + 1, i => by show (p i && allUpto p k (i + 1)) = true; rw [h, allUpto_true p h]; rfl
theorem sameRef_self (r : SRef) : sameRef r r = true := by simp [sameRef, iEq_self, sEq_self]
theorem sameStrs_self (l : List ByteArray) : sameStrs l l = true := by simp [sameStrs, allUpto_true, sEq_self]
theorem sameField_self (f : SField) : sameField f f = true := by simp [sameField, sameRef_self, iEq_self, sEq_self, sameStrs_self]
theorem samePairs_self (l : List SPair) : samePairs l l = true := by simp [samePairs, allUpto_true, samePair, sEq_self]
theorem samePairs_nil (l : List SPair) : samePairs l [] = !iLt 0 (l.length : Int) := by
  cases l with
  | nil => simp [samePairs, allUpto, iLt_d]
  | cons a l => simp [samePairs, iLt_d]
theorem samePairs_tables (x : SLens) : (samePairs x.forth [] && samePairs x.back []) = !tablesB x := by
  rw [samePairs_nil, samePairs_nil]; unfold tablesB; cases iLt 0 (x.forth.length : Int) <;> cases iLt 0 (x.back.length : Int) <;> rfl

theorem right_ref (x : SLens) : right2 x = lensOk x := by
  have hk : x.kind = 1 ∨ x.kind = 2 ∨ x.kind = 3 ∨ x.kind = 4 ∨ x.kind = 5 ∨ x.kind = 6 ∨ x.kind = 7 ∨ x.kind = 8 ∨ x.kind = 9 ∨ x.kind = 10 ∨ x.kind < 1 ∨ 10 < x.kind := by omega
  have ht := samePairs_tables x
  have h41 : iLt (x.other.size : Int) 41 = iLe (x.other.size : Int) 40 := by rw [Bool.eq_iff_iff, iLt_t, iLe_t]; omega
  have hf1 : iLt 1 x.factor = iLe 2 x.factor := by rw [Bool.eq_iff_iff, iLt_t, iLe_t]; omega
  have hf2 : iLt x.factor 1001 = iLe x.factor 1000 := by rw [Bool.eq_iff_iff, iLt_t, iLe_t]; omega
  have hx : lensOk x = (iLe 1 x.kind && (iLe x.kind 10 && (sameLens x (partsOf x) && restOk x))) := rfl
  rw [hx, right2]
  have key : ∀ n : Int, iEq x.kind n = decide (x.kind = n) := fun n => iEq_d _ _
  rcases hk with hk | hk | hk | hk | hk | hk | hk | hk | hk | hk | hk | hk
  all_goals
    first | (have e1 : iEq x.kind 1 = true := by rw [iEq_t]; omega) | (have e1 : iEq x.kind 1 = false := by rw [iEq_f]; omega)
    first | (have e2 : iEq x.kind 2 = true := by rw [iEq_t]; omega) | (have e2 : iEq x.kind 2 = false := by rw [iEq_f]; omega)
    first | (have e3 : iEq x.kind 3 = true := by rw [iEq_t]; omega) | (have e3 : iEq x.kind 3 = false := by rw [iEq_f]; omega)
    first | (have e4 : iEq x.kind 4 = true := by rw [iEq_t]; omega) | (have e4 : iEq x.kind 4 = false := by rw [iEq_f]; omega)
    first | (have e5 : iEq x.kind 5 = true := by rw [iEq_t]; omega) | (have e5 : iEq x.kind 5 = false := by rw [iEq_f]; omega)
    first | (have e6 : iEq x.kind 6 = true := by rw [iEq_t]; omega) | (have e6 : iEq x.kind 6 = false := by rw [iEq_f]; omega)
    first | (have e7 : iEq x.kind 7 = true := by rw [iEq_t]; omega) | (have e7 : iEq x.kind 7 = false := by rw [iEq_f]; omega)
    first | (have e8 : iEq x.kind 8 = true := by rw [iEq_t]; omega) | (have e8 : iEq x.kind 8 = false := by rw [iEq_f]; omega)
    first | (have e9 : iEq x.kind 9 = true := by rw [iEq_t]; omega) | (have e9 : iEq x.kind 9 = false := by rw [iEq_f]; omega)
    first | (have e10 : iEq x.kind 10 = true := by rw [iEq_t]; omega) | (have e10 : iEq x.kind 10 = false := by rw [iEq_f]; omega)
    first | (have g1 : iLe 1 x.kind = true := by rw [iLe_t]; omega) | (have g1 : iLe 1 x.kind = false := by rw [iLe_f]; omega)
    first | (have g2 : iLe x.kind 10 = true := by rw [iLe_t]; omega) | (have g2 : iLe x.kind 10 = false := by rw [iLe_f]; omega)
    clear hk hx key
    simp only [g1, g2, e1, e2, e3, e4, e5, e6, e7, e8, e9, e10, bare2, kind2, conv2, restOk, kindOk, sameLens, partsOf, bareOf, Bool.or_true, Bool.or_false, Bool.true_or, Bool.false_or, Bool.false_and, Bool.true_and, Bool.and_false, if_true, if_false, Bool.false_eq_true, ↓reduceIte, Bool.not_true, Bool.not_false]
    simp only [g1, g2, e1, e2, e3, e4, e5, e6, e7, e8, e9, e10, sameRef_self, sameField_self, samePairs_self, sEq_self, iEq_self, h41, hf1, hf2, textOk, factorOk, convOk, takesOk, samePairs_nil, tablesB, Bool.true_and, Bool.false_and, Bool.and_true]
    clear e1 e2 e3 e4 e5 e6 e7 e8 e9 e10 g1 g2 h41 hf1 hf2 ht
  all_goals try simp only [show ∀ r, sameRef r noRef = (iEq r.scope 0 && (sEq r.group noS && sEq r.name noS)) from fun _ => rfl]
  all_goals try simp only [Bool.if_false_left, Bool.decide_eq_true]
  all_goals
    generalize placeOk x.place = b1
    generalize sameField x.field noField = b2
    generalize iLt 0 (x.forth.length : Int) = b3
    generalize iLt 0 (x.back.length : Int) = b4
    generalize iEq x.factor 0 = b5
    generalize sEq x.other noS = b6
    generalize nameOk x.name = b7
    generalize sEq x.name noS = b8
    generalize forthOk x.forth x.back = b9
    generalize forthOk x.back x.forth = b10
    generalize (caseOf x.forth x.name).2 = b11
    generalize (caseOf x.back x.other).2 = b12
    cases b1 <;> cases b2 <;> cases b3 <;> cases b4 <;> cases b5 <;> cases b6 <;> cases b7 <;> cases b8 <;> simp
  all_goals
    cases b9 <;> cases b10 <;> cases b11 <;> cases b12 <;> simp
end Go.Proofs.Ytoophkcicdbnfaa
