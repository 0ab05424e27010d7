import Derived.Test.YtalpbdabeffnlaaGreatJoK
/- The reference: is a lens right. -/
set_option linter.unusedVariables false
set_option linter.unusedSimpArgs false
namespace Go.Proofs.YtalpbdabeffnlaaGreat
open Go Go.Av
set_option maxRecDepth 100000

def bare2 (x : SLens) : Bool := (iEq x.place.scope 0 && (sEq x.place.group noS && sEq x.place.name noS)) && (sEq x.name noS && (sEq x.other noS && (iEq x.factor 0 && (!tablesB x && fieldOk x.field))))
def conv2 (x : SLens) : Bool := iEq x.factor 0 && (forthOk x.forth x.back && (forthOk x.back x.forth && ((caseOf x.forth x.name).2 && ((caseOf x.back x.other).2 && (sEq (caseOf x.forth x.name).1 x.other && sEq (caseOf x.back x.other).1 x.name)))))
def kind2 (x : SLens) : Bool :=
  if tablesB x then false
  else if iEq x.kind 6 || iEq x.kind 9 then nameOk x.name && (nameOk x.other && (!sEq x.name x.other && (iLt 1 x.factor && iLt x.factor 1001)))
  else if !iEq x.factor 0 then false
  else if iEq x.kind 7 || iEq x.kind 10 then sEq x.name noS && iLt x.other.size 41
  else if !sEq x.other noS then false
  else if iEq x.kind 1 then nameOk x.name
  else if iEq x.kind 4 then sEq x.name noS && !sEq x.place.group noS
  else iEq x.kind 5 && (sEq x.place.group noS && nameOk x.name)
def right2 (x : SLens) : Bool :=
  if iEq x.kind 2 || iEq x.kind 3 then bare2 x
  else if !placeOk x.place || !sameField x.field noField then false
  else if iEq x.kind 8 then conv2 x
  else kind2 x

theorem iEq_d (a b : Int) : iEq a b = decide (a = b) := by unfold iEq; rfl
theorem iLe_d (a b : Int) : iLe a b = decide (a ≤ b) := by unfold iLe; rfl
theorem iLt_d (a b : Int) : iLt a b = decide (a < b) := by unfold iLt; rfl
theorem iEq_self (a : Int) : iEq a a = true := iEq_t.2 rfl
theorem allUpto_true (p : Nat → Bool) (h : ∀ i, p i = true) : ∀ (k i : Nat), allUpto p k i = true
  | 0, _ => rfl
  | k + 1, i => by show (p i && allUpto p k (i + 1)) = true; rw [h, allUpto_true p h]; rfl
theorem sameRef_self (r : SRef) : sameRef r r = true := by simp [sameRef, iEq_self, sEq_self]
theorem sameStrs_self (l : List ByteArray) : sameStrs l l = true := by simp [sameStrs, allUpto_true, sEq_self]
theorem sameField_self (f : SField) : sameField f f = true := by simp [sameField, sameRef_self, iEq_self, sEq_self, sameStrs_self]
theorem samePairs_self (l : List SPair) : samePairs l l = true := by simp [samePairs, allUpto_true, samePair, sEq_self]
theorem samePairs_nil (l : List SPair) : samePairs l [] = !iLt 0 (l.length : Int) := by
  cases l with
  | nil => simp [samePairs, allUpto, iLt_d]
  | cons a l => simp [samePairs, iLt_d]
theorem samePairs_tables (x : SLens) : (samePairs x.forth [] && samePairs x.back []) = !tablesB x := by
  rw [samePairs_nil, samePairs_nil]; unfold tablesB; cases iLt 0 (x.forth.length : Int) <;> cases iLt 0 (x.back.length : Int) <;> rfl

theorem right_ref (x : SLens) : right2 x = lensOk x := by
  have hk : x.kind = 1 ∨ x.kind = 2 ∨ x.kind = 3 ∨ x.kind = 4 ∨ x.kind = 5 ∨ x.kind = 6 ∨ x.kind = 7 ∨ x.kind = 8 ∨ x.kind = 9 ∨ x.kind = 10 ∨ x.kind < 1 ∨ 10 < x.kind := by omega
  have ht := samePairs_tables x
  have h41 : iLt (x.other.size : Int) 41 = iLe (x.other.size : Int) 40 := by rw [Bool.eq_iff_iff, iLt_t, iLe_t]; omega
  have hf1 : iLt 1 x.factor = iLe 2 x.factor := by rw [Bool.eq_iff_iff, iLt_t, iLe_t]; omega
  have hf2 : iLt x.factor 1001 = iLe x.factor 1000 := by rw [Bool.eq_iff_iff, iLt_t, iLe_t]; omega
  have hx : lensOk x = (iLe 1 x.kind && (iLe x.kind 10 && (sameLens x (partsOf x) && restOk x))) := rfl
  rw [hx, right2]
  have key : ∀ n : Int, iEq x.kind n = decide (x.kind = n) := fun n => iEq_d _ _
  rcases hk with hk | hk | hk | hk | hk | hk | hk | hk | hk | hk | hk | hk
  all_goals
    first | (have e1 : iEq x.kind 1 = true := by rw [iEq_t]; omega) | (have e1 : iEq x.kind 1 = false := by rw [iEq_f]; omega)
    first | (have e2 : iEq x.kind 2 = true := by rw [iEq_t]; omega) | (have e2 : iEq x.kind 2 = false := by rw [iEq_f]; omega)
    first | (have e3 : iEq x.kind 3 = true := by rw [iEq_t]; omega) | (have e3 : iEq x.kind 3 = false := by rw [iEq_f]; omega)
    first | (have e4 : iEq x.kind 4 = true := by rw [iEq_t]; omega) | (have e4 : iEq x.kind 4 = false := by rw [iEq_f]; omega)
    first | (have e5 : iEq x.kind 5 = true := by rw [iEq_t]; omega) | (have e5 : iEq x.kind 5 = false := by rw [iEq_f]; omega)
    first | (have e6 : iEq x.kind 6 = true := by rw [iEq_t]; omega) | (have e6 : iEq x.kind 6 = false := by rw [iEq_f]; omega)
    first | (have e7 : iEq x.kind 7 = true := by rw [iEq_t]; omega) | (have e7 : iEq x.kind 7 = false := by rw [iEq_f]; omega)
    first | (have e8 : iEq x.kind 8 = true := by rw [iEq_t]; omega) | (have e8 : iEq x.kind 8 = false := by rw [iEq_f]; omega)
    first | (have e9 : iEq x.kind 9 = true := by rw [iEq_t]; omega) | (have e9 : iEq x.kind 9 = false := by rw [iEq_f]; omega)
    first | (have e10 : iEq x.kind 10 = true := by rw [iEq_t]; omega) | (have e10 : iEq x.kind 10 = false := by rw [iEq_f]; omega)
    first | (have g1 : iLe 1 x.kind = true := by rw [iLe_t]; omega) | (have g1 : iLe 1 x.kind = false := by rw [iLe_f]; omega)
    first | (have g2 : iLe x.kind 10 = true := by rw [iLe_t]; omega) | (have g2 : iLe x.kind 10 = false := by rw [iLe_f]; omega)
    clear hk hx key
    simp only [g1, g2, e1, e2, e3, e4, e5, e6, e7, e8, e9, e10, bare2, kind2, conv2, restOk, kindOk, sameLens, partsOf, bareOf, Bool.or_true, Bool.or_false, Bool.true_or, Bool.false_or, Bool.false_and, Bool.true_and, Bool.and_false, if_true, if_false, Bool.false_eq_true, ↓reduceIte, Bool.not_true, Bool.not_false]
    simp only [g1, g2, e1, e2, e3, e4, e5, e6, e7, e8, e9, e10, sameRef_self, sameField_self, samePairs_self, sEq_self, iEq_self, h41, hf1, hf2, textOk, factorOk, convOk, takesOk, samePairs_nil, tablesB, Bool.true_and, Bool.false_and, Bool.and_true]
    clear e1 e2 e3 e4 e5 e6 e7 e8 e9 e10 g1 g2 h41 hf1 hf2 ht
  all_goals try simp only [show ∀ r, sameRef r noRef = (iEq r.scope 0 && (sEq r.group noS && sEq r.name noS)) from fun _ => rfl]
  all_goals try simp only [Bool.if_false_left, Bool.decide_eq_true]
  all_goals
    generalize placeOk x.place = b1
    generalize sameField x.field noField = b2
    generalize iLt 0 (x.forth.length : Int) = b3
    generalize iLt 0 (x.back.length : Int) = b4
    generalize iEq x.factor 0 = b5
    generalize sEq x.other noS = b6
    generalize nameOk x.name = b7
    generalize sEq x.name noS = b8
    generalize forthOk x.forth x.back = b9
    generalize forthOk x.back x.forth = b10
    generalize (caseOf x.forth x.name).2 = b11
    generalize (caseOf x.back x.other).2 = b12
    cases b1 <;> cases b2 <;> cases b3 <;> cases b4 <;> cases b5 <;> cases b6 <;> cases b7 <;> cases b8 <;> simp
  all_goals
    cases b9 <;> cases b10 <;> cases b11 <;> cases b12 <;> simp
end Go.Proofs.YtalpbdabeffnlaaGreat

/- The reference's lens, right and turned round. -/
set_option linter.unusedVariables false
set_option linter.unusedSimpArgs false
namespace Go.Proofs.YtalpbdabeffnlaaGreat
open Go Go.Av
set_option maxRecDepth 100000

theorem f56 (x : SLens) (hx : fitLens x) : PCall Tryz.prog 44 [encLens x] (.p (.val (.bool (lensOk x)))) [] := by
  rw [← right_ref]
  refine gcode hT hM Tryz.func44 rfl rfl (rv := [(2, none)]) rfl rfl rfl fun G hG => ?_
  conv => whnf
  refine ⟨fun a2 => ?_, fun a2 => ?_⟩
  · conv => whnf
    repeat' (first
      | (refine ⟨fun _ => ?_, fun _ => ?_⟩ <;> (conv => whnf))
      | (refine CallK.lent (f105 x) rfl ?_; conv => whnf)
      | (refine CallK.lent (f85 x.field hx.1.ok) rfl ?_; conv => whnf)
      | (refine And.intro rfl ?_; conv => whnf)
      | (exact ⟨[], _, _, _, rfl, rfl, rfl, RepLe.bl (by first | (simp_all [right2, bare2, noS]; done) | grind [right2, bare2, noS]), trivial⟩)
      | (exact ⟨[], _, _, _, rfl, rfl, rfl, RepLe.vb (by first | (simp_all [right2, bare2, noS]; done) | grind [right2, bare2, noS]), trivial⟩))
  conv => whnf
  refine ⟨fun a3 => ?_, fun a3 => ?_⟩
  · conv => whnf
    repeat' (first
      | (refine ⟨fun _ => ?_, fun _ => ?_⟩ <;> (conv => whnf))
      | (refine CallK.lent (f105 x) rfl ?_; conv => whnf)
      | (refine CallK.lent (f85 x.field hx.1.ok) rfl ?_; conv => whnf)
      | (refine And.intro rfl ?_; conv => whnf)
      | (exact ⟨[], _, _, _, rfl, rfl, rfl, RepLe.bl (by first | (simp_all [right2, bare2, noS]; done) | grind [right2, bare2, noS]), trivial⟩)
      | (exact ⟨[], _, _, _, rfl, rfl, rfl, RepLe.vb (by first | (simp_all [right2, bare2, noS]; done) | grind [right2, bare2, noS]), trivial⟩))
  conv => whnf
  refine CallK.lent (f106 x.place) rfl ?_
  conv => whnf
  refine ⟨fun b1 => ?_, fun b1 => ?_⟩
  · conv => whnf
    exact ⟨[], _, _, _, rfl, rfl, rfl, RepLe.bl (by simp_all [right2]), trivial⟩
  conv => whnf
  refine CallK.lent (f107 x hx.ok) rfl ?_
  conv => whnf
  refine ⟨fun b2 => ?_, fun b2 => ?_⟩
  · conv => whnf
    exact ⟨[], _, _, _, rfl, rfl, rfl, RepLe.bl (by simp_all [right2]), trivial⟩
  conv => whnf
  have b1 : placeOk x.place = true := by simpa using b1
  have b2 : sameField x.field noField = true := by simpa using b2
  refine ⟨fun a8 => ?_, fun a8 => ?_⟩
  · have hk : right2 x = conv2 x := by simp_all [right2]
    clear a2 a3 b1 b2 a8
    conv => whnf
    refine CallK.go [] (f55 x.forth x.name hx.ok.2.1) rfl rfl rfl rfl rfl ?_
    conv => whnf
    refine CallK.go [] (f55 x.back x.other hx.ok.2.2) rfl rfl rfl rfl rfl ?_
    conv => whnf
    conv => whnf
    repeat' (first
      | (refine ⟨fun _ => ?_, fun _ => ?_⟩ <;> (conv => whnf))
      | (refine CallK.lent (f108 _ _ hx.2.1 hx.2.2) rfl ?_; conv => whnf)
      | (refine CallK.lent (f108 _ _ hx.2.2 hx.2.1) rfl ?_; conv => whnf)
      | (refine And.intro rfl ?_; conv => whnf)
      | (exact ⟨[], _, _, _, rfl, rfl, rfl, RepLe.bl (by first | (simp_all [conv2]; done) | grind [conv2]), trivial⟩)
      | (exact ⟨[], _, _, _, rfl, rfl, rfl, RepLe.vb (by first | (simp_all [conv2]; done) | grind [conv2]), trivial⟩))
  have hk : right2 x = kind2 x := by simp_all [right2]
  clear a2 a3 b1 b2 a8
  conv => whnf
  refine CallK.lent (f105 x) rfl ?_
  conv => whnf
  refine ⟨fun t0 => ?_, fun t0 => ?_⟩
  · conv => whnf
    exact ⟨[], _, _, _, rfl, rfl, rfl, RepLe.bl (by simp_all [kind2]), trivial⟩
  have t0 : tablesB x = false := t0
  conv => whnf
  refine ⟨fun a6 => ?_, fun a6 => ?_⟩
  · conv => whnf
    repeat' (first
      | (refine ⟨fun _ => ?_, fun _ => ?_⟩ <;> (conv => whnf))
      | (refine CallK.lent (f109 _) rfl ?_; conv => whnf)
      | (refine And.intro rfl ?_; conv => whnf)
      | (exact ⟨[], _, _, _, rfl, rfl, rfl, RepLe.bl (by first | (simp_all [kind2]; done) | grind [kind2]), trivial⟩)
      | (exact ⟨[], _, _, _, rfl, rfl, rfl, RepLe.vb (by first | (simp_all [kind2]; done) | grind [kind2]), trivial⟩))
  conv => whnf
  refine ⟨fun a9 => ?_, fun a9 => ?_⟩
  · conv => whnf
    repeat' (first
      | (refine ⟨fun _ => ?_, fun _ => ?_⟩ <;> (conv => whnf))
      | (refine CallK.lent (f109 _) rfl ?_; conv => whnf)
      | (refine And.intro rfl ?_; conv => whnf)
      | (exact ⟨[], _, _, _, rfl, rfl, rfl, RepLe.bl (by first | (simp_all [kind2]; done) | grind [kind2]), trivial⟩)
      | (exact ⟨[], _, _, _, rfl, rfl, rfl, RepLe.vb (by first | (simp_all [kind2]; done) | grind [kind2]), trivial⟩))
  conv => whnf
  refine ⟨fun c0 => ?_, fun c0 => ?_⟩
  · conv => whnf
    exact ⟨[], _, _, _, rfl, rfl, rfl, RepLe.bl (by simp_all [kind2]), trivial⟩
  have c0 : iEq x.factor 0 = true := by simpa using c0
  conv => whnf
  refine ⟨fun a7 => ?_, fun a7 => ?_⟩
  · conv => whnf
    repeat' (first
      | (refine ⟨fun _ => ?_, fun _ => ?_⟩ <;> (conv => whnf))
      | (refine And.intro rfl ?_; conv => whnf)
      | (exact ⟨[], _, _, _, rfl, rfl, rfl, RepLe.bl (by first | (simp_all [kind2, noS]; done) | grind [kind2, noS]), trivial⟩)
      | (exact ⟨[], _, _, _, rfl, rfl, rfl, RepLe.vb (by first | (simp_all [kind2, noS]; done) | grind [kind2, noS]), trivial⟩))
  conv => whnf
  refine ⟨fun a10 => ?_, fun a10 => ?_⟩
  · conv => whnf
    repeat' (first
      | (refine ⟨fun _ => ?_, fun _ => ?_⟩ <;> (conv => whnf))
      | (refine And.intro rfl ?_; conv => whnf)
      | (exact ⟨[], _, _, _, rfl, rfl, rfl, RepLe.bl (by first | (simp_all [kind2, noS]; done) | grind [kind2, noS]), trivial⟩)
      | (exact ⟨[], _, _, _, rfl, rfl, rfl, RepLe.vb (by first | (simp_all [kind2, noS]; done) | grind [kind2, noS]), trivial⟩))
  conv => whnf
  refine ⟨fun o0 => ?_, fun o0 => ?_⟩
  · have o0 : sEq x.other noS = false := by simpa [noS] using o0
    conv => whnf
    exact ⟨[], _, _, _, rfl, rfl, rfl, RepLe.bl (by simp_all [kind2]), trivial⟩
  have o0 : sEq x.other noS = true := by simpa [noS] using o0
  conv => whnf
  refine ⟨fun a1 => ?_, fun a1 => ?_⟩
  · conv => whnf
    refine CallK.lent (f109 _) rfl ?_
    conv => whnf
    exact ⟨[], _, _, _, rfl, rfl, rfl, RepLe.vb (by simp_all [kind2]), trivial⟩
  conv => whnf
  refine ⟨fun a4 => ?_, fun a4 => ?_⟩
  · conv => whnf
    repeat' (first
      | (refine ⟨fun _ => ?_, fun _ => ?_⟩ <;> (conv => whnf))
      | (refine And.intro rfl ?_; conv => whnf)
      | (exact ⟨[], _, _, _, rfl, rfl, rfl, RepLe.bl (by first | (simp_all [kind2, noS]; done) | grind [kind2, noS]), trivial⟩)
      | (exact ⟨[], _, _, _, rfl, rfl, rfl, RepLe.vb (by first | (simp_all [kind2, noS]; done) | grind [kind2, noS]), trivial⟩))
  conv => whnf
  repeat' (first
    | (refine ⟨fun _ => ?_, fun _ => ?_⟩ <;> (conv => whnf))
    | (refine CallK.lent (f109 _) rfl ?_; conv => whnf)
    | (refine And.intro rfl ?_; conv => whnf)
    | (exact ⟨[], _, _, _, rfl, rfl, rfl, RepLe.bl (by first | (simp_all [kind2, noS]; done) | grind [kind2, noS]), trivial⟩)
    | (exact ⟨[], _, _, _, rfl, rfl, rfl, RepLe.vb (by first | (simp_all [kind2, noS]; done) | grind [kind2, noS]), trivial⟩))
end Go.Proofs.YtalpbdabeffnlaaGreat

/- The reference's turn; what is heavy. -/
set_option linter.unusedVariables false
set_option linter.unusedSimpArgs false
namespace Go.Proofs.YtalpbdabeffnlaaGreat
open Go Go.Av
set_option maxRecDepth 100000
set_option maxHeartbeats 2000000

def otherOf (k : Int) : Int :=
  if iEq k 2 || iEq k 3 then 5 - k else if iEq k 4 || iEq k 5 then 9 - k else if iEq k 6 || iEq k 9 then 15 - k else if iEq k 7 || iEq k 10 then 17 - k else k
theorem f68 (k : Int) : PCall Tryz.prog 97 [.val (.int .i64 k)] (.p (.val (.int .i64 (otherOf k)))) [] := by
  have hb : ∀ a, iEq k a = true → k = a := fun a h => iEq_t.1 h
  refine gcode hT hM Tryz.func97 rfl rfl (rv := [(2, none)]) rfl rfl rfl fun G hG => ?_
  conv => whnf
  repeat' (first
    | (refine ⟨fun _ => ?_, fun _ => ?_⟩ <;> (conv => whnf))
    | (intro z hz; have hz' := wrap64_eq hz (by have := hb _ ‹_›; omega) (by have := hb _ ‹_›; omega); clear hz; subst hz'; conv => whnf)
    | (exact ⟨[], _, _, _, rfl, rfl, rfl, RepLe.vi (by clear hb; simp_all [otherOf]), trivial⟩))

/-- The reference's turned lens, as it builds it. -/
def turn2 (x : SLens) : SLens :=
  let y : SLens := { x with kind := otherOf x.kind, forth := x.back, back := x.forth }
  let y := if iEq x.kind 1 then { y with place := { y.place with name := x.name }, name := x.place.name } else y
  let y := if iEq x.kind 4 then { y with place := { y.place with group := noS }, name := x.place.group } else y
  let y := if iEq x.kind 5 then { y with place := { y.place with group := x.name }, name := noS } else y
  if iEq x.kind 8 then { y with name := x.other, other := x.name } else y
def inverse2 (x : SLens) : SLens × Int := if lensOk x then (turn2 x, 0) else (noLens, 5)

theorem f23 (x : SLens) (hx : fitLens x) : PCall Tryz.prog 45 [encLens x] (encInv (inverse2 x)) [] := by
  refine gcode hT hM Tryz.func45 rfl rfl (rv := [(2, some 42), (3, none)]) rfl rfl rfl fun G hG => ?_
  conv => whnf
  refine CallK.lent (f56 x hx) rfl ?_
  conv => whnf
  refine ⟨fun h => ?_, fun h => ?_⟩
  · conv => whnf
    exact ⟨[], _, _, _, rfl, rfl, rfl, RepLe.as encInv (a := (noLens, 5)) (by simp_all [inverse2]) (RepLe.tup2 (PLe.rep (PLe.agg (by repeat' (first | refine PLes.cons ?_ ?_ | exact PLe.refl _ | exact PLe.nil | exact PLes.end)))) (RepLe.refl _)), trivial⟩
  conv => whnf
  have h : lensOk x = true := by simpa using h
  have hi : inverse2 x = (turn2 x, 0) := by simp [inverse2, h]
  clear h
  refine CallK.lent (f68 _) rfl ?_
  conv => whnf
  refine ⟨rfl, ?_⟩
  conv => whnf
  refine ⟨fun a1 => ?_, fun a1 => ?_⟩
  · have a4 := iEq_ne 4 a1 (by decide)
    have a5 := iEq_ne 5 a1 (by decide)
    have a8 := iEq_ne 8 a1 (by decide)
    conv => whnf
    refine ⟨fun h => Bool.noConfusion (a4.symm.trans h), fun _ => ?_⟩
    conv => whnf
    refine ⟨fun h => Bool.noConfusion (a5.symm.trans h), fun _ => ?_⟩
    conv => whnf
    refine ⟨fun h => Bool.noConfusion (a8.symm.trans h), fun _ => ?_⟩
    conv => whnf
    exact ⟨[], _, _, _, rfl, rfl, rfl, RepLe.as encInv (a := ({ x with kind := otherOf x.kind, forth := x.back, back := x.forth, place := { x.place with name := x.name }, name := x.place.name }, 0)) (by simp_all [turn2]) (RepLe.tup2 (PLe.rep (PLe.agg (by repeat' (first | refine PLes.cons ?_ ?_ | exact PLe.refl _ | exact PLe.nil | exact PLes.end)))) (RepLe.refl _)), trivial⟩
  conv => whnf
  refine ⟨fun a4 => ?_, fun a4 => ?_⟩
  · have a5 := iEq_ne 5 a4 (by decide)
    have a8 := iEq_ne 8 a4 (by decide)
    conv => whnf
    refine ⟨fun h => Bool.noConfusion (a5.symm.trans h), fun _ => ?_⟩
    conv => whnf
    refine ⟨fun h => Bool.noConfusion (a8.symm.trans h), fun _ => ?_⟩
    conv => whnf
    exact ⟨[], _, _, _, rfl, rfl, rfl, RepLe.as encInv (a := ({ x with kind := otherOf x.kind, forth := x.back, back := x.forth, place := { x.place with group := noS }, name := x.place.group }, 0)) (by simp_all [turn2]) (RepLe.tup2 (PLe.rep (PLe.agg (by repeat' (first | refine PLes.cons ?_ ?_ | exact PLe.refl _ | exact PLe.nil | exact PLes.end)))) (RepLe.refl _)), trivial⟩
  conv => whnf
  refine ⟨fun a5 => ?_, fun a5 => ?_⟩
  · have a8 := iEq_ne 8 a5 (by decide)
    conv => whnf
    refine ⟨fun h => Bool.noConfusion (a8.symm.trans h), fun _ => ?_⟩
    conv => whnf
    exact ⟨[], _, _, _, rfl, rfl, rfl, RepLe.as encInv (a := ({ x with kind := otherOf x.kind, forth := x.back, back := x.forth, place := { x.place with group := x.name }, name := noS }, 0)) (by simp_all [turn2]) (RepLe.tup2 (PLe.rep (PLe.agg (by repeat' (first | refine PLes.cons ?_ ?_ | exact PLe.refl _ | exact PLe.nil | exact PLes.end)))) (RepLe.refl _)), trivial⟩
  conv => whnf
  refine ⟨fun a8 => ?_, fun a8 => ?_⟩
  · conv => whnf
    exact ⟨[], _, _, _, rfl, rfl, rfl, RepLe.as encInv (a := ({ x with kind := otherOf x.kind, forth := x.back, back := x.forth, name := x.other, other := x.name }, 0)) (by simp_all [turn2]) (RepLe.tup2 (PLe.rep (PLe.agg (by repeat' (first | refine PLes.cons ?_ ?_ | exact PLe.refl _ | exact PLe.nil | exact PLes.end)))) (RepLe.refl _)), trivial⟩
  conv => whnf
  exact ⟨[], _, _, _, rfl, rfl, rfl, RepLe.as encInv (a := ({ x with kind := otherOf x.kind, forth := x.back, back := x.forth }, 0)) (by simp_all [turn2]) (RepLe.tup2 (PLe.rep (PLe.agg (by repeat' (first | refine PLes.cons ?_ ?_ | exact PLe.refl _ | exact PLe.nil | exact PLes.end)))) (RepLe.refl _)), trivial⟩

theorem samePairs_empty {l : List SPair} (h : samePairs l [] = true) : l = [] := by
  rw [samePairs_nil] at h
  cases l with
  | nil => rfl
  | cons a l => simp [iLt_d] at h
theorem no_tables {x : SLens} (h : lensOk x = true) (h8 : iEq x.kind 8 = false) : x.forth = [] ∧ x.back = [] := by
  simp only [lensOk, sameLens, Bool.and_eq_true] at h
  obtain ⟨_, _, ⟨_, _, _, _, _, _, hf, hb⟩, _⟩ := h
  have p : (partsOf x).forth = [] ∧ (partsOf x).back = [] := by
    unfold partsOf
    split
    · exact ⟨rfl, rfl⟩
    split
    · exact ⟨rfl, rfl⟩
    split
    · exact ⟨rfl, rfl⟩
    split
    · exact ⟨rfl, rfl⟩
    rw [if_neg (by rw [h8]; simp)]
    exact ⟨rfl, rfl⟩
  rw [p.1] at hf
  rw [p.2] at hb
  exact ⟨samePairs_empty hf, samePairs_empty hb⟩
theorem kind_range {x : SLens} (h : lensOk x = true) : x.kind = 1 ∨ x.kind = 2 ∨ x.kind = 3 ∨ x.kind = 4 ∨ x.kind = 5 ∨ x.kind = 6 ∨ x.kind = 7 ∨ x.kind = 8 ∨ x.kind = 9 ∨ x.kind = 10 := by
  simp only [lensOk, Bool.and_eq_true, iLe_t] at h
  omega
theorem turn_ref (x : SLens) (h : lensOk x = true) : turn2 x = turnOf x := by
  have hk := kind_range h
  have hn := fun h8 => no_tables h h8
  clear h
  rcases hk with hk | hk | hk | hk | hk | hk | hk | hk | hk | hk
  all_goals
    first | (have e1 : iEq x.kind 1 = true := by rw [iEq_t]; omega) | (have e1 : iEq x.kind 1 = false := by rw [iEq_f]; omega)
    first | (have e2 : iEq x.kind 2 = true := by rw [iEq_t]; omega) | (have e2 : iEq x.kind 2 = false := by rw [iEq_f]; omega)
    first | (have e3 : iEq x.kind 3 = true := by rw [iEq_t]; omega) | (have e3 : iEq x.kind 3 = false := by rw [iEq_f]; omega)
    first | (have e4 : iEq x.kind 4 = true := by rw [iEq_t]; omega) | (have e4 : iEq x.kind 4 = false := by rw [iEq_f]; omega)
    first | (have e5 : iEq x.kind 5 = true := by rw [iEq_t]; omega) | (have e5 : iEq x.kind 5 = false := by rw [iEq_f]; omega)
    first | (have e6 : iEq x.kind 6 = true := by rw [iEq_t]; omega) | (have e6 : iEq x.kind 6 = false := by rw [iEq_f]; omega)
    first | (have e7 : iEq x.kind 7 = true := by rw [iEq_t]; omega) | (have e7 : iEq x.kind 7 = false := by rw [iEq_f]; omega)
    first | (have e8 : iEq x.kind 8 = true := by rw [iEq_t]; omega) | (have e8 : iEq x.kind 8 = false := by rw [iEq_f]; omega)
    first | (have e9 : iEq x.kind 9 = true := by rw [iEq_t]; omega) | (have e9 : iEq x.kind 9 = false := by rw [iEq_f]; omega)
    first | (have e10 : iEq x.kind 10 = true := by rw [iEq_t]; omega) | (have e10 : iEq x.kind 10 = false := by rw [iEq_f]; omega)
    simp only [turn2, turnOf, otherOf, e1, e2, e3, e4, e5, e6, e7, e8, e9, e10, Bool.or_true, Bool.or_false, Bool.true_or, Bool.false_or, if_true, if_false, Bool.false_eq_true, ↓reduceIte]
    first
      | done
      | (rw [(hn e8).1, (hn e8).2, hk]; done)
      | (rw [(hn e8).1, (hn e8).2, hk]; rfl)
      | (rw [(hn e8).1, (hn e8).2]; done)
      | (rw [(hn e8).1, (hn e8).2]; rfl)
      | (rw [hk]; done)
      | rfl
theorem inverse_ref (x : SLens) : inverse2 x = inverse x := by
  unfold inverse2 inverse
  split
  · rename_i h; rw [turn_ref x h]
  · rfl
end Go.Proofs.YtalpbdabeffnlaaGreat
