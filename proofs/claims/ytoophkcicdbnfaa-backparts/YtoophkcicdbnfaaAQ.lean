/- What comes of the fields that go. -/
import Derived.Test.YtoophkcicdbnfaaAP
set_option linter.unusedVariables false
set_option linter.unusedSimpArgs false
namespace Go.Proofs.Ytoophkcicdbnfaa
open Go Go.Av
set_option maxRecDepth 100000
set_option maxHeartbeats 4000000

theorem PLe.rowsLe {k n m : Nat} {f g : Nat → Nat → PV} (h : n = m) (hf : ∀ i j, i < n → j < k → PLe (f i j) (g i j)) : PLe (.rs k n f) (.rs k m g) := by
  subst h
  rintro w F v ⟨A, c, e1, e2, e3, e4, e5⟩
  refine ⟨A, c, e1, e2, e3, e4, fun hn => ?_⟩
  obtain ⟨ad, q1, q2, q3⟩ := e5 hn
  refine ⟨ad, q1, q2, fun i j hi hj => ?_⟩
  obtain ⟨u, a1, a2, a3⟩ := q3 i j hi hj
  exact ⟨u, a1, a2, hf i j hi hj _ _ _ a3⟩
theorem fields1 {x : SField} {l : List SField} (h : l = [x]) {f : Nat → Nat → PV} (hf : ∀ j, j < 7 → PLe (f 0 j) (at_ .any (fieldCells x) j)) : PLe (.rs 7 1 f) (encFields l) := by
  subst h
  refine PLe.rowsLe rfl fun i j hi hj => ?_
  have : i = 0 := by omega
  subst this
  exact hf j hj
theorem fields2 {x y : SField} {l : List SField} (h : l = [x, y]) {f : Nat → Nat → PV} (hf : ∀ j, j < 7 → PLe (f 0 j) (at_ .any (fieldCells x) j)) (hg : ∀ j, j < 7 → PLe (f 1 j) (at_ .any (fieldCells y) j)) : PLe (.rs 7 2 f) (encFields l) := by
  subst h
  refine PLe.rowsLe rfl fun i j hi hj => ?_
  have hi : i = 0 ∨ i = 1 := by omega
  rcases hi with rfl | rfl
  · exact hf j hj
  · exact hg j hj
theorem nil_fields : PLe (.val (.slice none 0 0)) (encFields []) := PLe.nil
def encTurn (x : List SField × Bool) : AV := .tup 2 (at_ (.p .any) [.p (encFields x.1), .p (.val (.bool x.2))])
def w0 (was : List SField) : SField := was.getD 0 noField
def w1 (was : List SField) : SField := was.getD 1 noField
def turnedOf (x : SLens) (was : List SField) : List SField × Bool :=
  if iEq x.kind 2 then ([x.field], true)
  else if iEq x.kind 3 then ([], sameField (w0 was) x.field)
  else if iEq x.kind 6 then ([w0 was, { w0 was with worth := wrapO .i64 ((w0 was).worth * x.factor) }], iEq (w0 was).kind 1 && iLe (wrapO .i64 ((w0 was).worth * x.factor)) 1048576)
  else if iEq x.kind 9 then ([w0 was], iEq (w0 was).kind 1 && (iEq (w1 was).kind 1 && iEq (w1 was).worth (wrapO .i64 ((w0 was).worth * x.factor))))
  else if iEq x.kind 7 then ([{ noField with kind := 4 }], iEq (w0 was).kind 2 && sEq (w0 was).dflt x.other)
  else if iEq x.kind 10 then ([{ noField with kind := 2, dflt := x.other }], iEq (w0 was).kind 4)
  else if iEq x.kind 8 then ([{ noField with kind := 3, dflt := x.other, cases := fromsOf x.back }], iEq (w0 was).kind 3 && (sEq (w0 was).dflt x.name && sameStrs (w0 was).cases (fromsOf x.forth)))
  else (was, true)
theorem turn_ret {a : PV} {b : Bool} {p : List SField × Bool} {l : List SField} (h : p = (l, b)) (ha : PLe a (encFields l)) : RepLe (.tup 2 (at_ (.p .any) [.p a, .p (.val (.bool b))])) (encTurn p) := by
  subst h; exact RepLe.tup2 (PLe.rep ha) (RepLe.refl _)
theorem turn_bl {a : PV} {b : Bool} {p : List SField × Bool} {l : List SField} (h : p = (l, b)) (ha : PLe a (encFields l)) : RepLe (.tup 2 (at_ (.p .any) [.p a, .p (.bl b)])) (encTurn p) := by
  subst h; exact RepLe.tup2 (PLe.rep ha) (RepLe.bl rfl)

theorem f99 (x : SLens) (was : List SField) (hx : fitLens x) (hw : okFields was) (h1 : iEq x.kind 2 = false → 0 < was.length) (h2 : iEq x.kind 9 = true → 1 < was.length) : PCall Try.prog 99 [encLens x, encFields was] (encTurn (turnedOf x was)) [] := by
  refine gcode hT hM Try.func99 rfl rfl (rv := [(4, none), (5, none)]) rfl rfl rfl fun G hG => ?_
  conv => whnf
  refine ⟨fun k2 => ?_, fun k2 => ?_⟩
  · conv => whnf
    exact ⟨[], _, _, _, rfl, rfl, rfl, turn_bl (by unfold turnedOf; rw [k2]; rfl) (fields1 rfl (seven (PLe.refl _) (PLe.refl _) (PLe.refl _) (PLe.refl _) (PLe.refl _) (PLe.refl _) (PLe.refl _))), trivial⟩
  have hl := h1 k2
  conv => whnf
  refine ⟨fun k3 => ?_, fun k3 => ?_⟩
  · conv => whnf
    refine ⟨by omega, ?_⟩
    conv => whnf
    refine CallK.lent (f66 (w0 was) x.field (hw.at 0)) rfl ?_
    conv => whnf
    refine ⟨rfl, ?_⟩
    conv => whnf
    exact ⟨[], _, _, _, rfl, rfl, rfl, turn_ret (by unfold turnedOf; rw [k2, k3]; rfl) nil_fields, trivial⟩
  conv => whnf
  refine ⟨fun k6 => ?_, fun k6 => ?_⟩
  · conv => whnf
    refine ⟨by omega, ?_⟩
    conv => whnf
    intro z hz
    subst hz
    conv => whnf
    refine ⟨fun g1 => ?_, fun g1 => ?_⟩
    · conv => whnf
      refine ⟨rfl, ?_⟩
      conv => whnf
      exact ⟨[], _, _, _, rfl, rfl, rfl, turn_ret (by unfold turnedOf; rw [k2, k3, k6, show iEq (w0 was).kind 1 = true from g1]; rfl) (fields2 (x := w0 was) (y := { w0 was with worth := wrapO .i64 ((w0 was).worth * x.factor) }) rfl (seven (PLe.refl _) (PLe.refl _) (PLe.refl _) (PLe.refl _) (PLe.refl _) (PLe.refl _) (PLe.refl _)) (seven (PLe.refl _) (PLe.refl _) (PLe.refl _) (PLe.refl _) (PLe.refl _) (PLe.refl _) (PLe.refl _))), trivial⟩
    · conv => whnf
      refine ⟨rfl, ?_⟩
      conv => whnf
      exact ⟨[], _, _, _, rfl, rfl, rfl, turn_bl (by unfold turnedOf; rw [k2, k3, k6, show iEq (w0 was).kind 1 = false from g1]; rfl) (fields2 (x := w0 was) (y := { w0 was with worth := wrapO .i64 ((w0 was).worth * x.factor) }) rfl (seven (PLe.refl _) (PLe.refl _) (PLe.refl _) (PLe.refl _) (PLe.refl _) (PLe.refl _) (PLe.refl _)) (seven (PLe.refl _) (PLe.refl _) (PLe.refl _) (PLe.refl _) (PLe.refl _) (PLe.refl _) (PLe.refl _))), trivial⟩
  conv => whnf
  refine ⟨fun k9 => ?_, fun k9 => ?_⟩
  · have hl2 := h2 k9
    conv => whnf
    refine ⟨by omega, ?_⟩
    conv => whnf
    refine ⟨by omega, ?_⟩
    conv => whnf
    refine ⟨rfl, ?_⟩
    conv => whnf
    refine ⟨fun g1 => ?_, fun g1 => ?_⟩
    · conv => whnf
      refine ⟨fun g2 => ?_, fun g2 => ?_⟩
      · conv => whnf
        intro z hz
        subst hz
        conv => whnf
        refine ⟨rfl, ?_⟩
        conv => whnf
        exact ⟨[], _, _, _, rfl, rfl, rfl, turn_ret (by unfold turnedOf; rw [k2, k3, k6, k9, show iEq (w0 was).kind 1 = true from g1, show iEq (w1 was).kind 1 = true from g2]; rfl) (fields1 (x := w0 was) rfl (seven (PLe.refl _) (PLe.refl _) (PLe.refl _) (PLe.refl _) (PLe.refl _) (PLe.refl _) (PLe.refl _))), trivial⟩
      · conv => whnf
        refine ⟨rfl, ?_⟩
        conv => whnf
        exact ⟨[], _, _, _, rfl, rfl, rfl, turn_bl (by unfold turnedOf; rw [k2, k3, k6, k9, show iEq (w0 was).kind 1 = true from g1, show iEq (w1 was).kind 1 = false from g2]; rfl) (fields1 (x := w0 was) rfl (seven (PLe.refl _) (PLe.refl _) (PLe.refl _) (PLe.refl _) (PLe.refl _) (PLe.refl _) (PLe.refl _))), trivial⟩
    · conv => whnf
      refine ⟨rfl, ?_⟩
      conv => whnf
      exact ⟨[], _, _, _, rfl, rfl, rfl, turn_bl (by unfold turnedOf; rw [k2, k3, k6, k9, show iEq (w0 was).kind 1 = false from g1]; rfl) (fields1 (x := w0 was) rfl (seven (PLe.refl _) (PLe.refl _) (PLe.refl _) (PLe.refl _) (PLe.refl _) (PLe.refl _) (PLe.refl _))), trivial⟩
  conv => whnf
  refine ⟨fun k7 => ?_, fun k7 => ?_⟩
  · conv => whnf
    refine ⟨by omega, ?_⟩
    conv => whnf
    refine ⟨fun g1 => ?_, fun g1 => ?_⟩
    · conv => whnf
      refine ⟨by omega, ?_⟩
      conv => whnf
      refine ⟨rfl, ?_⟩
      conv => whnf
      exact ⟨[], _, _, _, rfl, rfl, rfl, turn_ret (by unfold turnedOf; rw [k2, k3, k6, k9, k7, show iEq (w0 was).kind 2 = true from g1]; rfl) (fields1 (x := { noField with kind := 4 }) rfl (seven (PLe.refl _) (PLe.refl _) (PLe.refl _) (PLe.refl _) (PLe.refl _) (PLe.nil) (PLe.refl _))), trivial⟩
    · conv => whnf
      refine ⟨rfl, ?_⟩
      conv => whnf
      exact ⟨[], _, _, _, rfl, rfl, rfl, turn_bl (by unfold turnedOf; rw [k2, k3, k6, k9, k7, show iEq (w0 was).kind 2 = false from g1]; rfl) (fields1 (x := { noField with kind := 4 }) rfl (seven (PLe.refl _) (PLe.refl _) (PLe.refl _) (PLe.refl _) (PLe.refl _) (PLe.nil) (PLe.refl _))), trivial⟩
  conv => whnf
  refine ⟨fun k10 => ?_, fun k10 => ?_⟩
  · conv => whnf
    refine ⟨by omega, ?_⟩
    conv => whnf
    refine ⟨rfl, ?_⟩
    conv => whnf
    exact ⟨[], _, _, _, rfl, rfl, rfl, turn_ret (by unfold turnedOf; rw [k2, k3, k6, k9, k7, k10]; rfl) (fields1 (x := { noField with kind := 2, dflt := x.other }) rfl (seven (PLe.refl _) (PLe.refl _) (PLe.refl _) (PLe.refl _) (PLe.refl _) (PLe.nil) (PLe.refl _))), trivial⟩
  conv => whnf
  refine ⟨fun k8 => ?_, fun k8 => ?_⟩
  · conv => whnf
    refine ⟨by omega, ?_⟩
    conv => whnf
    refine CallK.go [] (f116 x.back hx.2.2) rfl rfl rfl rfl rfl ?_
    conv => whnf
    refine ⟨fun g1 => ?_, fun g1 => ?_⟩
    · conv => whnf
      refine ⟨fun g2 => ?_, fun g2 => ?_⟩
      · conv => whnf
        refine CallK.go [] (f116 x.forth hx.2.1) rfl rfl rfl rfl rfl ?_
        conv => whnf
        refine CallK.lent (f113 (w0 was).cases (fromsOf x.forth) (hw.at 0)) rfl ?_
        conv => whnf
        refine ⟨rfl, ?_⟩
        conv => whnf
        exact ⟨[], _, _, _, rfl, rfl, rfl, turn_ret (by unfold turnedOf; rw [k2, k3, k6, k9, k7, k10, k8, show iEq (w0 was).kind 3 = true from g1, show sEq (w0 was).dflt x.name = true from g2]; rfl) (fields1 (x := { noField with kind := 3, dflt := x.other, cases := fromsOf x.back }) rfl (seven (PLe.refl _) (PLe.refl _) (PLe.refl _) (PLe.refl _) (PLe.refl _) (PLe.refl _) (PLe.refl _))), trivial⟩
      · conv => whnf
        refine ⟨rfl, ?_⟩
        conv => whnf
        exact ⟨[], _, _, _, rfl, rfl, rfl, turn_bl (by unfold turnedOf; rw [k2, k3, k6, k9, k7, k10, k8, show iEq (w0 was).kind 3 = true from g1, show sEq (w0 was).dflt x.name = false from g2]; rfl) (fields1 (x := { noField with kind := 3, dflt := x.other, cases := fromsOf x.back }) rfl (seven (PLe.refl _) (PLe.refl _) (PLe.refl _) (PLe.refl _) (PLe.refl _) (PLe.refl _) (PLe.refl _))), trivial⟩
    · conv => whnf
      refine ⟨rfl, ?_⟩
      conv => whnf
      exact ⟨[], _, _, _, rfl, rfl, rfl, turn_bl (by unfold turnedOf; rw [k2, k3, k6, k9, k7, k10, k8, show iEq (w0 was).kind 3 = false from g1]; rfl) (fields1 (x := { noField with kind := 3, dflt := x.other, cases := fromsOf x.back }) rfl (seven (PLe.refl _) (PLe.refl _) (PLe.refl _) (PLe.refl _) (PLe.refl _) (PLe.refl _) (PLe.refl _))), trivial⟩
  conv => whnf
  exact ⟨[], _, _, _, rfl, rfl, rfl, turn_bl (by unfold turnedOf; rw [k2, k3, k6, k9, k7, k10, k8]; rfl) (PLe.refl _), trivial⟩
end Go.Proofs.Ytoophkcicdbnfaa
