/- A lens' places. -/
import Derived.Test.YtoophkcicdbnfaaAM
set_option linter.unusedVariables false
set_option linter.unusedSimpArgs false
namespace Go.Proofs.Ytoophkcicdbnfaa
open Go Go.Av
set_option maxRecDepth 100000
set_option maxHeartbeats 2000000

def encRefs (l : List SRef) : PV := .rs 3 l.length fun i => at_ .any (refCells (l.getD i noRef))
def twoOf (x : SLens) : List SRef := [{ x.place with name := x.name }, { x.place with name := x.other }]
def goesOf (x : SLens) : List SRef :=
  if !lensOk x || iEq x.kind 2 then [] else if iEq x.kind 3 then [x.field.place] else if iEq x.kind 9 then twoOf x else [x.place]
def comesOf (x : SLens) : List SRef :=
  if !lensOk x || iEq x.kind 3 then [] else if iEq x.kind 2 then [x.field.place] else if iEq x.kind 1 then [{ x.place with name := x.name }]
  else if iEq x.kind 4 then [{ x.place with group := noS }] else if iEq x.kind 5 then [{ x.place with group := x.name }] else if iEq x.kind 6 then twoOf x else [x.place]
theorem refs1 {r : SRef} {l : List SRef} (h : l = [r]) {f : Nat → Nat → PV} (hf : ∀ j, j < 3 → f 0 j = at_ .any (refCells r) j) : PLe (.rs 3 1 f) (encRefs l) := by
  subst h
  refine PLe.rows rfl fun i j hi hj => ?_
  have : i = 0 := by omega
  subst this
  exact hf j hj
theorem refs2 {r s : SRef} {l : List SRef} (h : l = [r, s]) {f : Nat → Nat → PV} (hf : ∀ j, j < 3 → f 0 j = at_ .any (refCells r) j) (hg : ∀ j, j < 3 → f 1 j = at_ .any (refCells s) j) : PLe (.rs 3 2 f) (encRefs l) := by
  subst h
  refine PLe.rows rfl fun i j hi hj => ?_
  have hi : i = 0 ∨ i = 1 := by omega
  rcases hi with rfl | rfl
  · exact hf j hj
  · exact hg j hj
theorem three {P : Nat → Prop} (h0 : P 0) (h1 : P 1) (h2 : P 2) : ∀ b, b < 3 → P b := by
  intro b hb
  have hb : b = 0 ∨ b = 1 ∨ b = 2 := by omega
  rcases hb with rfl | rfl | rfl <;> assumption
theorem nil_refs {l : List SRef} (h : l = []) : RepLe (.p (.val (.slice none 0 0))) (.p (encRefs l)) := by subst h; exact PLe.rep PLe.nil

theorem f104 (x : SLens) : PCall Try.prog 104 [encLens x] (.p (encRefs (twoOf x))) [] := by
  refine gcode hT hM Try.func104 rfl rfl (rv := [(2, none)]) rfl rfl rfl fun G hG => ?_
  conv => whnf
  refine ⟨rfl, ?_⟩
  conv => whnf
  refine ⟨rfl, ?_⟩
  conv => whnf
  exact ⟨[], _, _, _, rfl, rfl, rfl, PLe.rep (refs2 rfl (three rfl rfl rfl) (three rfl rfl rfl)), trivial⟩

theorem f51 (x : SLens) (hx : okLens x) : PCall Try.prog 51 [encLens x] (.p (encRefs (goesOf x))) [] := by
  refine gcode hT hM Try.func51 rfl rfl (rv := [(2, none)]) rfl rfl rfl fun G hG => ?_
  conv => whnf
  refine CallK.lent (f25 x hx) rfl ?_
  conv => whnf
  refine ⟨fun h1 => ?_, fun h1 => ?_⟩
  · conv => whnf
    exact ⟨[], _, _, _, rfl, rfl, rfl, nil_refs (by unfold goesOf; rw [h1]; rfl), trivial⟩
  conv => whnf
  refine ⟨fun h2 => ?_, fun h2 => ?_⟩
  · conv => whnf
    exact ⟨[], _, _, _, rfl, rfl, rfl, nil_refs (by unfold goesOf; rw [h1, h2]; rfl), trivial⟩
  conv => whnf
  refine ⟨fun h3 => ?_, fun h3 => ?_⟩
  · conv => whnf
    exact ⟨[], _, _, _, rfl, rfl, rfl, PLe.rep (refs1 (r := x.field.place) (by unfold goesOf; rw [h1, h2, h3]; rfl) (three rfl rfl rfl)), trivial⟩
  conv => whnf
  refine ⟨fun h4 => ?_, fun h4 => ?_⟩
  · conv => whnf
    refine CallK.go [] (f104 x) rfl rfl rfl rfl rfl ?_
    conv => whnf
    exact ⟨[], _, _, _, rfl, rfl, rfl, by rw [show goesOf x = twoOf x by unfold goesOf; rw [h1, h2, h3, h4]; rfl]; exact RepLe.refl _, trivial⟩
  conv => whnf
  exact ⟨[], _, _, _, rfl, rfl, rfl, PLe.rep (refs1 (r := x.place) (by unfold goesOf; rw [h1, h2, h3, h4]; rfl) (three rfl rfl rfl)), trivial⟩

theorem f52 (x : SLens) (hx : okLens x) : PCall Try.prog 52 [encLens x] (.p (encRefs (comesOf x))) [] := by
  refine gcode hT hM Try.func52 rfl rfl (rv := [(2, none)]) rfl rfl rfl fun G hG => ?_
  conv => whnf
  refine CallK.lent (f25 x hx) rfl ?_
  conv => whnf
  refine ⟨fun h1 => ?_, fun h1 => ?_⟩
  · conv => whnf
    exact ⟨[], _, _, _, rfl, rfl, rfl, nil_refs (by unfold comesOf; rw [h1]; rfl), trivial⟩
  conv => whnf
  refine ⟨fun h2 => ?_, fun h2 => ?_⟩
  · conv => whnf
    exact ⟨[], _, _, _, rfl, rfl, rfl, nil_refs (by unfold comesOf; rw [h1, h2]; rfl), trivial⟩
  conv => whnf
  refine ⟨fun h3 => ?_, fun h3 => ?_⟩
  · conv => whnf
    exact ⟨[], _, _, _, rfl, rfl, rfl, PLe.rep (refs1 (r := x.field.place) (by unfold comesOf; rw [h1, h2, h3]; rfl) (three rfl rfl rfl)), trivial⟩
  conv => whnf
  refine ⟨fun h4 => ?_, fun h4 => ?_⟩
  · conv => whnf
    exact ⟨[], _, _, _, rfl, rfl, rfl, PLe.rep (refs1 (r := { x.place with name := x.name }) (by unfold comesOf; rw [h1, h2, h3, h4]; rfl) (three rfl rfl rfl)), trivial⟩
  conv => whnf
  refine ⟨fun h5 => ?_, fun h5 => ?_⟩
  · conv => whnf
    exact ⟨[], _, _, _, rfl, rfl, rfl, PLe.rep (refs1 (r := { x.place with group := noS }) (by unfold comesOf; rw [h1, h2, h3, h4, h5]; rfl) (three rfl rfl rfl)), trivial⟩
  conv => whnf
  refine ⟨fun h6 => ?_, fun h6 => ?_⟩
  · conv => whnf
    exact ⟨[], _, _, _, rfl, rfl, rfl, PLe.rep (refs1 (r := { x.place with group := x.name }) (by unfold comesOf; rw [h1, h2, h3, h4, h5, h6]; rfl) (three rfl rfl rfl)), trivial⟩
  conv => whnf
  refine ⟨fun h7 => ?_, fun h7 => ?_⟩
  · conv => whnf
    refine CallK.go [] (f104 x) rfl rfl rfl rfl rfl ?_
    conv => whnf
    exact ⟨[], _, _, _, rfl, rfl, rfl, by rw [show comesOf x = twoOf x by unfold comesOf; rw [h1, h2, h3, h4, h5, h6, h7]; rfl]; exact RepLe.refl _, trivial⟩
  conv => whnf
  exact ⟨[], _, _, _, rfl, rfl, rfl, PLe.rep (refs1 (r := x.place) (by unfold comesOf; rw [h1, h2, h3, h4, h5, h6, h7]; rfl) (three rfl rfl rfl)), trivial⟩
end Go.Proofs.Ytoophkcicdbnfaa
