/- A lens turned round: what the program answers. -/
import Derived.Test.YtoophkcicdbnfaaG
set_option linter.unusedVariables false
set_option linter.unusedSimpArgs false
namespace Go.Proofs.Ytoophkcicdbnfaa
open Go Go.Av
set_option maxRecDepth 100000

def noLens : SLens := { kind := 0, place := noRef, name := noS, other := noS, factor := 0, field := noField, forth := [], back := [] }
def turnOf (x : SLens) : SLens :=
  if iEq x.kind 1 then { x with place := { x.place with name := x.name }, name := x.place.name }
  else if iEq x.kind 2 then { x with kind := 3 }
  else if iEq x.kind 3 then { x with kind := 2 }
  else if iEq x.kind 4 then { x with kind := 5, name := x.place.group, place := { x.place with group := noS } }
  else if iEq x.kind 5 then { x with kind := 4, name := noS, place := { x.place with group := x.name } }
  else if iEq x.kind 6 then { x with kind := 9 }
  else if iEq x.kind 9 then { x with kind := 6 }
  else if iEq x.kind 7 then { x with kind := 10 }
  else if iEq x.kind 10 then { x with kind := 7 }
  else if iEq x.kind 8 then { x with name := x.other, other := x.name, forth := x.back, back := x.forth }
  else x
def inverse (x : SLens) : SLens × Int := if lensOk x then (turnOf x, 0) else (noLens, 5)
def encInv (y : SLens × Int) : AV := .tup 2 (at_ (.p .any) [.p (encLens y.1), .p (.val (.int .i64 y.2))])

theorem f22 (x : SLens) (hx : fitLens x) : PCall Try.prog 22 [encLens x] (encInv (inverse x)) [] := by
  refine gcode hT hM Try.func22 rfl rfl (rv := [(2, some 33), (3, none)]) rfl rfl rfl fun G hG => ?_
  conv => whnf
  refine CallK.lent (f25 x hx.ok) rfl ?_
  conv => whnf
  refine ⟨fun h => ?_, fun h => ?_⟩
  · conv => whnf
    exact ⟨[], _, _, _, rfl, rfl, rfl, RepLe.as encInv (a := (noLens, 5)) (by simp_all [inverse]) (RepLe.tup2 (PLe.rep (PLe.agg (by repeat' (first | refine PLes.cons ?_ ?_ | exact PLe.refl _ | exact PLe.nil | exact PLes.end)))) (RepLe.refl _)), trivial⟩
  conv => whnf
  have h : lensOk x = true := by simpa using h
  have hi : inverse x = (turnOf x, 0) := by simp [inverse, h]
  clear h
  refine CallK.go [] (f61 x hx) rfl rfl rfl rfl rfl ?_
  conv => whnf
  refine ⟨fun a1 => ?_, fun a1 => ?_⟩
  · conv => whnf
    exact ⟨[], _, _, _, rfl, rfl, rfl, RepLe.as encInv (a := ({ x with place := { x.place with name := x.name }, name := x.place.name }, 0)) (by simp_all [turnOf]) (RepLe.tup2 (PLe.rep (PLe.agg (by repeat' (first | refine PLes.cons ?_ ?_ | exact PLe.refl _ | exact PLe.nil | exact PLes.end)))) (RepLe.refl _)), trivial⟩
  conv => whnf
  refine ⟨fun a2 => ?_, fun a2 => ?_⟩
  · conv => whnf
    exact ⟨[], _, _, _, rfl, rfl, rfl, RepLe.as encInv (a := ({ x with kind := 3 }, 0)) (by simp_all [turnOf]) (RepLe.tup2 (PLe.rep (PLe.agg (by repeat' (first | refine PLes.cons ?_ ?_ | exact PLe.refl _ | exact PLe.nil | exact PLes.end)))) (RepLe.refl _)), trivial⟩
  conv => whnf
  refine ⟨fun a3 => ?_, fun a3 => ?_⟩
  · conv => whnf
    exact ⟨[], _, _, _, rfl, rfl, rfl, RepLe.as encInv (a := ({ x with kind := 2 }, 0)) (by simp_all [turnOf]) (RepLe.tup2 (PLe.rep (PLe.agg (by repeat' (first | refine PLes.cons ?_ ?_ | exact PLe.refl _ | exact PLe.nil | exact PLes.end)))) (RepLe.refl _)), trivial⟩
  conv => whnf
  refine ⟨fun a4 => ?_, fun a4 => ?_⟩
  · conv => whnf
    exact ⟨[], _, _, _, rfl, rfl, rfl, RepLe.as encInv (a := ({ x with kind := 5, name := x.place.group, place := { x.place with group := noS } }, 0)) (by simp_all [turnOf]) (RepLe.tup2 (PLe.rep (PLe.agg (by repeat' (first | refine PLes.cons ?_ ?_ | exact PLe.refl _ | exact PLe.nil | exact PLes.end)))) (RepLe.refl _)), trivial⟩
  conv => whnf
  refine ⟨fun a5 => ?_, fun a5 => ?_⟩
  · conv => whnf
    exact ⟨[], _, _, _, rfl, rfl, rfl, RepLe.as encInv (a := ({ x with kind := 4, name := noS, place := { x.place with group := x.name } }, 0)) (by simp_all [turnOf]) (RepLe.tup2 (PLe.rep (PLe.agg (by repeat' (first | refine PLes.cons ?_ ?_ | exact PLe.refl _ | exact PLe.nil | exact PLes.end)))) (RepLe.refl _)), trivial⟩
  conv => whnf
  refine ⟨fun a6 => ?_, fun a6 => ?_⟩
  · conv => whnf
    exact ⟨[], _, _, _, rfl, rfl, rfl, RepLe.as encInv (a := ({ x with kind := 9 }, 0)) (by simp_all [turnOf]) (RepLe.tup2 (PLe.rep (PLe.agg (by repeat' (first | refine PLes.cons ?_ ?_ | exact PLe.refl _ | exact PLe.nil | exact PLes.end)))) (RepLe.refl _)), trivial⟩
  conv => whnf
  refine ⟨fun a9 => ?_, fun a9 => ?_⟩
  · conv => whnf
    exact ⟨[], _, _, _, rfl, rfl, rfl, RepLe.as encInv (a := ({ x with kind := 6 }, 0)) (by simp_all [turnOf]) (RepLe.tup2 (PLe.rep (PLe.agg (by repeat' (first | refine PLes.cons ?_ ?_ | exact PLe.refl _ | exact PLe.nil | exact PLes.end)))) (RepLe.refl _)), trivial⟩
  conv => whnf
  refine ⟨fun a7 => ?_, fun a7 => ?_⟩
  · conv => whnf
    exact ⟨[], _, _, _, rfl, rfl, rfl, RepLe.as encInv (a := ({ x with kind := 10 }, 0)) (by simp_all [turnOf]) (RepLe.tup2 (PLe.rep (PLe.agg (by repeat' (first | refine PLes.cons ?_ ?_ | exact PLe.refl _ | exact PLe.nil | exact PLes.end)))) (RepLe.refl _)), trivial⟩
  conv => whnf
  refine ⟨fun a10 => ?_, fun a10 => ?_⟩
  · conv => whnf
    exact ⟨[], _, _, _, rfl, rfl, rfl, RepLe.as encInv (a := ({ x with kind := 7 }, 0)) (by simp_all [turnOf]) (RepLe.tup2 (PLe.rep (PLe.agg (by repeat' (first | refine PLes.cons ?_ ?_ | exact PLe.refl _ | exact PLe.nil | exact PLes.end)))) (RepLe.refl _)), trivial⟩
  conv => whnf
  refine ⟨fun a8 => ?_, fun a8 => ?_⟩
  · conv => whnf
    exact ⟨[], _, _, _, rfl, rfl, rfl, RepLe.as encInv (a := ({ x with name := x.other, other := x.name, forth := x.back, back := x.forth }, 0)) (by simp_all [turnOf]) (RepLe.tup2 (PLe.rep (PLe.agg (by repeat' (first | refine PLes.cons ?_ ?_ | exact PLe.refl _ | exact PLe.nil | exact PLes.end)))) (RepLe.refl _)), trivial⟩
  conv => whnf
  exact ⟨[], _, _, _, rfl, rfl, rfl, RepLe.as encInv (a := (x, 0)) (by simp_all [turnOf]) (RepLe.tup2 (PLe.rep (PLe.agg (by repeat' (first | refine PLes.cons ?_ ?_ | exact PLe.refl _ | exact PLe.nil | exact PLes.end)))) (RepLe.refl _)), trivial⟩
end Go.Proofs.Ytoophkcicdbnfaa
