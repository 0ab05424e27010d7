/- Parts of a lens; is it right: what the program's functions answer. -/
import Derived.Test.YtoophkcicdbnfaaD
set_option linter.unusedVariables false
set_option linter.unusedSimpArgs false
namespace Go.Proofs.Ytoophkcicdbnfaa
open Go Go.Av
set_option maxRecDepth 100000

def bareOf (x : SLens) : SLens := { kind := x.kind, place := x.place, name := noS, other := noS, factor := 0, field := noField, forth := [], back := [] }
def partsOf (x : SLens) : SLens :=
  if iEq x.kind 1 || iEq x.kind 5 then { bareOf x with name := x.name }
  else if iEq x.kind 2 || iEq x.kind 3 then { bareOf x with place := noRef, field := x.field }
  else if iEq x.kind 6 || iEq x.kind 9 then { bareOf x with name := x.name, other := x.other, factor := x.factor }
  else if iEq x.kind 7 || iEq x.kind 10 then { bareOf x with other := x.other }
  else if iEq x.kind 8 then { bareOf x with name := x.name, other := x.other, forth := x.forth, back := x.back }
  else bareOf x

theorem f70 (x : SLens) : PCall Try.prog 70 [encLens x] (.p (encLens (partsOf x))) [] := by
  refine gcode hT hM Try.func70 rfl rfl (rv := [(2, some 33)]) rfl rfl rfl fun G hG => ?_
  conv => whnf
  refine ⟨fun h1 => ?_, fun h1 => ?_⟩
  · conv => whnf
    refine ⟨fun _ => ?_, fun h => Bool.noConfusion (h1.symm.trans h)⟩
    conv => whnf
    exact ⟨[], _, _, _, rfl, rfl, rfl, RepLe.as (fun y => .p (encLens y)) (a := { bareOf x with name := x.name }) (by simp_all [partsOf]) (PLe.rep (PLe.agg (by repeat' (first | refine PLes.cons ?_ ?_ | exact PLe.refl _ | exact PLe.nil | exact PLes.end)))), trivial⟩
  conv => whnf
  refine ⟨fun h5 => ?_, fun h5 => ?_⟩
  · conv => whnf
    exact ⟨[], _, _, _, rfl, rfl, rfl, RepLe.as (fun y => .p (encLens y)) (a := { bareOf x with name := x.name }) (by simp_all [partsOf]) (PLe.rep (PLe.agg (by repeat' (first | refine PLes.cons ?_ ?_ | exact PLe.refl _ | exact PLe.nil | exact PLes.end)))), trivial⟩
  conv => whnf
  refine ⟨fun h2 => ?_, fun h2 => ?_⟩
  · conv => whnf
    refine ⟨fun _ => ?_, fun h => Bool.noConfusion (h2.symm.trans h)⟩
    conv => whnf
    refine ⟨rfl, ?_⟩
    conv => whnf
    exact ⟨[], _, _, _, rfl, rfl, rfl, RepLe.as (fun y => .p (encLens y)) (a := { bareOf x with place := noRef, field := x.field }) (by simp_all [partsOf]) (PLe.rep (PLe.agg (by repeat' (first | refine PLes.cons ?_ ?_ | exact PLe.refl _ | exact PLe.nil | exact PLes.end)))), trivial⟩
  conv => whnf
  refine ⟨fun h3 => ?_, fun h3 => ?_⟩
  · conv => whnf
    refine ⟨rfl, ?_⟩
    conv => whnf
    exact ⟨[], _, _, _, rfl, rfl, rfl, RepLe.as (fun y => .p (encLens y)) (a := { bareOf x with place := noRef, field := x.field }) (by simp_all [partsOf]) (PLe.rep (PLe.agg (by repeat' (first | refine PLes.cons ?_ ?_ | exact PLe.refl _ | exact PLe.nil | exact PLes.end)))), trivial⟩
  conv => whnf
  refine ⟨fun h6 => ?_, fun h6 => ?_⟩
  · conv => whnf
    refine ⟨fun _ => ?_, fun h => Bool.noConfusion (h6.symm.trans h)⟩
    conv => whnf
    refine ⟨rfl, ?_⟩
    conv => whnf
    exact ⟨[], _, _, _, rfl, rfl, rfl, RepLe.as (fun y => .p (encLens y)) (a := { bareOf x with name := x.name, other := x.other, factor := x.factor }) (by simp_all [partsOf]) (PLe.rep (PLe.agg (by repeat' (first | refine PLes.cons ?_ ?_ | exact PLe.refl _ | exact PLe.nil | exact PLes.end)))), trivial⟩
  conv => whnf
  refine ⟨fun h9 => ?_, fun h9 => ?_⟩
  · conv => whnf
    refine ⟨rfl, ?_⟩
    conv => whnf
    exact ⟨[], _, _, _, rfl, rfl, rfl, RepLe.as (fun y => .p (encLens y)) (a := { bareOf x with name := x.name, other := x.other, factor := x.factor }) (by simp_all [partsOf]) (PLe.rep (PLe.agg (by repeat' (first | refine PLes.cons ?_ ?_ | exact PLe.refl _ | exact PLe.nil | exact PLes.end)))), trivial⟩
  conv => whnf
  refine ⟨fun h7 => ?_, fun h7 => ?_⟩
  · conv => whnf
    refine ⟨fun _ => ?_, fun h => Bool.noConfusion (h7.symm.trans h)⟩
    conv => whnf
    exact ⟨[], _, _, _, rfl, rfl, rfl, RepLe.as (fun y => .p (encLens y)) (a := { bareOf x with other := x.other }) (by simp_all [partsOf]) (PLe.rep (PLe.agg (by repeat' (first | refine PLes.cons ?_ ?_ | exact PLe.refl _ | exact PLe.nil | exact PLes.end)))), trivial⟩
  conv => whnf
  refine ⟨fun h10 => ?_, fun h10 => ?_⟩
  · conv => whnf
    exact ⟨[], _, _, _, rfl, rfl, rfl, RepLe.as (fun y => .p (encLens y)) (a := { bareOf x with other := x.other }) (by simp_all [partsOf]) (PLe.rep (PLe.agg (by repeat' (first | refine PLes.cons ?_ ?_ | exact PLe.refl _ | exact PLe.nil | exact PLes.end)))), trivial⟩
  conv => whnf
  refine ⟨fun h8 => ?_, fun h8 => ?_⟩
  · conv => whnf
    refine ⟨rfl, ?_⟩
    conv => whnf
    exact ⟨[], _, _, _, rfl, rfl, rfl, RepLe.as (fun y => .p (encLens y)) (a := { bareOf x with name := x.name, other := x.other, forth := x.forth, back := x.back }) (by simp_all [partsOf]) (PLe.rep (PLe.agg (by repeat' (first | refine PLes.cons ?_ ?_ | exact PLe.refl _ | exact PLe.nil | exact PLes.end)))), trivial⟩
  conv => whnf
  exact ⟨[], _, _, _, rfl, rfl, rfl, RepLe.as (fun y => .p (encLens y)) (a := bareOf x) (by simp_all [partsOf]) (PLe.rep (PLe.agg (by repeat' (first | refine PLes.cons ?_ ?_ | exact PLe.refl _ | exact PLe.nil | exact PLes.end)))), trivial⟩
end Go.Proofs.Ytoophkcicdbnfaa
