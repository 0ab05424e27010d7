/- Is a lens right: what the program answers. -/
import Derived.Test.YtoophkcicdbnfaaE
set_option linter.unusedVariables false
set_option linter.unusedSimpArgs false
namespace Go.Proofs.Ytoophkcicdbnfaa
open Go Go.Av
set_option maxRecDepth 100000

def convOk (x : SLens) : Bool := forthOk x.forth x.back && (forthOk x.back x.forth && (takesOk x.forth x.name x.other && takesOk x.back x.other x.name))
def kindOk (x : SLens) : Bool :=
  if iEq x.kind 1 then nameOk x.name
  else if iEq x.kind 4 then !sEq x.place.group noS
  else if iEq x.kind 5 then sEq x.place.group noS && nameOk x.name
  else if iEq x.kind 6 || iEq x.kind 9 then nameOk x.name && (nameOk x.other && (!sEq x.name x.other && factorOk x.factor))
  else if iEq x.kind 7 || iEq x.kind 10 then textOk x.other
  else convOk x
def restOk (x : SLens) : Bool := if iEq x.kind 2 || iEq x.kind 3 then fieldOk x.field else placeOk x.place && kindOk x
def lensOk (x : SLens) : Bool := iLe 1 x.kind && (iLe x.kind 10 && (sameLens x (partsOf x) && restOk x))

theorem f25 (x : SLens) (hx : okLens x) : PCall Try.prog 25 [encLens x] (.p (.val (.bool (lensOk x)))) [] := by
  have k1 : iLt x.kind 1 = !iLe 1 x.kind := iLt_not _ _
  have k2 : iLt 10 x.kind = !iLe x.kind 10 := iLt_not _ _
  refine gcode hT hM Try.func25 rfl rfl (rv := [(2, none)]) rfl rfl rfl fun G hG => ?_
  conv => whnf
  refine ⟨fun h1 => ?_, fun h1 => ?_⟩
  · conv => whnf
    refine ⟨rfl, ?_⟩
    conv => whnf
    exact ⟨[], _, _, _, rfl, rfl, rfl, RepLe.bl (by simp_all [lensOk]), trivial⟩
  conv => whnf
  refine ⟨fun h2 => ?_, fun h2 => ?_⟩
  · conv => whnf
    refine ⟨rfl, ?_⟩
    conv => whnf
    exact ⟨[], _, _, _, rfl, rfl, rfl, RepLe.bl (by simp_all [lensOk]), trivial⟩
  conv => whnf
  refine CallK.go [] (f70 x) rfl rfl rfl rfl rfl ?_
  conv => whnf
  refine CallK.lent (f57 x (partsOf x) hx) rfl ?_
  conv => whnf
  refine ⟨rfl, ?_⟩
  conv => whnf
  refine ⟨fun h3 => ?_, fun h3 => ?_⟩
  · conv => whnf
    exact ⟨[], _, _, _, rfl, rfl, rfl, RepLe.bl (by simp_all [lensOk]), trivial⟩
  conv => whnf
  refine ⟨fun h4 => ?_, fun h4 => ?_⟩
  · conv => whnf
    refine CallK.lent (f71 x.field hx.1) rfl ?_
    conv => whnf
    exact ⟨[], _, _, _, rfl, rfl, rfl, RepLe.vb (by simp_all [lensOk, restOk]), trivial⟩
  conv => whnf
  refine ⟨fun h5 => ?_, fun h5 => ?_⟩
  · conv => whnf
    refine CallK.lent (f71 x.field hx.1) rfl ?_
    conv => whnf
    exact ⟨[], _, _, _, rfl, rfl, rfl, RepLe.vb (by simp_all [lensOk, restOk]), trivial⟩
  conv => whnf
  refine CallK.lent (f72 x.place) rfl ?_
  conv => whnf
  refine ⟨fun h6 => ?_, fun h6 => ?_⟩
  · conv => whnf
    exact ⟨[], _, _, _, rfl, rfl, rfl, RepLe.bl (by simp_all [lensOk, restOk]), trivial⟩
  conv => whnf
  have h3 : sameLens x (partsOf x) = true := by simpa using h3
  have h6 : placeOk x.place = true := by simpa using h6
  have hk : lensOk x = kindOk x := by simp_all [lensOk, restOk]
  clear h3 h6 k1 k2 h1 h2 h4 h5
  refine ⟨fun a1 => ?_, fun a1 => ?_⟩
  · conv => whnf
    refine CallK.lent (f73 _) rfl ?_
    conv => whnf
    exact ⟨[], _, _, _, rfl, rfl, rfl, RepLe.vb (by simp_all [kindOk]), trivial⟩
  conv => whnf
  refine ⟨fun a4 => ?_, fun a4 => ?_⟩
  · conv => whnf
    exact ⟨[], _, _, _, rfl, rfl, rfl, RepLe.bl (by simp_all [kindOk, noS]), trivial⟩
  conv => whnf
  refine ⟨fun a5 => ?_, fun a5 => ?_⟩
  · conv => whnf
    repeat' (first
      | (refine ⟨fun _ => ?_, fun _ => ?_⟩ <;> (conv => whnf))
      | (refine CallK.lent (f73 _) rfl ?_; conv => whnf)
      | (refine And.intro rfl ?_; conv => whnf)
      | (exact ⟨[], _, _, _, rfl, rfl, rfl, RepLe.bl (by first | (simp_all [kindOk, noS]; done) | grind [kindOk, noS]), trivial⟩)
      | (exact ⟨[], _, _, _, rfl, rfl, rfl, RepLe.vb (by first | (simp_all [kindOk, noS]; done) | grind [kindOk, noS]), trivial⟩))
  conv => whnf
  refine ⟨fun a6 => ?_, fun a6 => ?_⟩
  · conv => whnf
    refine ⟨fun _ => ?_, fun h => Bool.noConfusion (a6.symm.trans h)⟩
    conv => whnf
    conv => whnf
    repeat' (first
      | (refine ⟨fun _ => ?_, fun _ => ?_⟩ <;> (conv => whnf))
      | (refine CallK.lent (f73 _) rfl ?_; conv => whnf)
      | (refine CallK.lent (f74 _) rfl ?_; conv => whnf)
      | (refine And.intro rfl ?_; conv => whnf)
      | (exact ⟨[], _, _, _, rfl, rfl, rfl, RepLe.bl (by first | (simp_all [kindOk, noS]; done) | grind [kindOk, noS]), trivial⟩)
      | (exact ⟨[], _, _, _, rfl, rfl, rfl, RepLe.vb (by first | (simp_all [kindOk, noS]; done) | grind [kindOk, noS]), trivial⟩))
  conv => whnf
  refine ⟨fun a9 => ?_, fun a9 => ?_⟩
  · conv => whnf
    repeat' (first
      | (refine ⟨fun _ => ?_, fun _ => ?_⟩ <;> (conv => whnf))
      | (refine CallK.lent (f73 _) rfl ?_; conv => whnf)
      | (refine CallK.lent (f74 _) rfl ?_; conv => whnf)
      | (refine And.intro rfl ?_; conv => whnf)
      | (exact ⟨[], _, _, _, rfl, rfl, rfl, RepLe.bl (by first | (simp_all [kindOk, noS]; done) | grind [kindOk, noS]), trivial⟩)
      | (exact ⟨[], _, _, _, rfl, rfl, rfl, RepLe.vb (by first | (simp_all [kindOk, noS]; done) | grind [kindOk, noS]), trivial⟩))
  conv => whnf
  refine ⟨fun a7 => ?_, fun a7 => ?_⟩
  · conv => whnf
    refine ⟨fun _ => ?_, fun h => Bool.noConfusion (a7.symm.trans h)⟩
    conv => whnf
    refine CallK.lent (f75 _) rfl ?_
    conv => whnf
    exact ⟨[], _, _, _, rfl, rfl, rfl, RepLe.vb (by simp_all [kindOk]), trivial⟩
  conv => whnf
  refine ⟨fun a10 => ?_, fun a10 => ?_⟩
  · conv => whnf
    refine CallK.lent (f75 _) rfl ?_
    conv => whnf
    exact ⟨[], _, _, _, rfl, rfl, rfl, RepLe.vb (by simp_all [kindOk]), trivial⟩
  conv => whnf
  repeat' (first
    | (refine ⟨fun _ => ?_, fun _ => ?_⟩ <;> (conv => whnf))
    | (refine CallK.lent (f76 _ _ hx.2.1 hx.2.2) rfl ?_; conv => whnf)
    | (refine CallK.lent (f76 _ _ hx.2.2 hx.2.1) rfl ?_; conv => whnf)
    | (refine CallK.lent (f77 _ _ _ hx.2.1) rfl ?_; conv => whnf)
    | (refine CallK.lent (f77 _ _ _ hx.2.2) rfl ?_; conv => whnf)
    | (refine And.intro rfl ?_; conv => whnf)
    | (exact ⟨[], _, _, _, rfl, rfl, rfl, RepLe.bl (by first | (simp_all [kindOk, convOk]; done) | grind [kindOk, convOk]), trivial⟩)
    | (exact ⟨[], _, _, _, rfl, rfl, rfl, RepLe.vb (by first | (simp_all [kindOk, convOk]; done) | grind [kindOk, convOk]), trivial⟩))
end Go.Proofs.Ytoophkcicdbnfaa
