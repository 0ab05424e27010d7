import Derived.Test.YtalpbdabeffnlaaGreatJoE
/- Is a lens right: what the program answers. -/
set_option linter.unusedVariables false
set_option linter.unusedSimpArgs false
namespace Go.Proofs.YtalpbdabeffnlaaGreat
open Go Go.Av
set_option maxRecDepth 100000

def convOk (x : SLens) : Bool := forthOk x.forth x.back && (forthOk x.back x.forth && (takesOk x.forth x.name x.other && takesOk x.back x.other x.name))
def kindOk (x : SLens) : Bool :=
  if iEq x.kind 1 then nameOk x.name
  else if iEq x.kind 4 then !sEq x.place.group noS
  else if iEq x.kind 5 then sEq x.place.group noS && nameOk x.name
  else if iEq x.kind 6 || iEq x.kind 9 then nameOk x.name && (nameOk x.other && (!sEq x.name x.other && factorOk x.factor))
  else if iEq x.kind 7 || iEq x.kind 10 then textOk x.other
  else convOk x
def restOk (x : SLens) : Bool := if iEq x.kind 2 || iEq x.kind 3 then fieldOk x.field else placeOk x.place && kindOk x
def lensOk (x : SLens) : Bool := iLe 1 x.kind && (iLe x.kind 10 && (sameLens x (partsOf x) && restOk x))

theorem f25 (x : SLens) (hx : okLens x) : PCall Tryz.prog 51 [encLens x] (.p (.val (.bool (lensOk x)))) [] := by
  have k1 : iLt x.kind 1 = !iLe 1 x.kind := iLt_not _ _
  have k2 : iLt 10 x.kind = !iLe x.kind 10 := iLt_not _ _
  refine gcode hT hM Tryz.func51 rfl rfl (rv := [(2, none)]) rfl rfl rfl fun G hG => ?_
  conv => whnf
  refine ⟨fun h1 => ?_, fun h1 => ?_⟩
  · conv => whnf
    refine ⟨rfl, ?_⟩
    conv => whnf
    exact ⟨[], _, _, _, rfl, rfl, rfl, RepLe.bl (by simp_all [lensOk]), trivial⟩
  conv => whnf
  refine ⟨fun h2 => ?_, fun h2 => ?_⟩
  · conv => whnf
    refine ⟨rfl, ?_⟩
    conv => whnf
    exact ⟨[], _, _, _, rfl, rfl, rfl, RepLe.bl (by simp_all [lensOk]), trivial⟩
  conv => whnf
  refine CallK.go [] (f70 x) rfl rfl rfl rfl rfl ?_
  conv => whnf
  refine CallK.lent (f57 x (partsOf x) hx) rfl ?_
  conv => whnf
  refine ⟨rfl, ?_⟩
  conv => whnf
  refine ⟨fun h3 => ?_, fun h3 => ?_⟩
  · conv => whnf
    exact ⟨[], _, _, _, rfl, rfl, rfl, RepLe.bl (by simp_all [lensOk]), trivial⟩
  conv => whnf
  refine ⟨fun h4 => ?_, fun h4 => ?_⟩
  · conv => whnf
    refine CallK.lent (f71 x.field hx.1) rfl ?_
    conv => whnf
    exact ⟨[], _, _, _, rfl, rfl, rfl, RepLe.vb (by simp_all [lensOk, restOk]), trivial⟩
  conv => whnf
  refine ⟨fun h5 => ?_, fun h5 => ?_⟩
  · conv => whnf
    refine CallK.lent (f71 x.field hx.1) rfl ?_
    conv => whnf
    exact ⟨[], _, _, _, rfl, rfl, rfl, RepLe.vb (by simp_all [lensOk, restOk]), trivial⟩
  conv => whnf
  refine CallK.lent (f72 x.place) rfl ?_
  conv => whnf
  refine ⟨fun h6 => ?_, fun h6 => ?_⟩
  · conv => whnf
    exact ⟨[], _, _, _, rfl, rfl, rfl, RepLe.bl (by simp_all [lensOk, restOk]), trivial⟩
  conv => whnf
  have h3 : sameLens x (partsOf x) = true := by simpa using h3
  have h6 : placeOk x.place = true := by simpa using h6
  have hk : lensOk x = kindOk x := by simp_all [lensOk, restOk]
  clear h3 h6 k1 k2 h1 h2 h4 h5
  refine ⟨fun a1 => ?_, fun a1 => ?_⟩
  · conv => whnf
    refine CallK.lent (f73 _) rfl ?_
    conv => whnf
    exact ⟨[], _, _, _, rfl, rfl, rfl, RepLe.vb (by simp_all [kindOk]), trivial⟩
  conv => whnf
  refine ⟨fun a4 => ?_, fun a4 => ?_⟩
  · conv => whnf
    exact ⟨[], _, _, _, rfl, rfl, rfl, RepLe.bl (by simp_all [kindOk, noS]), trivial⟩
  conv => whnf
  refine ⟨fun a5 => ?_, fun a5 => ?_⟩
  · conv => whnf
    repeat' (first
      | (refine ⟨fun _ => ?_, fun _ => ?_⟩ <;> (conv => whnf))
      | (refine CallK.lent (f73 _) rfl ?_; conv => whnf)
      | (refine And.intro rfl ?_; conv => whnf)
      | (exact ⟨[], _, _, _, rfl, rfl, rfl, RepLe.bl (by first | (simp_all [kindOk, noS]; done) | grind [kindOk, noS]), trivial⟩)
      | (exact ⟨[], _, _, _, rfl, rfl, rfl, RepLe.vb (by first | (simp_all [kindOk, noS]; done) | grind [kindOk, noS]), trivial⟩))
  conv => whnf
  refine ⟨fun a6 => ?_, fun a6 => ?_⟩
  · conv => whnf
    refine ⟨fun _ => ?_, fun h => Bool.noConfusion (a6.symm.trans h)⟩
    conv => whnf
    conv => whnf
    repeat' (first
      | (refine ⟨fun _ => ?_, fun _ => ?_⟩ <;> (conv => whnf))
      | (refine CallK.lent (f73 _) rfl ?_; conv => whnf)
      | (refine CallK.lent (f74 _) rfl ?_; conv => whnf)
      | (refine And.intro rfl ?_; conv => whnf)
      | (exact ⟨[], _, _, _, rfl, rfl, rfl, RepLe.bl (by first | (simp_all [kindOk, noS]; done) | grind [kindOk, noS]), trivial⟩)
      | (exact ⟨[], _, _, _, rfl, rfl, rfl, RepLe.vb (by first | (simp_all [kindOk, noS]; done) | grind [kindOk, noS]), trivial⟩))
  conv => whnf
  refine ⟨fun a9 => ?_, fun a9 => ?_⟩
  · conv => whnf
    repeat' (first
      | (refine ⟨fun _ => ?_, fun _ => ?_⟩ <;> (conv => whnf))
      | (refine CallK.lent (f73 _) rfl ?_; conv => whnf)
      | (refine CallK.lent (f74 _) rfl ?_; conv => whnf)
      | (refine And.intro rfl ?_; conv => whnf)
      | (exact ⟨[], _, _, _, rfl, rfl, rfl, RepLe.bl (by first | (simp_all [kindOk, noS]; done) | grind [kindOk, noS]), trivial⟩)
      | (exact ⟨[], _, _, _, rfl, rfl, rfl, RepLe.vb (by first | (simp_all [kindOk, noS]; done) | grind [kindOk, noS]), trivial⟩))
  conv => whnf
  refine ⟨fun a7 => ?_, fun a7 => ?_⟩
  · conv => whnf
    refine ⟨fun _ => ?_, fun h => Bool.noConfusion (a7.symm.trans h)⟩
    conv => whnf
    refine CallK.lent (f75 _) rfl ?_
    conv => whnf
    exact ⟨[], _, _, _, rfl, rfl, rfl, RepLe.vb (by simp_all [kindOk]), trivial⟩
  conv => whnf
  refine ⟨fun a10 => ?_, fun a10 => ?_⟩
  · conv => whnf
    refine CallK.lent (f75 _) rfl ?_
    conv => whnf
    exact ⟨[], _, _, _, rfl, rfl, rfl, RepLe.vb (by simp_all [kindOk]), trivial⟩
  conv => whnf
  repeat' (first
    | (refine ⟨fun _ => ?_, fun _ => ?_⟩ <;> (conv => whnf))
    | (refine CallK.lent (f76 _ _ hx.2.1 hx.2.2) rfl ?_; conv => whnf)
    | (refine CallK.lent (f76 _ _ hx.2.2 hx.2.1) rfl ?_; conv => whnf)
    | (refine CallK.lent (f77 _ _ _ hx.2.1) rfl ?_; conv => whnf)
    | (refine CallK.lent (f77 _ _ _ hx.2.2) rfl ?_; conv => whnf)
    | (refine And.intro rfl ?_; conv => whnf)
    | (exact ⟨[], _, _, _, rfl, rfl, rfl, RepLe.bl (by first | (simp_all [kindOk, convOk]; done) | grind [kindOk, convOk]), trivial⟩)
    | (exact ⟨[], _, _, _, rfl, rfl, rfl, RepLe.vb (by first | (simp_all [kindOk, convOk]; done) | grind [kindOk, convOk]), trivial⟩))
end Go.Proofs.YtalpbdabeffnlaaGreat

/- Copies; a lens turned round: what the program answers. -/
set_option linter.unusedVariables false
set_option linter.unusedSimpArgs false
namespace Go.Proofs.YtalpbdabeffnlaaGreat
open Go Go.Av
set_option maxRecDepth 100000

/-- Every list in it is one that memory held. -/
def fitField (f : SField) : Prop := f.cases.length ≤ 8796093022208
def fitLens (x : SLens) : Prop := fitField x.field ∧ x.forth.length ≤ 4398046511104 ∧ x.back.length ≤ 4398046511104
theorem fitField.ok {f : SField} (h : fitField f) : okField f := Nat.le_trans h (by decide)
theorem fitLens.ok {x : SLens} (h : fitLens x) : okLens x := ⟨h.1.ok, Nat.le_trans h.2.1 (by decide), Nat.le_trans h.2.2 (by decide)⟩

theorem f118 (l : List ByteArray) (hl : l.length ≤ 8796093022208) : PCall Tryz.prog 125 [encStrs l] (.p (encStrs l)) [] := by
  refine GCall.slice (fun h0 => ?_) ?_
  · refine gcode hT hM Tryz.func125 rfl rfl (rv := [(2, none)]) rfl rfl rfl fun G hG => ?_
    conv => whnf
    have : l = [] := List.length_eq_zero_iff.1 h0
    subst this
    exact ⟨[], _, _, _, rfl, rfl, rfl, PLe.rep PLe.nil, trivial⟩
  · refine gcode hT hM Tryz.func125 rfl rfl (rv := [(2, none)]) rfl rfl rfl fun G hG => ?_
    conv => whnf
    refine ⟨⟨show 0 + l.length ≤ 9223372036854775807 by omega, show (0 + l.length) * 16 ≤ 140737488355328 by omega⟩, ?_⟩
    conv => whnf
    exact ⟨[], _, _, _, rfl, rfl, rfl, PLe.rep (PLe.rows (Nat.zero_add _) fun i j hi hj => catF_ge (Nat.zero_le _)), trivial⟩

theorem f112 (l : List SPair) (hl : l.length ≤ 4398046511104) : PCall Tryz.prog 137 [encPairs l] (.p (encPairs l)) [] := by
  refine GCall.slice (fun h0 => ?_) ?_
  · refine gcode hT hM Tryz.func137 rfl rfl (rv := [(2, none)]) rfl rfl rfl fun G hG => ?_
    conv => whnf
    have : l = [] := List.length_eq_zero_iff.1 h0
    subst this
    exact ⟨[], _, _, _, rfl, rfl, rfl, PLe.rep PLe.nil, trivial⟩
  · refine gcode hT hM Tryz.func137 rfl rfl (rv := [(2, none)]) rfl rfl rfl fun G hG => ?_
    conv => whnf
    refine ⟨⟨show 0 + l.length ≤ 9223372036854775807 by omega, show (0 + l.length) * 32 ≤ 140737488355328 by omega⟩, ?_⟩
    conv => whnf
    exact ⟨[], _, _, _, rfl, rfl, rfl, PLe.rep (PLe.rows (Nat.zero_add _) fun i j hi hj => catF_ge (Nat.zero_le _)), trivial⟩

theorem f78 (f : SField) (hf : fitField f) : PCall Tryz.prog 81 [encField f] (.p (encField f)) [] := by
  refine gcode hT hM Tryz.func81 rfl rfl (rv := [(2, some 39)]) rfl rfl rfl fun G hG => ?_
  conv => whnf
  refine CallK.go [] (f118 f.cases hf) rfl rfl rfl rfl rfl ?_
  conv => whnf
  exact ⟨[], _, _, _, rfl, rfl, rfl, RepLe.refl _, trivial⟩

theorem f61 (x : SLens) (hx : fitLens x) : PCall Tryz.prog 75 [encLens x] (.p (encLens x)) [] := by
  refine gcode hT hM Tryz.func75 rfl rfl (rv := [(2, some 42)]) rfl rfl rfl fun G hG => ?_
  conv => whnf
  refine CallK.go [] (f78 x.field hx.1) rfl rfl rfl rfl rfl ?_
  conv => whnf
  refine CallK.go [] (f112 x.forth hx.2.1) rfl rfl rfl rfl rfl ?_
  conv => whnf
  refine CallK.go [] (f112 x.back hx.2.2) rfl rfl rfl rfl rfl ?_
  conv => whnf
  exact ⟨[], _, _, _, rfl, rfl, rfl, RepLe.refl _, trivial⟩
end Go.Proofs.YtalpbdabeffnlaaGreat

/- A lens turned round: what the program answers. -/
set_option linter.unusedVariables false
set_option linter.unusedSimpArgs false
namespace Go.Proofs.YtalpbdabeffnlaaGreat
open Go Go.Av
set_option maxRecDepth 100000

def noLens : SLens := { kind := 0, place := noRef, name := noS, other := noS, factor := 0, field := noField, forth := [], back := [] }
def turnOf (x : SLens) : SLens :=
  if iEq x.kind 1 then { x with place := { x.place with name := x.name }, name := x.place.name }
  else if iEq x.kind 2 then { x with kind := 3 }
  else if iEq x.kind 3 then { x with kind := 2 }
  else if iEq x.kind 4 then { x with kind := 5, name := x.place.group, place := { x.place with group := noS } }
  else if iEq x.kind 5 then { x with kind := 4, name := noS, place := { x.place with group := x.name } }
  else if iEq x.kind 6 then { x with kind := 9 }
  else if iEq x.kind 9 then { x with kind := 6 }
  else if iEq x.kind 7 then { x with kind := 10 }
  else if iEq x.kind 10 then { x with kind := 7 }
  else if iEq x.kind 8 then { x with name := x.other, other := x.name, forth := x.back, back := x.forth }
  else x
def inverse (x : SLens) : SLens × Int := if lensOk x then (turnOf x, 0) else (noLens, 5)
def encInv (y : SLens × Int) : AV := .tup 2 (at_ (.p .any) [.p (encLens y.1), .p (.val (.int .i64 y.2))])

theorem f22 (x : SLens) (hx : fitLens x) : PCall Tryz.prog 32 [encLens x] (encInv (inverse x)) [] := by
  refine gcode hT hM Tryz.func32 rfl rfl (rv := [(2, some 42), (3, none)]) rfl rfl rfl fun G hG => ?_
  conv => whnf
  refine CallK.lent (f25 x hx.ok) rfl ?_
  conv => whnf
  refine ⟨fun h => ?_, fun h => ?_⟩
  · conv => whnf
    exact ⟨[], _, _, _, rfl, rfl, rfl, RepLe.as encInv (a := (noLens, 5)) (by simp_all [inverse]) (RepLe.tup2 (PLe.rep (PLe.agg (by repeat' (first | refine PLes.cons ?_ ?_ | exact PLe.refl _ | exact PLe.nil | exact PLes.end)))) (RepLe.refl _)), trivial⟩
  conv => whnf
  have h : lensOk x = true := by simpa using h
  have hi : inverse x = (turnOf x, 0) := by simp [inverse, h]
  clear h
  refine CallK.go [] (f61 x hx) rfl rfl rfl rfl rfl ?_
  conv => whnf
  refine ⟨fun a1 => ?_, fun a1 => ?_⟩
  · conv => whnf
    exact ⟨[], _, _, _, rfl, rfl, rfl, RepLe.as encInv (a := ({ x with place := { x.place with name := x.name }, name := x.place.name }, 0)) (by simp_all [turnOf]) (RepLe.tup2 (PLe.rep (PLe.agg (by repeat' (first | refine PLes.cons ?_ ?_ | exact PLe.refl _ | exact PLe.nil | exact PLes.end)))) (RepLe.refl _)), trivial⟩
  conv => whnf
  refine ⟨fun a2 => ?_, fun a2 => ?_⟩
  · conv => whnf
    exact ⟨[], _, _, _, rfl, rfl, rfl, RepLe.as encInv (a := ({ x with kind := 3 }, 0)) (by simp_all [turnOf]) (RepLe.tup2 (PLe.rep (PLe.agg (by repeat' (first | refine PLes.cons ?_ ?_ | exact PLe.refl _ | exact PLe.nil | exact PLes.end)))) (RepLe.refl _)), trivial⟩
  conv => whnf
  refine ⟨fun a3 => ?_, fun a3 => ?_⟩
  · conv => whnf
    exact ⟨[], _, _, _, rfl, rfl, rfl, RepLe.as encInv (a := ({ x with kind := 2 }, 0)) (by simp_all [turnOf]) (RepLe.tup2 (PLe.rep (PLe.agg (by repeat' (first | refine PLes.cons ?_ ?_ | exact PLe.refl _ | exact PLe.nil | exact PLes.end)))) (RepLe.refl _)), trivial⟩
  conv => whnf
  refine ⟨fun a4 => ?_, fun a4 => ?_⟩
  · conv => whnf
    exact ⟨[], _, _, _, rfl, rfl, rfl, RepLe.as encInv (a := ({ x with kind := 5, name := x.place.group, place := { x.place with group := noS } }, 0)) (by simp_all [turnOf]) (RepLe.tup2 (PLe.rep (PLe.agg (by repeat' (first | refine PLes.cons ?_ ?_ | exact PLe.refl _ | exact PLe.nil | exact PLes.end)))) (RepLe.refl _)), trivial⟩
  conv => whnf
  refine ⟨fun a5 => ?_, fun a5 => ?_⟩
  · conv => whnf
    exact ⟨[], _, _, _, rfl, rfl, rfl, RepLe.as encInv (a := ({ x with kind := 4, name := noS, place := { x.place with group := x.name } }, 0)) (by simp_all [turnOf]) (RepLe.tup2 (PLe.rep (PLe.agg (by repeat' (first | refine PLes.cons ?_ ?_ | exact PLe.refl _ | exact PLe.nil | exact PLes.end)))) (RepLe.refl _)), trivial⟩
  conv => whnf
  refine ⟨fun a6 => ?_, fun a6 => ?_⟩
  · conv => whnf
    exact ⟨[], _, _, _, rfl, rfl, rfl, RepLe.as encInv (a := ({ x with kind := 9 }, 0)) (by simp_all [turnOf]) (RepLe.tup2 (PLe.rep (PLe.agg (by repeat' (first | refine PLes.cons ?_ ?_ | exact PLe.refl _ | exact PLe.nil | exact PLes.end)))) (RepLe.refl _)), trivial⟩
  conv => whnf
  refine ⟨fun a9 => ?_, fun a9 => ?_⟩
  · conv => whnf
    exact ⟨[], _, _, _, rfl, rfl, rfl, RepLe.as encInv (a := ({ x with kind := 6 }, 0)) (by simp_all [turnOf]) (RepLe.tup2 (PLe.rep (PLe.agg (by repeat' (first | refine PLes.cons ?_ ?_ | exact PLe.refl _ | exact PLe.nil | exact PLes.end)))) (RepLe.refl _)), trivial⟩
  conv => whnf
  refine ⟨fun a7 => ?_, fun a7 => ?_⟩
  · conv => whnf
    exact ⟨[], _, _, _, rfl, rfl, rfl, RepLe.as encInv (a := ({ x with kind := 10 }, 0)) (by simp_all [turnOf]) (RepLe.tup2 (PLe.rep (PLe.agg (by repeat' (first | refine PLes.cons ?_ ?_ | exact PLe.refl _ | exact PLe.nil | exact PLes.end)))) (RepLe.refl _)), trivial⟩
  conv => whnf
  refine ⟨fun a10 => ?_, fun a10 => ?_⟩
  · conv => whnf
    exact ⟨[], _, _, _, rfl, rfl, rfl, RepLe.as encInv (a := ({ x with kind := 7 }, 0)) (by simp_all [turnOf]) (RepLe.tup2 (PLe.rep (PLe.agg (by repeat' (first | refine PLes.cons ?_ ?_ | exact PLe.refl _ | exact PLe.nil | exact PLes.end)))) (RepLe.refl _)), trivial⟩
  conv => whnf
  refine ⟨fun a8 => ?_, fun a8 => ?_⟩
  · conv => whnf
    exact ⟨[], _, _, _, rfl, rfl, rfl, RepLe.as encInv (a := ({ x with name := x.other, other := x.name, forth := x.back, back := x.forth }, 0)) (by simp_all [turnOf]) (RepLe.tup2 (PLe.rep (PLe.agg (by repeat' (first | refine PLes.cons ?_ ?_ | exact PLe.refl _ | exact PLe.nil | exact PLes.end)))) (RepLe.refl _)), trivial⟩
  conv => whnf
  exact ⟨[], _, _, _, rfl, rfl, rfl, RepLe.as encInv (a := (x, 0)) (by simp_all [turnOf]) (RepLe.tup2 (PLe.rep (PLe.agg (by repeat' (first | refine PLes.cons ?_ ?_ | exact PLe.refl _ | exact PLe.nil | exact PLes.end)))) (RepLe.refl _)), trivial⟩
end Go.Proofs.YtalpbdabeffnlaaGreat
