/- The reference's lens, right and turned round. -/
import Derived.Test.YtoophkcicdbnfaaL
set_option linter.unusedVariables false
set_option linter.unusedSimpArgs false
namespace Go.Proofs.Ytoophkcicdbnfaa
open Go Go.Av
set_option maxRecDepth 100000

theorem f56 (x : SLens) (hx : fitLens x) : PCall Try.prog 56 [encLens x] (.p (.val (.bool (lensOk x)))) [] := by
  rw [← right_ref]
  refine gcode hT hM Try.func56 rfl rfl (rv := [(2, none)]) rfl rfl rfl fun G hG => ?_
  conv => whnf
  refine ⟨fun a2 => ?_, fun a2 => ?_⟩
  · conv => whnf
    repeat' (first
      | (refine ⟨fun _ => ?_, fun _ => ?_⟩ <;> (conv => whnf))
      | (refine CallK.lent (f105 x) rfl ?_; conv => whnf)
      | (refine CallK.lent (f85 x.field hx.1.ok) rfl ?_; conv => whnf)
      | (refine And.intro rfl ?_; conv => whnf)
      | (exact ⟨[], _, _, _, rfl, rfl, rfl, RepLe.bl (by first | (simp_all [right2, bare2, noS]; done) | grind [right2, bare2, noS]), trivial⟩)
      | (exact ⟨[], _, _, _, rfl, rfl, rfl, RepLe.vb (by first | (simp_all [right2, bare2, noS]; done) | grind [right2, bare2, noS]), trivial⟩))
  conv => whnf
  refine ⟨fun a3 => ?_, fun a3 => ?_⟩
  · conv => whnf
    repeat' (first
      | (refine ⟨fun _ => ?_, fun _ => ?_⟩ <;> (conv => whnf))
      | (refine CallK.lent (f105 x) rfl ?_; conv => whnf)
      | (refine CallK.lent (f85 x.field hx.1.ok) rfl ?_; conv => whnf)
      | (refine And.intro rfl ?_; conv => whnf)
      | (exact ⟨[], _, _, _, rfl, rfl, rfl, RepLe.bl (by first | (simp_all [right2, bare2, noS]; done) | grind [right2, bare2, noS]), trivial⟩)
      | (exact ⟨[], _, _, _, rfl, rfl, rfl, RepLe.vb (by first | (simp_all [right2, bare2, noS]; done) | grind [right2, bare2, noS]), trivial⟩))
  conv => whnf
  refine CallK.lent (f106 x.place) rfl ?_
  conv => whnf
  refine ⟨fun b1 => ?_, fun b1 => ?_⟩
  · conv => whnf
    exact ⟨[], _, _, _, rfl, rfl, rfl, RepLe.bl (by simp_all [right2]), trivial⟩
  conv => whnf
  refine CallK.lent (f107 x hx.ok) rfl ?_
  conv => whnf
  refine ⟨fun b2 => ?_, fun b2 => ?_⟩
  · conv => whnf
    exact ⟨[], _, _, _, rfl, rfl, rfl, RepLe.bl (by simp_all [right2]), trivial⟩
  conv => whnf
  have b1 : placeOk x.place = true := by simpa using b1
  have b2 : sameField x.field noField = true := by simpa using b2
  refine ⟨fun a8 => ?_, fun a8 => ?_⟩
  · have hk : right2 x = conv2 x := by simp_all [right2]
    clear a2 a3 b1 b2 a8
    conv => whnf
    refine CallK.go [] (f55 x.forth x.name hx.ok.2.1) rfl rfl rfl rfl rfl ?_
    conv => whnf
    refine CallK.go [] (f55 x.back x.other hx.ok.2.2) rfl rfl rfl rfl rfl ?_
    conv => whnf
    conv => whnf
    repeat' (first
      | (refine ⟨fun _ => ?_, fun _ => ?_⟩ <;> (conv => whnf))
      | (refine CallK.lent (f108 _ _ hx.2.1 hx.2.2) rfl ?_; conv => whnf)
      | (refine CallK.lent (f108 _ _ hx.2.2 hx.2.1) rfl ?_; conv => whnf)
      | (refine And.intro rfl ?_; conv => whnf)
      | (exact ⟨[], _, _, _, rfl, rfl, rfl, RepLe.bl (by first | (simp_all [conv2]; done) | grind [conv2]), trivial⟩)
      | (exact ⟨[], _, _, _, rfl, rfl, rfl, RepLe.vb (by first | (simp_all [conv2]; done) | grind [conv2]), trivial⟩))
  have hk : right2 x = kind2 x := by simp_all [right2]
  clear a2 a3 b1 b2 a8
  conv => whnf
  refine CallK.lent (f105 x) rfl ?_
  conv => whnf
  refine ⟨fun t0 => ?_, fun t0 => ?_⟩
  · conv => whnf
    exact ⟨[], _, _, _, rfl, rfl, rfl, RepLe.bl (by simp_all [kind2]), trivial⟩
  have t0 : tablesB x = false := t0
  conv => whnf
  refine ⟨fun a6 => ?_, fun a6 => ?_⟩
  · conv => whnf
    repeat' (first
      | (refine ⟨fun _ => ?_, fun _ => ?_⟩ <;> (conv => whnf))
      | (refine CallK.lent (f109 _) rfl ?_; conv => whnf)
      | (refine And.intro rfl ?_; conv => whnf)
      | (exact ⟨[], _, _, _, rfl, rfl, rfl, RepLe.bl (by first | (simp_all [kind2]; done) | grind [kind2]), trivial⟩)
      | (exact ⟨[], _, _, _, rfl, rfl, rfl, RepLe.vb (by first | (simp_all [kind2]; done) | grind [kind2]), trivial⟩))
  conv => whnf
  refine ⟨fun a9 => ?_, fun a9 => ?_⟩
  · conv => whnf
    repeat' (first
      | (refine ⟨fun _ => ?_, fun _ => ?_⟩ <;> (conv => whnf))
      | (refine CallK.lent (f109 _) rfl ?_; conv => whnf)
      | (refine And.intro rfl ?_; conv => whnf)
      | (exact ⟨[], _, _, _, rfl, rfl, rfl, RepLe.bl (by first | (simp_all [kind2]; done) | grind [kind2]), trivial⟩)
      | (exact ⟨[], _, _, _, rfl, rfl, rfl, RepLe.vb (by first | (simp_all [kind2]; done) | grind [kind2]), trivial⟩))
  conv => whnf
  refine ⟨fun c0 => ?_, fun c0 => ?_⟩
  · conv => whnf
    exact ⟨[], _, _, _, rfl, rfl, rfl, RepLe.bl (by simp_all [kind2]), trivial⟩
  have c0 : iEq x.factor 0 = true := by simpa using c0
  conv => whnf
  refine ⟨fun a7 => ?_, fun a7 => ?_⟩
  · conv => whnf
    repeat' (first
      | (refine ⟨fun _ => ?_, fun _ => ?_⟩ <;> (conv => whnf))
      | (refine And.intro rfl ?_; conv => whnf)
      | (exact ⟨[], _, _, _, rfl, rfl, rfl, RepLe.bl (by first | (simp_all [kind2, noS]; done) | grind [kind2, noS]), trivial⟩)
      | (exact ⟨[], _, _, _, rfl, rfl, rfl, RepLe.vb (by first | (simp_all [kind2, noS]; done) | grind [kind2, noS]), trivial⟩))
  conv => whnf
  refine ⟨fun a10 => ?_, fun a10 => ?_⟩
  · conv => whnf
    repeat' (first
      | (refine ⟨fun _ => ?_, fun _ => ?_⟩ <;> (conv => whnf))
      | (refine And.intro rfl ?_; conv => whnf)
      | (exact ⟨[], _, _, _, rfl, rfl, rfl, RepLe.bl (by first | (simp_all [kind2, noS]; done) | grind [kind2, noS]), trivial⟩)
      | (exact ⟨[], _, _, _, rfl, rfl, rfl, RepLe.vb (by first | (simp_all [kind2, noS]; done) | grind [kind2, noS]), trivial⟩))
  conv => whnf
  refine ⟨fun o0 => ?_, fun o0 => ?_⟩
  · have o0 : sEq x.other noS = false := by simpa [noS] using o0
    conv => whnf
    exact ⟨[], _, _, _, rfl, rfl, rfl, RepLe.bl (by simp_all [kind2]), trivial⟩
  have o0 : sEq x.other noS = true := by simpa [noS] using o0
  conv => whnf
  refine ⟨fun a1 => ?_, fun a1 => ?_⟩
  · conv => whnf
    refine CallK.lent (f109 _) rfl ?_
    conv => whnf
    exact ⟨[], _, _, _, rfl, rfl, rfl, RepLe.vb (by simp_all [kind2]), trivial⟩
  conv => whnf
  refine ⟨fun a4 => ?_, fun a4 => ?_⟩
  · conv => whnf
    repeat' (first
      | (refine ⟨fun _ => ?_, fun _ => ?_⟩ <;> (conv => whnf))
      | (refine And.intro rfl ?_; conv => whnf)
      | (exact ⟨[], _, _, _, rfl, rfl, rfl, RepLe.bl (by first | (simp_all [kind2, noS]; done) | grind [kind2, noS]), trivial⟩)
      | (exact ⟨[], _, _, _, rfl, rfl, rfl, RepLe.vb (by first | (simp_all [kind2, noS]; done) | grind [kind2, noS]), trivial⟩))
  conv => whnf
  repeat' (first
    | (refine ⟨fun _ => ?_, fun _ => ?_⟩ <;> (conv => whnf))
    | (refine CallK.lent (f109 _) rfl ?_; conv => whnf)
    | (refine And.intro rfl ?_; conv => whnf)
    | (exact ⟨[], _, _, _, rfl, rfl, rfl, RepLe.bl (by first | (simp_all [kind2, noS]; done) | grind [kind2, noS]), trivial⟩)
    | (exact ⟨[], _, _, _, rfl, rfl, rfl, RepLe.vb (by first | (simp_all [kind2, noS]; done) | grind [kind2, noS]), trivial⟩))
end Go.Proofs.Ytoophkcicdbnfaa
