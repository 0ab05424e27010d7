/- The law BackInverse: whatever the lens, true. -/
import Derived.Test.YtoophkcicdbnfaaQ
set_option linter.unusedVariables false
set_option linter.unusedSimpArgs false
namespace Go.Proofs.Ytoophkcicdbnfaa
open Go Go.Av
set_option maxRecDepth 100000

theorem f4 (x : SLens) (hx : fitLens x) : PCall Try.prog 4 [encLens x] (.p (.val (.bool true))) [] := by
  have law := law_true x
  have hy := inverse_fit x hx
  refine gcode hT hM Try.func4 rfl rfl (rv := [(2, none)]) rfl rfl rfl fun G hG => ?_
  conv => whnf
  refine CallK.lent (f20) rfl ?_
  conv => whnf
  refine ⟨fun c => absurd c (by decide), fun _ => ?_⟩
  conv => whnf
  refine CallK.lent (f21 x hx.ok) rfl ?_
  conv => whnf
  refine ⟨fun h => ?_, fun h => ?_⟩
  · conv => whnf
    exact ⟨[], _, _, _, rfl, rfl, rfl, RepLe.bl rfl, trivial⟩
  conv => whnf
  have h : heavyLens x = false := h
  rw [lawOf, h, Bool.false_or] at law
  refine CallK.go [] (f22 x hx) rfl rfl rfl rfl rfl ?_
  conv => whnf
  refine CallK.go [] (f23 x hx) rfl rfl rfl rfl rfl ?_
  conv => whnf
  refine ⟨fun c1 => ?_, fun c1 => ?_⟩
  · have c1 : (!iEq (inverse x).2 (inverse2 x).2) = true := c1
    rw [inverse_ref, iEq_self] at c1
    cases c1
  conv => whnf
  refine CallK.lent (f24 (inverse x).1 (inverse2 x).1 hy.ok) rfl ?_
  conv => whnf
  refine ⟨fun c2 => ?_, fun c2 => ?_⟩
  · have c2 : (!sameLens (inverse x).1 (inverse2 x).1) = true := c2
    rw [inverse_ref, sameLens_self] at c2
    cases c2
  conv => whnf
  refine ⟨fun c3 => ?_, fun c3 => ?_⟩
  · conv => whnf
    exact ⟨[], _, _, _, rfl, rfl, rfl, RepLe.bl rfl, trivial⟩
  conv => whnf
  have c3 : (!iEq (inverse x).2 0) = false := c3
  rw [c3, Bool.false_or] at law
  refine CallK.go [] (f22 (inverse x).1 hy) rfl rfl rfl rfl rfl ?_
  conv => whnf
  refine CallK.lent (f25 (inverse x).1 hy.ok) rfl ?_
  conv => whnf
  conv => whnf
  repeat' (first
    | (refine ⟨fun _ => ?_, fun _ => ?_⟩ <;> (conv => whnf))
    | (refine CallK.lent (f24 (inverse (inverse x).1).1 x (inverse_fit _ hy).ok) rfl ?_; conv => whnf)
    | (refine And.intro rfl ?_; conv => whnf)
    | (exact ⟨[], _, _, _, rfl, rfl, rfl, RepLe.bl (by first | (simp_all []; done) | grind []), trivial⟩)
    | (exact ⟨[], _, _, _, rfl, rfl, rfl, RepLe.vb (by first | (simp_all []; done) | grind []), trivial⟩))
end Go.Proofs.Ytoophkcicdbnfaa
