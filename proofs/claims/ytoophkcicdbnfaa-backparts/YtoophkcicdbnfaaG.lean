/- Copies; a lens turned round: what the program answers. -/
import Derived.Test.YtoophkcicdbnfaaF
set_option linter.unusedVariables false
set_option linter.unusedSimpArgs false
namespace Go.Proofs.Ytoophkcicdbnfaa
open Go Go.Av
set_option maxRecDepth 100000

/-- Every list in it is one that memory held. -/
def fitField (f : SField) : Prop := f.cases.length ≤ 8796093022208
def fitLens (x : SLens) : Prop := fitField x.field ∧ x.forth.length ≤ 4398046511104 ∧ x.back.length ≤ 4398046511104
theorem fitField.ok {f : SField} (h : fitField f) : okField f := Nat.le_trans h (by decide)
theorem fitLens.ok {x : SLens} (h : fitLens x) : okLens x := ⟨h.1.ok, Nat.le_trans h.2.1 (by decide), Nat.le_trans h.2.2 (by decide)⟩

theorem f118 (l : List ByteArray) (hl : l.length ≤ 8796093022208) : PCall Try.prog 118 [encStrs l] (.p (encStrs l)) [] := by
  refine GCall.slice (fun h0 => ?_) ?_
  · refine gcode hT hM Try.func118 rfl rfl (rv := [(2, none)]) rfl rfl rfl fun G hG => ?_
    conv => whnf
    have : l = [] := List.length_eq_zero_iff.1 h0
    subst this
    exact ⟨[], _, _, _, rfl, rfl, rfl, PLe.rep PLe.nil, trivial⟩
  · refine gcode hT hM Try.func118 rfl rfl (rv := [(2, none)]) rfl rfl rfl fun G hG => ?_
    conv => whnf
    refine ⟨⟨show 0 + l.length ≤ 9223372036854775807 by omega, show (0 + l.length) * 16 ≤ 140737488355328 by omega⟩, ?_⟩
    conv => whnf
    exact ⟨[], _, _, _, rfl, rfl, rfl, PLe.rep (PLe.rows (Nat.zero_add _) fun i j hi hj => catF_ge (Nat.zero_le _)), trivial⟩

theorem f112 (l : List SPair) (hl : l.length ≤ 4398046511104) : PCall Try.prog 112 [encPairs l] (.p (encPairs l)) [] := by
  refine GCall.slice (fun h0 => ?_) ?_
  · refine gcode hT hM Try.func112 rfl rfl (rv := [(2, none)]) rfl rfl rfl fun G hG => ?_
    conv => whnf
    have : l = [] := List.length_eq_zero_iff.1 h0
    subst this
    exact ⟨[], _, _, _, rfl, rfl, rfl, PLe.rep PLe.nil, trivial⟩
  · refine gcode hT hM Try.func112 rfl rfl (rv := [(2, none)]) rfl rfl rfl fun G hG => ?_
    conv => whnf
    refine ⟨⟨show 0 + l.length ≤ 9223372036854775807 by omega, show (0 + l.length) * 32 ≤ 140737488355328 by omega⟩, ?_⟩
    conv => whnf
    exact ⟨[], _, _, _, rfl, rfl, rfl, PLe.rep (PLe.rows (Nat.zero_add _) fun i j hi hj => catF_ge (Nat.zero_le _)), trivial⟩

theorem f78 (f : SField) (hf : fitField f) : PCall Try.prog 78 [encField f] (.p (encField f)) [] := by
  refine gcode hT hM Try.func78 rfl rfl (rv := [(2, some 30)]) rfl rfl rfl fun G hG => ?_
  conv => whnf
  refine CallK.go [] (f118 f.cases hf) rfl rfl rfl rfl rfl ?_
  conv => whnf
  exact ⟨[], _, _, _, rfl, rfl, rfl, RepLe.refl _, trivial⟩

theorem f61 (x : SLens) (hx : fitLens x) : PCall Try.prog 61 [encLens x] (.p (encLens x)) [] := by
  refine gcode hT hM Try.func61 rfl rfl (rv := [(2, some 33)]) rfl rfl rfl fun G hG => ?_
  conv => whnf
  refine CallK.go [] (f78 x.field hx.1) rfl rfl rfl rfl rfl ?_
  conv => whnf
  refine CallK.go [] (f112 x.forth hx.2.1) rfl rfl rfl rfl rfl ?_
  conv => whnf
  refine CallK.go [] (f112 x.back hx.2.2) rfl rfl rfl rfl rfl ?_
  conv => whnf
  exact ⟨[], _, _, _, rfl, rfl, rfl, RepLe.refl _, trivial⟩
end Go.Proofs.Ytoophkcicdbnfaa
