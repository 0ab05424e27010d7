/- SchemaTurns: the law itself. -/
import Derived.Test.YtoophkcicdbnfaaAM
set_option linter.unusedVariables false
set_option linter.unusedSimpArgs false
namespace Go.Proofs.Ytoophkcicdbnfaa
open Go Go.Av
set_option maxRecDepth 100000
set_option maxHeartbeats 4000000

theorem nil_fit : fitFields [] := ⟨by simp, fun x hx => by simp at hx⟩
theorem with_cases (l : List SField) (f : SField) : ((withF l f).1 = [] ∧ (withF l f).2 ≠ 0) ∨ (rightFields l = true ∧ fieldOk f = true ∧ placeIn l f.place = none ∧ l.length ≤ 15 ∧ withF l f = (putIn l f, 0)) := by
  unfold withF
  cases h1 : rightFields l
  · exact .inl ⟨rfl, by show (5 : Int) ≠ 0; decide⟩
  cases h2 : fieldOk f
  · exact .inl ⟨rfl, by show (5 : Int) ≠ 0; decide⟩
  cases hp : placeIn l f.place with
  | some j => exact .inl ⟨rfl, by show (7 : Int) ≠ 0; decide⟩
  | none =>
    show ((if iLt 15 l.length = true then (([] : List SField), (14 : Int)) else (putIn l f, 0)).1 = [] ∧ (if iLt 15 l.length = true then (([] : List SField), (14 : Int)) else (putIn l f, 0)).2 ≠ 0) ∨ (_ ∧ _ ∧ _ ∧ _ ∧ (if iLt 15 l.length = true then (([] : List SField), (14 : Int)) else (putIn l f, 0)) = _)
    by_cases h : iLt 15 l.length = true
    · rw [if_pos h]; exact .inl ⟨rfl, by decide⟩
    · rw [if_neg h]
      have h : iLt 15 (l.length : Int) = false := by simpa using h
      rw [iLt_f] at h
      exact .inr ⟨rfl, rfl, rfl, by omega, rfl⟩
theorem put_fit {l : List SField} {f : SField} (hl : fitFields l) (hf : fitField f) (h15 : l.length ≤ 15) : fitFields (putIn l f) := by
  have hp := put_perm l f
  refine ⟨by rw [hp.length_eq]; simp; omega, fun x hx => ?_⟩
  have := hp.mem_iff.1 hx
  simp only [List.mem_append, List.mem_singleton] at this
  rcases this with h | rfl
  · exact hl.2 x h
  · exact hf
theorem with_fit {l : List SField} {f : SField} (hl : fitFields l) (hf : fitField f) : fitFields (withF l f).1 := by
  rcases with_cases l f with ⟨h, _⟩ | ⟨_, _, _, h15, h⟩
  · rw [h]; exact nil_fit
  · rw [h]; exact put_fit hl hf h15
theorem without_fit {l : List SField} {r : SRef} (hl : fitFields l) : fitFields (withoutF l r).1 := by
  unfold withoutF
  split
  · split
    · exact nil_fit
    · refine ⟨?_, fun x hx => hl.2 x (List.mem_filter.1 hx).1⟩
      have h1 : (notAt l r).length ≤ l.length := List.length_filter_le _ _
      have h2 := hl.1
      show (notAt l r).length * 96 ≤ _
      omega
  · exact nil_fit
theorem iEq_same (a : Int) : iEq a a = true := iEq_t.2 rfl

theorem f8 (l : List SField) (f : SField) (r : SRef) (hl : fitFields l) (hf : fitField f) : PCall Try.prog 8 [encFields l, encField f, encRef r] (.p (.val (.bool true))) [] := by
  have ha := with_fit hl hf
  have hx := without_fit (r := r) hl
  refine gcode hT hM Try.func8 rfl rfl (rv := [(6, none)]) rfl rfl rfl fun G hG => ?_
  conv => whnf
  refine CallK.lent (f15) rfl ?_
  conv => whnf
  refine ⟨fun h => ?_, fun h => ?_⟩
  · cases h
  conv => whnf
  refine CallK.lent (f26 l hl.ok) rfl ?_
  conv => whnf
  refine ⟨fun h1 => ?_, fun h1 => ?_⟩
  · conv => whnf
    exact ⟨[], _, _, _, rfl, rfl, rfl, RepLe.bl rfl, trivial⟩
  conv => whnf
  refine CallK.lent (f44 f hf.ok) rfl ?_
  conv => whnf
  refine ⟨fun h2 => ?_, fun h2 => ?_⟩
  · conv => whnf
    exact ⟨[], _, _, _, rfl, rfl, rfl, RepLe.bl rfl, trivial⟩
  conv => whnf
  refine CallK.go [] (f45 l f hl hf) rfl rfl rfl rfl rfl ?_
  conv => whnf
  refine CallK.go [] (f46 l f hl hf) rfl rfl rfl rfl rfl ?_
  conv => whnf
  refine CallK.go [] (f29 l r hl) rfl rfl rfl rfl rfl ?_
  conv => whnf
  refine CallK.go [] (f47 l r hl) rfl rfl rfl rfl rfl ?_
  conv => whnf
  refine ⟨fun a1 => ?_, fun a1 => ?_⟩
  · rw [iEq_same] at a1; cases a1
  conv => whnf
  refine ⟨fun a2 => ?_, fun a2 => ?_⟩
  · rw [iEq_same] at a2; cases a2
  conv => whnf
  refine CallK.lent (f18 (withF l f).1 (withF l f).1 ha.ok) rfl ?_
  conv => whnf
  refine ⟨fun a3 => ?_, fun a3 => ?_⟩
  · rw [sameFields_self] at a3; cases a3
  conv => whnf
  refine CallK.lent (f18 (withoutF l r).1 (withoutF l r).1 hx.ok) rfl ?_
  conv => whnf
  refine ⟨fun a4 => ?_, fun a4 => ?_⟩
  · rw [sameFields_self] at a4; cases a4
  conv => whnf
  refine ⟨fun b1 => ?_, fun b1 => ?_⟩
  · have hres : iEq ((withF l f).1.length : Int) 0 = true := by
      rcases with_cases l f with ⟨h, _⟩ | ⟨_, _, _, _, h⟩
      · rw [h, iEq_t]; rfl
      · rw [h] at b1
        have b1 : (!iEq 0 0) = true := b1
        rw [iEq_same] at b1; cases b1
    conv => whnf
    exact ⟨[], _, _, _, rfl, rfl, rfl, RepLe.vb hres, trivial⟩
  have hw : rightFields l = true ∧ fieldOk f = true ∧ placeIn l f.place = none ∧ l.length ≤ 15 ∧ withF l f = (putIn l f, 0) := by
    rcases with_cases l f with ⟨_, h⟩ | h
    · rw [iEq_f.2 h] at b1; cases b1
    · exact h
  obtain ⟨k1, k2, k3, k4, k5⟩ := hw
  have e1 : (withF l f).1 = putIn l f := by rw [k5]
  have e2 : withoutF (withF l f).1 f.place = (l, 0) := by rw [e1]; exact without_put k1 k2 k3 k4
  have e3 : fieldAt (withF l f).1 (placeIn (withF l f).1 f.place) = (f, 0) := by rw [e1]; exact find_put k1 k3
  have e4 : rightFields (withF l f).1 = true := by rw [e1]; exact put_right k1 k2 k3 k4
  have hb := without_fit (r := f.place) ha
  have hfo : okField (fieldAt (withF l f).1 (placeIn (withF l f).1 f.place)).1 := by rw [e3]; exact hf.ok
  clear a1 a2 a3 a4 b1
  conv => whnf
  refine CallK.go [] (f29 (withF l f).1 f.place ha) rfl rfl rfl rfl rfl ?_
  conv => whnf
  refine CallK.go [] (f30 (withF l f).1 f.place ha) rfl rfl rfl rfl rfl ?_
  conv => whnf
  refine CallK.lent (f33 (withF l f).1 ha.ok) rfl ?_
  conv => whnf
  refine ⟨fun c1 => ?_, fun c1 => ?_⟩
  · conv => whnf
    refine ⟨fun c2 => ?_, fun c2 => ?_⟩
    · conv => whnf
      refine CallK.lent (f18 (withoutF (withF l f).1 f.place).1 l hb.ok) rfl ?_
      conv => whnf
      refine ⟨fun c3 => ?_, fun c3 => ?_⟩
      · conv => whnf
        refine ⟨fun c4 => ?_, fun c4 => ?_⟩
        · conv => whnf
          refine CallK.lent (f32 (fieldAt (withF l f).1 (placeIn (withF l f).1 f.place)).1 f hfo) rfl ?_
          conv => whnf
          exact ⟨[], _, _, _, rfl, rfl, rfl, RepLe.vb (by rw [e3]; exact sameField_self _), trivial⟩
        · rw [e3, iEq_same] at c4; cases c4
      · rw [e2, sameFields_self] at c3; cases c3
    · rw [e2, iEq_same] at c2; cases c2
  · rw [e4] at c1; cases c1
end Go.Proofs.Ytoophkcicdbnfaa
