/- One more, as the program does it; SchemaTurns' law. -/
import Derived.Test.YtoophkcicdbnfaaAL
set_option linter.unusedVariables false
set_option linter.unusedSimpArgs false
namespace Go.Proofs.Ytoophkcicdbnfaa
open Go Go.Av
set_option maxRecDepth 100000
set_option maxHeartbeats 2000000

theorem f45 (l : List SField) (f : SField) (hl : fitFields l) (hf : fitField f) : PCall Try.prog 45 [encFields l, encField f] (encTake (withF l f)) [] := by
  have hlen := hl.1
  refine gcode hT hM Try.func45 rfl rfl (rv := [(4, none), (5, none)]) rfl rfl rfl fun G hG => ?_
  conv => whnf
  refine CallK.lent (f33 l hl.ok) rfl ?_
  conv => whnf
  refine ⟨fun h1 => ?_, fun h1 => ?_⟩
  · have h1 : rightFields l = false := by simpa using h1
    conv => whnf
    exact ⟨[], _, _, _, rfl, rfl, rfl, by unfold withF; rw [h1]; exact nil_take, trivial⟩
  have h1 : rightFields l = true := by simpa using h1
  conv => whnf
  refine CallK.lent (f71 f hf.ok) rfl ?_
  conv => whnf
  refine ⟨fun h2 => ?_, fun h2 => ?_⟩
  · have h2 : fieldOk f = false := by simpa using h2
    conv => whnf
    exact ⟨[], _, _, _, rfl, rfl, rfl, by unfold withF; rw [h1, h2]; exact nil_take, trivial⟩
  have h2 : fieldOk f = true := by simpa using h2
  conv => whnf
  refine CallK.lent (f81 l f.place hl.ok) rfl ?_
  conv => whnf
  cases hp : placeIn l f.place with
  | some j =>
    refine ⟨fun h3 => ?_, fun h3 => ?_⟩
    · conv => whnf
      exact ⟨[], _, _, _, rfl, rfl, rfl, by unfold withF; rw [h1, h2, hp]; exact nil_take, trivial⟩
    · rw [iLe_f] at h3
      have h3 : ((j : Nat) : Int) < 0 := h3
      omega
  | none =>
    refine ⟨fun h3 => ?_, fun h3 => ?_⟩
    · rw [iLe_t] at h3
      have h3 : (0 : Int) ≤ -1 := h3
      omega
    conv => whnf
    have h16 : l.length ≤ 16 := by
      have := h1
      unfold rightFields at this
      rw [Bool.and_eq_true, iLe_t] at this
      omega
    refine ⟨fun h6 => ?_, fun h6 => ?_⟩
    · conv => whnf
      exact ⟨[], _, _, _, rfl, rfl, rfl, by
        unfold withF; rw [h1, h2, hp]
        show RepLe _ (encTake (if iLt 15 l.length = true then ([], 14) else (putIn l f, 0)))
        rw [if_pos (by rw [iLt_t]; rw [iEq_t] at h6; omega)]; exact nil_take, trivial⟩
    have hw : withF l f = (putIn l f, 0) := by
      unfold withF
      rw [h1, h2, hp]
      show (if iLt 15 l.length = true then ([], 14) else (putIn l f, 0)) = _
      rw [if_neg (by rw [iLt_t]; rw [iEq_f] at h6; omega)]
    have hs := put_pairs h1 hp
    clear h1 h2 h3 h6
    conv => whnf
    refine CallK.go [] (f27 l hl) rfl rfl rfl rfl rfl ?_
    conv => whnf
    refine CallK.go [] (f78 f hf) rfl rfl rfl rfl rfl ?_
    conv => whnf
    refine ⟨⟨show l.length + 1 ≤ 9223372036854775807 by omega, show (l.length + 1) * 96 ≤ 140737488355328 by omega⟩, ?_⟩
    conv => whnf
    refine ⟨rfl, ?_⟩
    conv => whnf
    refine CallK.go [28712] (GCall.blk1 (f97 (l ++ [f]) (putIn l f) (by simp) (by simp; omega) (put_perm l f) hs _) (rowSnoc l f (seven (PLe.refl _) (PLe.refl _) (PLe.refl _) (PLe.refl _) (PLe.refl _) (PLe.refl _) (PLe.refl _)))) rfl rfl rfl rfl rfl ?_
    conv => whnf
    exact ⟨[], _, _, _, rfl, rfl, rfl, by rw [hw]; exact RepLe.refl _, trivial⟩
end Go.Proofs.Ytoophkcicdbnfaa
