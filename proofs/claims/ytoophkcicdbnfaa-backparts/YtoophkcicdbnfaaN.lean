/- The reference's turn; what is heavy. -/
import Derived.Test.YtoophkcicdbnfaaM
set_option linter.unusedVariables false
set_option linter.unusedSimpArgs false
namespace Go.Proofs.Ytoophkcicdbnfaa
open Go Go.Av
set_option maxRecDepth 100000
set_option maxHeartbeats 2000000

def otherOf (k : Int) : Int :=
  if iEq k 2 || iEq k 3 then 5 - k else if iEq k 4 || iEq k 5 then 9 - k else if iEq k 6 || iEq k 9 then 15 - k else if iEq k 7 || iEq k 10 then 17 - k else k
theorem f68 (k : Int) : PCall Try.prog 68 [.val (.int .i64 k)] (.p (.val (.int .i64 (otherOf k)))) [] := by
  have hb : ∀ a, iEq k a = true → k = a := fun a h => iEq_t.1 h
  refine gcode hT hM Try.func68 rfl rfl (rv := [(2, none)]) rfl rfl rfl fun G hG => ?_
  conv => whnf
  repeat' (first
    | (refine ⟨fun _ => ?_, fun _ => ?_⟩ <;> (conv => whnf))
    | (intro z hz; have hz' := wrap64_eq hz (by have := hb _ ‹_›; omega) (by have := hb _ ‹_›; omega); clear hz; subst hz'; conv => whnf)
    | (exact ⟨[], _, _, _, rfl, rfl, rfl, RepLe.vi (by clear hb; simp_all [otherOf]), trivial⟩))

/-- The reference's turned lens, as it builds it. -/
def turn2 (x : SLens) : SLens :=
  let y : SLens := { x with kind := otherOf x.kind, forth := x.back, back := x.forth }
  let y := if iEq x.kind 1 then { y with place := { y.place with name := x.name }, name := x.place.name } else y
  let y := if iEq x.kind 4 then { y with place := { y.place with group := noS }, name := x.place.group } else y
  let y := if iEq x.kind 5 then { y with place := { y.place with group := x.name }, name := noS } else y
  if iEq x.kind 8 then { y with name := x.other, other := x.name } else y
def inverse2 (x : SLens) : SLens × Int := if lensOk x then (turn2 x, 0) else (noLens, 5)

theorem f23 (x : SLens) (hx : fitLens x) : PCall Try.prog 23 [encLens x] (encInv (inverse2 x)) [] := by
  refine gcode hT hM Try.func23 rfl rfl (rv := [(2, some 33), (3, none)]) rfl rfl rfl fun G hG => ?_
  conv => whnf
  refine CallK.lent (f56 x hx) rfl ?_
  conv => whnf
  refine ⟨fun h => ?_, fun h => ?_⟩
  · conv => whnf
    exact ⟨[], _, _, _, rfl, rfl, rfl, RepLe.as encInv (a := (noLens, 5)) (by simp_all [inverse2]) (RepLe.tup2 (PLe.rep (PLe.agg (by repeat' (first | refine PLes.cons ?_ ?_ | exact PLe.refl _ | exact PLe.nil | exact PLes.end)))) (RepLe.refl _)), trivial⟩
  conv => whnf
  have h : lensOk x = true := by simpa using h
  have hi : inverse2 x = (turn2 x, 0) := by simp [inverse2, h]
  clear h
  refine CallK.lent (f68 _) rfl ?_
  conv => whnf
  refine ⟨rfl, ?_⟩
  conv => whnf
  refine ⟨fun a1 => ?_, fun a1 => ?_⟩
  · have a4 := iEq_ne 4 a1 (by decide)
    have a5 := iEq_ne 5 a1 (by decide)
    have a8 := iEq_ne 8 a1 (by decide)
    conv => whnf
    refine ⟨fun h => Bool.noConfusion (a4.symm.trans h), fun _ => ?_⟩
    conv => whnf
    refine ⟨fun h => Bool.noConfusion (a5.symm.trans h), fun _ => ?_⟩
    conv => whnf
    refine ⟨fun h => Bool.noConfusion (a8.symm.trans h), fun _ => ?_⟩
    conv => whnf
    exact ⟨[], _, _, _, rfl, rfl, rfl, RepLe.as encInv (a := ({ x with kind := otherOf x.kind, forth := x.back, back := x.forth, place := { x.place with name := x.name }, name := x.place.name }, 0)) (by simp_all [turn2]) (RepLe.tup2 (PLe.rep (PLe.agg (by repeat' (first | refine PLes.cons ?_ ?_ | exact PLe.refl _ | exact PLe.nil | exact PLes.end)))) (RepLe.refl _)), trivial⟩
  conv => whnf
  refine ⟨fun a4 => ?_, fun a4 => ?_⟩
  · have a5 := iEq_ne 5 a4 (by decide)
    have a8 := iEq_ne 8 a4 (by decide)
    conv => whnf
    refine ⟨fun h => Bool.noConfusion (a5.symm.trans h), fun _ => ?_⟩
    conv => whnf
    refine ⟨fun h => Bool.noConfusion (a8.symm.trans h), fun _ => ?_⟩
    conv => whnf
    exact ⟨[], _, _, _, rfl, rfl, rfl, RepLe.as encInv (a := ({ x with kind := otherOf x.kind, forth := x.back, back := x.forth, place := { x.place with group := noS }, name := x.place.group }, 0)) (by simp_all [turn2]) (RepLe.tup2 (PLe.rep (PLe.agg (by repeat' (first | refine PLes.cons ?_ ?_ | exact PLe.refl _ | exact PLe.nil | exact PLes.end)))) (RepLe.refl _)), trivial⟩
  conv => whnf
  refine ⟨fun a5 => ?_, fun a5 => ?_⟩
  · have a8 := iEq_ne 8 a5 (by decide)
    conv => whnf
    refine ⟨fun h => Bool.noConfusion (a8.symm.trans h), fun _ => ?_⟩
    conv => whnf
    exact ⟨[], _, _, _, rfl, rfl, rfl, RepLe.as encInv (a := ({ x with kind := otherOf x.kind, forth := x.back, back := x.forth, place := { x.place with group := x.name }, name := noS }, 0)) (by simp_all [turn2]) (RepLe.tup2 (PLe.rep (PLe.agg (by repeat' (first | refine PLes.cons ?_ ?_ | exact PLe.refl _ | exact PLe.nil | exact PLes.end)))) (RepLe.refl _)), trivial⟩
  conv => whnf
  refine ⟨fun a8 => ?_, fun a8 => ?_⟩
  · conv => whnf
    exact ⟨[], _, _, _, rfl, rfl, rfl, RepLe.as encInv (a := ({ x with kind := otherOf x.kind, forth := x.back, back := x.forth, name := x.other, other := x.name }, 0)) (by simp_all [turn2]) (RepLe.tup2 (PLe.rep (PLe.agg (by repeat' (first | refine PLes.cons ?_ ?_ | exact PLe.refl _ | exact PLe.nil | exact PLes.end)))) (RepLe.refl _)), trivial⟩
  conv => whnf
  exact ⟨[], _, _, _, rfl, rfl, rfl, RepLe.as encInv (a := ({ x with kind := otherOf x.kind, forth := x.back, back := x.forth }, 0)) (by simp_all [turn2]) (RepLe.tup2 (PLe.rep (PLe.agg (by repeat' (first | refine PLes.cons ?_ ?_ | exact PLe.refl _ | exact PLe.nil | exact PLes.end)))) (RepLe.refl _)), trivial⟩

theorem samePairs_empty {l : List SPair} (h : samePairs l [] = true) : l = [] := by
  rw [samePairs_nil] at h
  cases l with
  | nil => rfl
  | cons a l => simp [iLt_d] at h
theorem no_tables {x : SLens} (h : lensOk x = true) (h8 : iEq x.kind 8 = false) : x.forth = [] ∧ x.back = [] := by
  simp only [lensOk, sameLens, Bool.and_eq_true] at h
  obtain ⟨_, _, ⟨_, _, _, _, _, _, hf, hb⟩, _⟩ := h
  have p : (partsOf x).forth = [] ∧ (partsOf x).back = [] := by
    unfold partsOf
    split
    · exact ⟨rfl, rfl⟩
    split
    · exact ⟨rfl, rfl⟩
    split
    · exact ⟨rfl, rfl⟩
    split
    · exact ⟨rfl, rfl⟩
    rw [if_neg (by rw [h8]; simp)]
    exact ⟨rfl, rfl⟩
  rw [p.1] at hf
  rw [p.2] at hb
  exact ⟨samePairs_empty hf, samePairs_empty hb⟩
theorem kind_range {x : SLens} (h : lensOk x = true) : x.kind = 1 ∨ x.kind = 2 ∨ x.kind = 3 ∨ x.kind = 4 ∨ x.kind = 5 ∨ x.kind = 6 ∨ x.kind = 7 ∨ x.kind = 8 ∨ x.kind = 9 ∨ x.kind = 10 := by
  simp only [lensOk, Bool.and_eq_true, iLe_t] at h
  omega
theorem turn_ref (x : SLens) (h : lensOk x = true) : turn2 x = turnOf x := by
  have hk := kind_range h
  have hn := fun h8 => no_tables h h8
  clear h
  rcases hk with hk | hk | hk | hk | hk | hk | hk | hk | hk | hk
  all_goals
    first | (have e1 : iEq x.kind 1 = true := by rw [iEq_t]; omega) | (have e1 : iEq x.kind 1 = false := by rw [iEq_f]; omega)
    first | (have e2 : iEq x.kind 2 = true := by rw [iEq_t]; omega) | (have e2 : iEq x.kind 2 = false := by rw [iEq_f]; omega)
    first | (have e3 : iEq x.kind 3 = true := by rw [iEq_t]; omega) | (have e3 : iEq x.kind 3 = false := by rw [iEq_f]; omega)
    first | (have e4 : iEq x.kind 4 = true := by rw [iEq_t]; omega) | (have e4 : iEq x.kind 4 = false := by rw [iEq_f]; omega)
    first | (have e5 : iEq x.kind 5 = true := by rw [iEq_t]; omega) | (have e5 : iEq x.kind 5 = false := by rw [iEq_f]; omega)
    first | (have e6 : iEq x.kind 6 = true := by rw [iEq_t]; omega) | (have e6 : iEq x.kind 6 = false := by rw [iEq_f]; omega)
    first | (have e7 : iEq x.kind 7 = true := by rw [iEq_t]; omega) | (have e7 : iEq x.kind 7 = false := by rw [iEq_f]; omega)
    first | (have e8 : iEq x.kind 8 = true := by rw [iEq_t]; omega) | (have e8 : iEq x.kind 8 = false := by rw [iEq_f]; omega)
    first | (have e9 : iEq x.kind 9 = true := by rw [iEq_t]; omega) | (have e9 : iEq x.kind 9 = false := by rw [iEq_f]; omega)
    first | (have e10 : iEq x.kind 10 = true := by rw [iEq_t]; omega) | (have e10 : iEq x.kind 10 = false := by rw [iEq_f]; omega)
    simp only [turn2, turnOf, otherOf, e1, e2, e3, e4, e5, e6, e7, e8, e9, e10, Bool.or_true, Bool.or_false, Bool.true_or, Bool.false_or, if_true, if_false, Bool.false_eq_true, ↓reduceIte]
    first
      | done
      | (rw [(hn e8).1, (hn e8).2, hk]; done)
      | (rw [(hn e8).1, (hn e8).2, hk]; rfl)
      | (rw [(hn e8).1, (hn e8).2]; done)
      | (rw [(hn e8).1, (hn e8).2]; rfl)
      | (rw [hk]; done)
      | rfl
theorem inverse_ref (x : SLens) : inverse2 x = inverse x := by
  unfold inverse2 inverse
  split
  · rename_i h; rw [turn_ref x h]
  · rfl
end Go.Proofs.Ytoophkcicdbnfaa
