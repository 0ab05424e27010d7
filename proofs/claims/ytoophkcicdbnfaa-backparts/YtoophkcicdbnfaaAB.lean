/- SchemaFinds: the law itself. -/
import Derived.Test.YtoophkcicdbnfaaAA
set_option linter.unusedVariables false
set_option linter.unusedSimpArgs false
namespace Go.Proofs.Ytoophkcicdbnfaa
open Go Go.Av
set_option maxRecDepth 100000
set_option maxHeartbeats 2000000

theorem bEq_self (a : Bool) : bEq a a = true := by unfold bEq; simp
theorem sameFields_self (l : List SField) : sameFields l l = true := by
  unfold sameFields
  rw [Bool.and_eq_true, allUpto_iff]
  exact ⟨by simp, fun j _ _ => sameField_self _⟩
theorem noField_ok : okField noField := Nat.zero_le _
theorem scope_ok {l : List SField} (h : okFields l) (s : Int) : okFields (scopeOf l s) :=
  ⟨Nat.le_trans (List.length_filter_le _ _) h.1, fun x hx => h.2 x (List.mem_filter.1 hx).1⟩

theorem six (a : Int) (h : (!iEq (6 : Int) 6) = true) : False := by rw [iEq_t.2 rfl] at h; cases h
/-- Where the place isn't there. -/
theorem f6_none (l m : List SField) (r : SRef) (s : Int) (hl : fitFields l) (hm : okFields m) (hp : placeIn l r = none) : PCall Try.prog 6 [encFields l, encFields m, encRef r, .val (.int .i64 s)] (.p (.val (.bool true))) [] := by
  have c30 := f30 l r hl
  have c31 := f31 l r hl.ok
  rw [hp] at c30 c31
  have c30 : PCall Try.prog 30 [encFields l, encRef r] (encFind (noField, 6)) [] := c30
  have c31 : PCall Try.prog 31 [encFields l, encRef r] (.p (.val (.int .i64 (-1)))) [] := c31
  refine gcode hT hM Try.func6 rfl rfl (rv := [(8, none)]) rfl rfl rfl fun G hG => ?_
  conv => whnf
  refine CallK.lent (f15) rfl ?_
  conv => whnf
  refine ⟨fun h => ?_, fun h => ?_⟩
  · cases h
  conv => whnf
  refine CallK.lent (f26 l hl.ok) rfl ?_
  conv => whnf
  refine ⟨fun h1 => ?_, fun h1 => ?_⟩
  · conv => whnf
    exact ⟨[], _, _, _, rfl, rfl, rfl, RepLe.bl rfl, trivial⟩
  conv => whnf
  refine CallK.lent (f26 m hm) rfl ?_
  conv => whnf
  refine ⟨fun h2 => ?_, fun h2 => ?_⟩
  · conv => whnf
    exact ⟨[], _, _, _, rfl, rfl, rfl, RepLe.bl rfl, trivial⟩
  conv => whnf
  refine CallK.go [] (c30) rfl rfl rfl rfl rfl ?_
  conv => whnf
  refine CallK.lent (c31) rfl ?_
  conv => whnf
  refine ⟨fun a1 => ?_, fun a1 => ?_⟩
  · conv => whnf
    refine ⟨fun a2 => ?_, fun a2 => ?_⟩
    · exact (six 0 a2).elim
    conv => whnf
    refine CallK.lent (GCall.args (f32 noField noField noField_ok) ?hh) rfl ?_
    case hh => exact allLe2 (PLe.rep (PLe.agg (by repeat' (first | refine PLes.cons ?_ ?_ | exact PLe.refl _ | exact PLe.nil | exact PLes.end)))) (PLe.rep (PLe.agg (by repeat' (first | refine PLes.cons ?_ ?_ | exact PLe.refl _ | exact PLe.nil | exact PLes.end))))
    conv => whnf
    refine ⟨fun a3 => ?_, fun a3 => ?_⟩
    · rw [sameField_self] at a3; cases a3
    conv => whnf
    refine ⟨fun a4 => ?_, fun a4 => ?_⟩
    · rw [iLe_t] at a4; omega
    conv => whnf
    refine ⟨rfl, ?_⟩
    conv => whnf
    refine CallK.lent (f33 l hl.ok) rfl ?_
    conv => whnf
    refine CallK.lent (f34 l hl.ok) rfl ?_
    conv => whnf
    refine ⟨fun b1 => ?_, fun b1 => ?_⟩
    · conv => whnf
      refine CallK.lent (f17 l m hl.ok) rfl ?_
      conv => whnf
      refine CallK.lent (f18 l m hl.ok) rfl ?_
      conv => whnf
      refine ⟨fun b2 => ?_, fun b2 => ?_⟩
      · conv => whnf
        refine CallK.go [] (f27 l hl) rfl rfl rfl rfl rfl ?_
        conv => whnf
        refine CallK.lent (f17 l l hl.ok) rfl ?_
        conv => whnf
        refine ⟨fun b3 => ?_, fun b3 => ?_⟩
        · conv => whnf
          refine CallK.go [] (f28 l s hl) rfl rfl rfl rfl rfl ?_
          conv => whnf
          refine CallK.go [] (f35 l s hl) rfl rfl rfl rfl rfl ?_
          conv => whnf
          refine CallK.lent (f18 (scopeOf l s) (scopeOf l s) (scope_ok hl.ok s)) rfl ?_
          conv => whnf
          exact ⟨[], _, _, _, rfl, rfl, rfl, RepLe.vb (sameFields_self _), trivial⟩
        · rw [sameFields_self] at b3; cases b3
      · rw [bEq_self] at b2; cases b2
    · rw [bEq_self] at b1; cases b1
  · rw [iLt_f] at a1; omega
/-- Where it is. -/
theorem f6_some (l m : List SField) (r : SRef) (s : Int) (hl : fitFields l) (hm : okFields m) {j : Nat} (hp : placeIn l r = some j) : PCall Try.prog 6 [encFields l, encFields m, encRef r, .val (.int .i64 s)] (.p (.val (.bool true))) [] := by
  have c30 := f30 l r hl
  have c31 := f31 l r hl.ok
  rw [hp] at c30 c31
  have c30 : PCall Try.prog 30 [encFields l, encRef r] (encFind (l.getD j noField, 0)) [] := c30
  have c31 : PCall Try.prog 31 [encFields l, encRef r] (.p (.val (.int .i64 ((j : Nat) : Int)))) [] := c31
  have hj := (findUpto_some _ _ _ _ hp).2.1
  refine gcode hT hM Try.func6 rfl rfl (rv := [(8, none)]) rfl rfl rfl fun G hG => ?_
  conv => whnf
  refine CallK.lent (f15) rfl ?_
  conv => whnf
  refine ⟨fun h => ?_, fun h => ?_⟩
  · cases h
  conv => whnf
  refine CallK.lent (f26 l hl.ok) rfl ?_
  conv => whnf
  refine ⟨fun h1 => ?_, fun h1 => ?_⟩
  · conv => whnf
    exact ⟨[], _, _, _, rfl, rfl, rfl, RepLe.bl rfl, trivial⟩
  conv => whnf
  refine CallK.lent (f26 m hm) rfl ?_
  conv => whnf
  refine ⟨fun h2 => ?_, fun h2 => ?_⟩
  · conv => whnf
    exact ⟨[], _, _, _, rfl, rfl, rfl, RepLe.bl rfl, trivial⟩
  conv => whnf
  refine CallK.go [] (c30) rfl rfl rfl rfl rfl ?_
  conv => whnf
  refine CallK.lent (c31) rfl ?_
  conv => whnf
  refine ⟨fun a1 => ?_, fun a1 => ?_⟩
  · rw [iLt_t] at a1; omega
  conv => whnf
  refine ⟨fun a2 => ?_, fun a2 => ?_⟩
  · conv => whnf
    refine ⟨fun a3 => ?_, fun a3 => ?_⟩
    · rw [iEq_t.2 rfl] at a3; cases a3
    conv => whnf
    refine ⟨⟨Int.natCast_nonneg j, by omega⟩, ?_⟩
    conv => whnf
    refine CallK.lent (f32 (l.getD j noField) (l.getD j noField) (hl.ok.at j)) rfl ?_
    conv => whnf
    refine ⟨rfl, ?_⟩
    conv => whnf
    refine ⟨fun a4 => ?_, fun a4 => ?_⟩
    · rw [sameField_self] at a4; cases a4
    conv => whnf
    refine CallK.lent (f33 l hl.ok) rfl ?_
    conv => whnf
    refine CallK.lent (f34 l hl.ok) rfl ?_
    conv => whnf
    refine ⟨fun b1 => ?_, fun b1 => ?_⟩
    · conv => whnf
      refine CallK.lent (f17 l m hl.ok) rfl ?_
      conv => whnf
      refine CallK.lent (f18 l m hl.ok) rfl ?_
      conv => whnf
      refine ⟨fun b2 => ?_, fun b2 => ?_⟩
      · conv => whnf
        refine CallK.go [] (f27 l hl) rfl rfl rfl rfl rfl ?_
        conv => whnf
        refine CallK.lent (f17 l l hl.ok) rfl ?_
        conv => whnf
        refine ⟨fun b3 => ?_, fun b3 => ?_⟩
        · conv => whnf
          refine CallK.go [] (f28 l s hl) rfl rfl rfl rfl rfl ?_
          conv => whnf
          refine CallK.go [] (f35 l s hl) rfl rfl rfl rfl rfl ?_
          conv => whnf
          refine CallK.lent (f18 (scopeOf l s) (scopeOf l s) (scope_ok hl.ok s)) rfl ?_
          conv => whnf
          exact ⟨[], _, _, _, rfl, rfl, rfl, RepLe.vb (sameFields_self _), trivial⟩
        · rw [sameFields_self] at b3; cases b3
      · rw [bEq_self] at b2; cases b2
    · rw [bEq_self] at b1; cases b1
  · rw [iLe_f] at a2; omega
theorem f6 (l m : List SField) (r : SRef) (s : Int) (hl : fitFields l) (hm : okFields m) : PCall Try.prog 6 [encFields l, encFields m, encRef r, .val (.int .i64 s)] (.p (.val (.bool true))) [] := by
  cases hp : placeIn l r with
  | none => exact f6_none l m r s hl hm hp
  | some j => exact f6_some l m r s hl hm hp
end Go.Proofs.Ytoophkcicdbnfaa
