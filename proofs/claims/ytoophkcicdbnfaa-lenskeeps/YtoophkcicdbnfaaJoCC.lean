import Derived.Test.YtoophkcicdbnfaaJoAS
/- LensApplies and LensKeeps: the laws' functions. -/
set_option linter.unusedVariables false
set_option linter.unusedSimpArgs false
namespace Go.Proofs.Ytoophkcicdbnfaa
open Go Go.Av
set_option maxRecDepth 100000
set_option maxHeartbeats 4000000

theorem f9 (l : List SField) (x : SLens) (hl : fitFields l) (hx : fitLens x) : PCall Try.prog 9 [encFields l, encLens x] (.p (.val (.bool true))) [] := by
  have hm := apply_fit hl hx
  refine gcode hT hM Try.func9 rfl rfl (rv := [(4, none)]) rfl rfl rfl fun G hG => ?_
  conv => whnf
  refine CallK.lent (f48) rfl ?_
  conv => whnf
  refine ⟨fun h => ?_, fun h => ?_⟩
  · cases h
  conv => whnf
  refine CallK.lent (f26 l hl.ok) rfl ?_
  conv => whnf
  refine ⟨fun h1 => ?_, fun h1 => ?_⟩
  · conv => whnf
    exact ⟨[], _, _, _, rfl, rfl, rfl, RepLe.bl rfl, trivial⟩
  conv => whnf
  refine CallK.lent (f21 x hx.ok) rfl ?_
  conv => whnf
  refine ⟨fun h2 => ?_, fun h2 => ?_⟩
  · conv => whnf
    exact ⟨[], _, _, _, rfl, rfl, rfl, RepLe.bl rfl, trivial⟩
  conv => whnf
  refine CallK.go [] (f27 l hl) rfl rfl rfl rfl rfl ?_
  conv => whnf
  refine CallK.go [] (f49 l x hl hx) rfl rfl rfl rfl rfl ?_
  conv => whnf
  refine CallK.go [] (f50 l x hl hx) rfl rfl rfl rfl rfl ?_
  conv => whnf
  refine ⟨fun g1 => ?_, fun g1 => ?_⟩
  · conv => whnf
    refine CallK.lent (f18 (applyF l x).1 (applyF l x).1 hm.ok) rfl ?_
    conv => whnf
    refine ⟨fun g2 => ?_, fun g2 => ?_⟩
    · conv => whnf
      refine CallK.lent (f18 l l hl.ok) rfl ?_
      conv => whnf
      exact ⟨[], _, _, _, rfl, rfl, rfl, RepLe.vb (sameFields_self _), trivial⟩
    · rw [sameFields_self] at g2; cases g2
  · rw [iEq_same] at g1; cases g1

theorem f10 (l : List SField) (x : SLens) (r : SRef) (hl : fitFields l) (hx : fitLens x) : PCall Try.prog 10 [encFields l, encLens x, encRef r] (.p (.val (.bool true))) [] := by
  have hm := apply_fit hl hx
  have hmlen := hm.1
  have hllen := hl.1
  refine gcode hT hM Try.func10 rfl rfl (rv := [(6, none)]) rfl rfl rfl fun G hG => ?_
  conv => whnf
  refine CallK.lent (f48) rfl ?_
  conv => whnf
  refine ⟨fun h => ?_, fun h => ?_⟩
  · cases h
  conv => whnf
  refine CallK.lent (f26 l hl.ok) rfl ?_
  conv => whnf
  refine ⟨fun h1 => ?_, fun h1 => ?_⟩
  · conv => whnf
    exact ⟨[], _, _, _, rfl, rfl, rfl, RepLe.bl rfl, trivial⟩
  conv => whnf
  refine CallK.lent (f21 x hx.ok) rfl ?_
  conv => whnf
  refine ⟨fun h2 => ?_, fun h2 => ?_⟩
  · conv => whnf
    exact ⟨[], _, _, _, rfl, rfl, rfl, RepLe.bl rfl, trivial⟩
  conv => whnf
  refine CallK.go [] (f49 l x hl hx) rfl rfl rfl rfl rfl ?_
  conv => whnf
  refine ⟨fun b1 => ?_, fun b1 => ?_⟩
  · have hz : (applyF l x).2 ≠ 0 := by
      have b1 : iEq (applyF l x).2 0 = false := by simpa using b1
      rw [iEq_f] at b1; exact b1
    conv => whnf
    exact ⟨[], _, _, _, rfl, rfl, rfl, RepLe.vb (by rw [apply_bad hz, iEq_t]; rfl), trivial⟩
  have hz : (applyF l x).2 = 0 := by
    have b1 : iEq (applyF l x).2 0 = true := by simpa using b1
    rw [iEq_t] at b1; exact b1
  obtain ⟨k1, k2⟩ := apply_ok hz
  have k3 := apply_right hz
  obtain ⟨p1, p2, p3⟩ := apply_keeps hz
  have hgl : (goesOf x).length ≤ 2 := by rw [goes_len k1]; cases iEq x.kind 2 <;> cases iEq x.kind 3 <;> cases iEq x.kind 9 <;> decide
  have hcl : (comesOf x).length ≤ 2 := by
    cases h3 : iEq x.kind 3 with
    | true => rw [comes_nil h3]; exact Nat.zero_le _
    | false => refine Nat.le_trans (comes_len k1 h3) ?_; cases iEq x.kind 6 <;> decide
  clear b1
  conv => whnf
  refine CallK.lent (f33 (applyF l x).1 hm.ok) rfl ?_
  conv => whnf
  refine ⟨fun c1 => ?_, fun c1 => ?_⟩
  · have c1 : rightFields (applyF l x).1 = false := by simpa using c1
    rw [k3] at c1; cases c1
  clear c1
  conv => whnf
  refine CallK.lent (f34 l hl.ok) rfl ?_
  conv => whnf
  refine ⟨fun c1 => ?_, fun c1 => ?_⟩
  · have c1 : rightFields l = false := by simpa using c1
    rw [k2] at c1; cases c1
  clear c1
  conv => whnf
  refine CallK.go [] (f51 x hx.ok) rfl rfl rfl rfl rfl ?_
  conv => whnf
  refine CallK.go [] (f52 x hx.ok) rfl rfl rfl rfl rfl ?_
  conv => whnf
  refine ⟨rfl, ?_⟩
  conv => whnf
  intro y hy
  have hy := wrap64_eq hy (by omega) (by omega)
  subst hy
  conv => whnf
  intro y hy
  have hy := wrap64_eq hy (by omega) (by omega)
  subst hy
  conv => whnf
  refine ⟨fun c1 => ?_, fun c1 => ?_⟩
  · have c1 : iEq ((applyF l x).1.length : Int) ((l.length : Int) - ((goesOf x).length : Int) + ((comesOf x).length : Int)) = false := by simpa using c1
    rw [iEq_f] at c1
    exact absurd (by omega) c1
  clear c1
  conv => whnf
  refine AW.loop (X := Nat) (fun i => told 99 [(0, .p (encFields l)), (5, .pt 8 0), (7, .p (encFields (applyF l x).1)), (9, .p (encRefs (goesOf x))), (10, .p (encRefs (comesOf x))), (11, vI .i64 (i : Int))] [(8, some (.box 27 ((refCells r).map .p)))] [8]) (fun i => i ≤ (comesOf x).length ∧ True) (fun i => (comesOf x).length - i) (used0 hG _) 0 ⟨by omega, trivial⟩ (stle ⟨RepLe.refl _, RepLe.refl _, RepLe.refl _, RepLe.refl _, RepLe.refl _, RepLe.refl _, trivial⟩ ⟨⟨_, rfl, BlkLe.refl _⟩, trivial⟩ rfl) ?_
  rintro i ⟨hi, hr⟩
  refine codeK_aw hT hM _ _ _ ?_
  conv => whnf
  refine ⟨fun h4 => ?_, fun h4 => ?_⟩
  · have hlt : i < (comesOf x).length := by rw [iLt_t] at h4; omega
    obtain ⟨j, hj⟩ := p2 ((comesOf x).getD i noRef) (by rw [List.getD_eq_getElem?_getD, List.getElem?_eq_getElem hlt]; exact List.getElem_mem hlt)
    have c31 := f31 (applyF l x).1 ((comesOf x).getD i noRef) hm.ok
    rw [hj] at c31
    conv => whnf
    refine ⟨by omega, ?_⟩
    conv => whnf
    refine CallK.go [] (c31) rfl rfl rfl rfl rfl ?_
    conv => whnf
    refine ⟨fun c1 => ?_, fun c1 => ?_⟩
    · rw [iLt_t] at c1
      exact absurd c1 (by show ¬ ((j : Nat) : Int) < 0; omega)
    clear c1
    conv => whnf
    intro z hz
    have hy := wrap64_eq hz (by omega) (by omega)
    clear hz
    subst hy
    conv => whnf
    exact ⟨i + 1, ⟨by omega, trivial⟩, by omega, stle ⟨RepLe.refl _, RepLe.refl _, RepLe.refl _, RepLe.refl _, RepLe.refl _, RepLe.of rfl, trivial⟩ ⟨⟨_, rfl, BlkLe.refl _⟩, trivial⟩ rfl⟩
  conv => whnf
  refine CallK.go [] (f53 (goesOf x) r (Nat.le_trans hgl (by decide))) rfl rfl rfl rfl rfl ?_
  conv => whnf
  refine ⟨fun c1 => ?_, fun c1 => ?_⟩
  · conv => whnf
    exact ⟨[], _, _, _, rfl, rfl, rfl, RepLe.bl rfl, trivial⟩
  have n1 : r ∉ goesOf x := fun h => by rw [hasRef_iff.2 h] at c1; cases c1
  conv => whnf
  refine CallK.go [] (f53 (comesOf x) r (Nat.le_trans hcl (by decide))) rfl rfl rfl rfl rfl ?_
  conv => whnf
  refine ⟨fun c2 => ?_, fun c2 => ?_⟩
  · conv => whnf
    exact ⟨[], _, _, _, rfl, rfl, rfl, RepLe.bl rfl, trivial⟩
  have n2 : r ∉ comesOf x := fun h => by rw [hasRef_iff.2 h] at c2; cases c2
  have e := p3 r n1 n2
  have c30 := f30 (applyF l x).1 r hm
  rw [e] at c30
  conv => whnf
  refine CallK.go [] (f30 l r hl) rfl rfl rfl rfl rfl ?_
  conv => whnf
  refine CallK.go [] (c30) rfl rfl rfl rfl rfl ?_
  conv => whnf
  have hfo : okField (fieldAt l (placeIn l r)).1 := by
    cases placeIn l r with
    | none => exact Nat.zero_le _
    | some j => exact hl.ok.at j
  refine ⟨fun c3 => ?_, fun c3 => ?_⟩
  · conv => whnf
    refine CallK.lent (f32 (fieldAt l (placeIn l r)).1 (fieldAt l (placeIn l r)).1 hfo) rfl ?_
    conv => whnf
    exact ⟨[], _, _, _, rfl, rfl, rfl, RepLe.vb (sameField_self _), trivial⟩
  · rw [iEq_same] at c3; cases c3
end Go.Proofs.Ytoophkcicdbnfaa
