import Derived.Test.YtoophkcicdbnfaaJoCG
import Derived.Test.YtoophkcicdbnfaaJoCA
import Derived.Test.YtoophkcicdbnfaaJoAH
/- LensRight: the law's function. -/
set_option linter.unusedVariables false
set_option linter.unusedSimpArgs false
namespace Go.Proofs.Ytoophkcicdbnfaa
open Go Go.Av
set_option maxRecDepth 100000
set_option maxHeartbeats 4000000

theorem sameRefs_self (l : List SRef) : sameRefs l l = true := by
  unfold sameRefs
  rw [Bool.and_eq_true, allUpto_iff]
  exact ⟨by simp, fun j _ _ => sameRef_self _⟩
theorem light_forth {x : SLens} (h : heavyLens x = false) {i : Nat} (hi : i < x.forth.length) : (x.forth.getD i noPair).frm.size ≤ 200 := by
  have h : heavyPairs x.forth = false := by
    unfold heavyLens at h
    simp only [Bool.or_eq_false_iff] at h
    exact h.2.2.2.2.2.1
  unfold heavyPairs at h
  rw [Bool.or_eq_false_iff] at h
  have h := h.2
  rw [Bool.not_eq_false', allUpto_iff] at h
  have h := h i (Nat.zero_le _) (by omega)
  have h : (!bigPair (x.forth.getD i noPair)) = true := h
  rw [Bool.not_eq_true'] at h
  unfold bigPair bigS at h
  rw [Bool.or_eq_false_iff, iLt_f] at h
  have := h.1
  omega
def lr0 (x : SLens) : St := told 96 [(2, .pt 0 0), (6, .pt 40976 0), (7, vI .i64 0)] [(0, some (.box 33 ((lensCells x).map .p))), (40976, some (.box 33 ((lensCells x).map .p)))] [0, 40976]
def lr1 (x : SLens) (p : Nat × (Nat → Nat → PV)) : St :=
  told 96 [(2, .pt 0 0), (6, .pt 40976 0), (7, vI .i64 (p.1 : Int))] [(0, some (.box 33 ((lensCells x).map .p))), (40976, some (.box 33 (ownCells 40968 x))), (40968, some (.row 77 2 x.forth.length p.2))] [0, 40968, 40976]

theorem f12 (x y : SLens) (hx : fitLens x) (hy : fitLens y) : PCall Try.prog 12 [encLens x, encLens y] (.p (.val (.bool true))) [] := by
  have hfl := hx.2.1
  have hself : sameLens x x = true := by simp [sameLens, sameRef_self, iEq_self, sEq_self, sameField_self, samePairs_self]
  refine gcode hT hM Try.func12 rfl rfl (rv := [(4, none)]) rfl rfl rfl fun G hG => ?_
  conv => whnf
  refine CallK.lent (f48) rfl ?_
  conv => whnf
  refine ⟨fun h => ?_, fun h => ?_⟩
  · cases h
  conv => whnf
  refine CallK.lent (f21 x hx.ok) rfl ?_
  conv => whnf
  refine ⟨fun h1 => ?_, fun h1 => ?_⟩
  · conv => whnf
    exact ⟨[], _, _, _, rfl, rfl, rfl, RepLe.bl rfl, trivial⟩
  conv => whnf
  refine CallK.lent (f21 y hy.ok) rfl ?_
  conv => whnf
  refine ⟨fun h2 => ?_, fun h2 => ?_⟩
  · conv => whnf
    exact ⟨[], _, _, _, rfl, rfl, rfl, RepLe.bl rfl, trivial⟩
  conv => whnf
  refine CallK.lent (f56 x hx) rfl ?_
  conv => whnf
  refine CallK.lent (f25 x hx.ok) rfl ?_
  conv => whnf
  refine ⟨fun a1 => ?_, fun a1 => ?_⟩
  · rw [bEq_self] at a1; cases a1
  conv => whnf
  refine CallK.lent (f57 x y hx.ok) rfl ?_
  conv => whnf
  refine CallK.lent (f24 x y hx.ok) rfl ?_
  conv => whnf
  refine ⟨rfl, ?_⟩
  conv => whnf
  refine ⟨fun a2 => ?_, fun a2 => ?_⟩
  · rw [bEq_self] at a2; cases a2
  clear a1 a2
  conv => whnf
  refine ⟨fun b1 => ?_, fun b1 => ?_⟩
  · have h3 : lensOk x = false := nott b1
    have g1 : goesOf x = [] := by unfold goesOf; rw [h3]; rfl
    have g2 : comesOf x = [] := by unfold comesOf; rw [h3]; rfl
    have c51 := f51 x hx.ok
    have c52 := f52 x hx.ok
    rw [g1] at c51
    rw [g2] at c52
    conv => whnf
    refine CallK.go [] (c51) rfl rfl rfl rfl rfl ?_
    conv => whnf
    refine CallK.go [] (c52) rfl rfl rfl rfl rfl ?_
    conv => whnf
    intro z hz
    have hz := wrap64_eq hz (by decide) (by decide)
    subst hz
    conv => whnf
    refine ⟨fun b2 => ?_, fun b2 => ?_⟩
    · exact absurd (iLt_t.1 b2) (by decide)
    conv => whnf
    refine ⟨fun h => Bool.noConfusion (h3.symm.trans h), fun _ => ?_⟩
    conv => whnf
    refine ⟨rfl, ?_⟩
    conv => whnf
    rcases Nat.eq_zero_or_pos x.forth.length with h0 | h0
    · refine CallK.go [] (f61 x hx) rfl rfl rfl rfl rfl ?_
      conv => whnf
      refine CallK.lent (f24 x x hx.ok) rfl ?_
      conv => whnf
      refine ⟨fun e2 => ?_, fun e2 => ?_⟩
      · rw [hself] at e2; cases e2
      clear e2
      conv => whnf
      refine AW.loop (X := Unit) (fun _ => lr0 x) (fun _ => True) (fun _ => 0) (used0 hG _) () trivial (show StLe _ (lr0 x) from stle ⟨RepLe.refl _, RepLe.refl _, RepLe.refl _, trivial⟩ ⟨⟨_, rfl, BlkLe.refl _⟩, ⟨_, rfl, BlkLe.refl _⟩, trivial⟩ rfl) ?_
      rintro ⟨⟩ _
      refine codeK_aw hT hM _ _ _ ?_
      conv => whnf
      refine ⟨fun h4 => ?_, fun h4 => ?_⟩
      · rw [iLt_t] at h4; omega
      conv => whnf
      exact ⟨[], _, _, _, rfl, rfl, rfl, RepLe.bl rfl, trivial⟩
    refine CallK.go [] (f61o x hx h0) rfl rfl rfl rfl rfl ?_
    conv => whnf
    refine .inr ?_
    conv => whnf
    refine CallK.lent (f24 x x hx.ok) rfl ?_
    conv => whnf
    refine ⟨fun e2 => ?_, fun e2 => ?_⟩
    · rw [hself] at e2; cases e2
    clear e2
    conv => whnf
    refine AW.loop (X := Nat × (Nat → Nat → PV)) (lr1 x) (fun p => p.1 ≤ x.forth.length) (fun p => x.forth.length - p.1) (used0 hG _) (0, fun i => at_ .any (pairCells (x.forth.getD i noPair))) (Nat.zero_le _) (show StLe _ (lr1 x (0, fun i => at_ .any (pairCells (x.forth.getD i noPair)))) from stle ⟨RepLe.refl _, RepLe.refl _, RepLe.refl _, trivial⟩ ⟨⟨_, rfl, BlkLe.refl _⟩, ⟨_, rfl, BlkLe.refl _⟩, ⟨_, rfl, BlkLe.refl _⟩, trivial⟩ rfl) ?_
    rintro ⟨i, f⟩ hi
    have hi : i ≤ x.forth.length := hi
    refine codeK_aw hT hM _ _ _ ?_
    conv => whnf
    refine ⟨fun h4 => ?_, fun h4 => ?_⟩
    · have hlt : i < x.forth.length := by rw [iLt_t] at h4; omega
      have hlight := light_forth h1 hlt
      conv => whnf
      refine ⟨⟨Int.natCast_nonneg _, Int.ofNat_lt.2 hlt⟩, ?_⟩
      conv => whnf
      refine ⟨(show (((x.forth.getD i noPair).frm.size + 1 : Nat) : Int) ≤ 9223372036854775807 by omega), ?_⟩
      conv => whnf
      refine ⟨⟨Int.natCast_nonneg _, Int.ofNat_lt.2 hlt⟩, ?_⟩
      conv => whnf
      refine ⟨(show i < x.forth.length from hlt), ?_⟩
      conv => whnf
      refine ⟨⟨Int.natCast_nonneg _, Int.ofNat_lt.2 hlt⟩, ?_⟩
      conv => whnf
      refine ⟨rfl, ?_⟩
      conv => whnf
      refine ⟨fun e3 => ?_, fun e3 => ?_⟩
      · rw [sEq_self, sEq_self] at e3; cases e3
      clear e3
      conv => whnf
      intro z hz
      have hy := wrap64_eq hz (by omega) (by omega)
      clear hz
      subst hy
      conv => whnf
      exact ⟨(i + 1, _), (show i + 1 ≤ _ from hlt), (show x.forth.length - (i + 1) < x.forth.length - i by omega), (show StLe _ (lr1 x (i + 1, _)) from stle ⟨RepLe.refl _, RepLe.refl _, RepLe.of rfl, trivial⟩ ⟨⟨_, rfl, BlkLe.refl _⟩, ⟨_, rfl, BlkLe.refl _⟩, ⟨_, rfl, BlkLe.refl _⟩, trivial⟩ rfl)⟩
    conv => whnf
    exact ⟨[], _, _, _, rfl, rfl, rfl, RepLe.bl rfl, trivial⟩
  have h3 : lensOk x = true := notf b1
  have c59 := f59 x
  rw [goes2_eq h3] at c59
  have c60 := f60 x
  rw [comes2_eq h3] at c60
  have hgl : (goesOf x).length ≤ 2 := by rw [goes_len h3]; cases iEq x.kind 2 <;> cases iEq x.kind 3 <;> cases iEq x.kind 9 <;> decide
  have hcl : (comesOf x).length ≤ 2 := by
    cases h4 : iEq x.kind 3 with
    | true => rw [comes_nil h4]; exact Nat.zero_le _
    | false => refine Nat.le_trans (comes_len h3 h4) ?_; cases iEq x.kind 6 <;> decide
  have c58 := f58 (goesOf x) (goesOf x) (Nat.le_trans hgl (by decide))
  rw [sameRefs_self] at c58
  have c58b := f58 (comesOf x) (comesOf x) (Nat.le_trans hcl (by decide))
  rw [sameRefs_self] at c58b
  conv => whnf
  refine ⟨fun _ => ?_, fun h => Bool.noConfusion (h3.symm.trans h)⟩
  conv => whnf
  refine CallK.go [] (f51 x hx.ok) rfl rfl rfl rfl rfl ?_
  conv => whnf
  refine CallK.go [] (c59) rfl rfl rfl rfl rfl ?_
  conv => whnf
  refine CallK.lent (c58) rfl ?_
  conv => whnf
  refine ⟨fun e1 => ?_, fun e1 => ?_⟩
  · cases e1
  conv => whnf
  refine CallK.go [] (f52 x hx.ok) rfl rfl rfl rfl rfl ?_
  conv => whnf
  refine CallK.go [] (c60) rfl rfl rfl rfl rfl ?_
  conv => whnf
  refine CallK.lent (c58b) rfl ?_
  conv => whnf
  refine ⟨rfl, ?_⟩
  conv => whnf
  refine ⟨fun e1 => ?_, fun e1 => ?_⟩
  · cases e1
  conv => whnf
  rcases Nat.eq_zero_or_pos x.forth.length with h0 | h0
  · refine CallK.go [] (f61 x hx) rfl rfl rfl rfl rfl ?_
    conv => whnf
    refine CallK.lent (f24 x x hx.ok) rfl ?_
    conv => whnf
    refine ⟨fun e2 => ?_, fun e2 => ?_⟩
    · rw [hself] at e2; cases e2
    clear e2
    conv => whnf
    refine AW.loop (X := Unit) (fun _ => lr0 x) (fun _ => True) (fun _ => 0) (used0 hG _) () trivial (show StLe _ (lr0 x) from stle ⟨RepLe.refl _, RepLe.refl _, RepLe.refl _, trivial⟩ ⟨⟨_, rfl, BlkLe.refl _⟩, ⟨_, rfl, BlkLe.refl _⟩, trivial⟩ rfl) ?_
    rintro ⟨⟩ _
    refine codeK_aw hT hM _ _ _ ?_
    conv => whnf
    refine ⟨fun h4 => ?_, fun h4 => ?_⟩
    · rw [iLt_t] at h4; omega
    conv => whnf
    exact ⟨[], _, _, _, rfl, rfl, rfl, RepLe.bl rfl, trivial⟩
  refine CallK.go [] (f61o x hx h0) rfl rfl rfl rfl rfl ?_
  conv => whnf
  refine .inr ?_
  conv => whnf
  refine CallK.lent (f24 x x hx.ok) rfl ?_
  conv => whnf
  refine ⟨fun e2 => ?_, fun e2 => ?_⟩
  · rw [hself] at e2; cases e2
  clear e2
  conv => whnf
  refine AW.loop (X := Nat × (Nat → Nat → PV)) (lr1 x) (fun p => p.1 ≤ x.forth.length) (fun p => x.forth.length - p.1) (used0 hG _) (0, fun i => at_ .any (pairCells (x.forth.getD i noPair))) (Nat.zero_le _) (show StLe _ (lr1 x (0, fun i => at_ .any (pairCells (x.forth.getD i noPair)))) from stle ⟨RepLe.refl _, RepLe.refl _, RepLe.refl _, trivial⟩ ⟨⟨_, rfl, BlkLe.refl _⟩, ⟨_, rfl, BlkLe.refl _⟩, ⟨_, rfl, BlkLe.refl _⟩, trivial⟩ rfl) ?_
  rintro ⟨i, f⟩ hi
  have hi : i ≤ x.forth.length := hi
  refine codeK_aw hT hM _ _ _ ?_
  conv => whnf
  refine ⟨fun h4 => ?_, fun h4 => ?_⟩
  · have hlt : i < x.forth.length := by rw [iLt_t] at h4; omega
    have hlight := light_forth h1 hlt
    conv => whnf
    refine ⟨⟨Int.natCast_nonneg _, Int.ofNat_lt.2 hlt⟩, ?_⟩
    conv => whnf
    refine ⟨(show (((x.forth.getD i noPair).frm.size + 1 : Nat) : Int) ≤ 9223372036854775807 by omega), ?_⟩
    conv => whnf
    refine ⟨⟨Int.natCast_nonneg _, Int.ofNat_lt.2 hlt⟩, ?_⟩
    conv => whnf
    refine ⟨(show i < x.forth.length from hlt), ?_⟩
    conv => whnf
    refine ⟨⟨Int.natCast_nonneg _, Int.ofNat_lt.2 hlt⟩, ?_⟩
    conv => whnf
    refine ⟨rfl, ?_⟩
    conv => whnf
    refine ⟨fun e3 => ?_, fun e3 => ?_⟩
    · rw [sEq_self, sEq_self] at e3; cases e3
    clear e3
    conv => whnf
    intro z hz
    have hy := wrap64_eq hz (by omega) (by omega)
    clear hz
    subst hy
    conv => whnf
    exact ⟨(i + 1, _), (show i + 1 ≤ _ from hlt), (show x.forth.length - (i + 1) < x.forth.length - i by omega), (show StLe _ (lr1 x (i + 1, _)) from stle ⟨RepLe.refl _, RepLe.refl _, RepLe.of rfl, trivial⟩ ⟨⟨_, rfl, BlkLe.refl _⟩, ⟨_, rfl, BlkLe.refl _⟩, ⟨_, rfl, BlkLe.refl _⟩, trivial⟩ rfl)⟩
  conv => whnf
  exact ⟨[], _, _, _, rfl, rfl, rfl, RepLe.bl rfl, trivial⟩
end Go.Proofs.Ytoophkcicdbnfaa
