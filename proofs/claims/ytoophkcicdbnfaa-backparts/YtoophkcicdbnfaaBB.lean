/- BackParts: a row of lenses, and the law itself. -/
import Derived.Test.YtoophkcicdbnfaaBA
set_option linter.unusedVariables false
set_option linter.unusedSimpArgs false
namespace Go.Proofs.Ytoophkcicdbnfaa
open Go Go.Av
set_option maxRecDepth 100000
set_option maxHeartbeats 4000000

def encRow (row : List SLens) : PV := .rs 16 row.length fun i => at_ .any (lensCells (row.getD i noLens))
def fitRow (row : List SLens) : Prop := row.length ≤ 4611686018427387904 ∧ ∀ x ∈ row, fitLens x
theorem fitRow.at {row : List SLens} (h : fitRow row) (i : Nat) : fitLens (row.getD i noLens) := by
  rw [List.getD_eq_getElem?_getD]
  rcases Nat.lt_or_ge i row.length with hi | hi
  · rw [List.getElem?_eq_getElem hi]; exact h.2 _ (List.getElem_mem hi)
  · rw [List.getElem?_eq_none hi]; exact ⟨Nat.zero_le _, Nat.zero_le _, Nat.zero_le _⟩
def heavyRow (row : List SLens) : Bool := iLt 12 row.length || !allUpto (fun i => !heavyLens (row.getD i noLens)) row.length 0
theorem f62 (row : List SLens) (hl : fitRow row) : PCall Try.prog 62 [encRow row] (.p (.val (.bool (heavyRow row)))) [] := by
  have hlen := hl.1
  refine gcode hT hM Try.func62 rfl rfl (rv := [(2, none)]) rfl rfl rfl fun G hG => ?_
  conv => whnf
  refine ⟨fun h => ?_, fun h => ?_⟩
  · conv => whnf
    exact ⟨[], _, _, _, rfl, rfl, rfl, RepLe.bl (by simp_all [heavyRow]), trivial⟩
  conv => whnf
  refine AW.loop (X := Nat) (fun i => told 18 [(0, .p (encRow row)), (3, vI .i64 (i : Int))] [] []) (fun i => i ≤ row.length ∧ heavyRow row = !allUpto (fun i => !heavyLens (row.getD i noLens)) (row.length - i) i) (fun i => row.length - i) (used0 hG _) 0 ⟨by omega, by simp_all [heavyRow]⟩ (stle ⟨RepLe.refl _, RepLe.refl _, trivial⟩ trivial rfl) ?_
  rintro i ⟨hi, hr⟩
  refine codeK_aw hT hM _ _ _ ?_
  conv => whnf
  refine ⟨fun h4 => ?_, fun h4 => ?_⟩
  · have hlt : i < row.length := by rw [iLt_t] at h4; omega
    rw [allUpto_step _ hlt] at hr
    conv => whnf
    refine ⟨by omega, ?_⟩
    conv => whnf
    refine CallK.lent (f21 (row.getD i noLens) (hl.at i).ok) rfl ?_
    conv => whnf
    refine ⟨fun h5 => ?_, fun h5 => ?_⟩
    · have h5 : heavyLens (row.getD i noLens) = true := h5
      conv => whnf
      exact ⟨[], _, _, _, rfl, rfl, rfl, RepLe.bl (by rw [hr, h5]; simp), trivial⟩
    have h5 : heavyLens (row.getD i noLens) = false := h5
    conv => whnf
    intro z hz
    have hy := wrap64_eq hz (by omega) (by omega)
    clear hz
    subst hy
    conv => whnf
    exact ⟨i + 1, ⟨by omega, by rw [hr, h5]; simp⟩, by omega, stle ⟨RepLe.refl _, RepLe.of rfl, trivial⟩ trivial rfl⟩
  · have hge : i = row.length := by rw [iLt_f] at h4; omega
    subst hge
    conv => whnf
    exact ⟨[], _, _, _, rfl, rfl, rfl, RepLe.bl (by rw [hr, allUpto_end]; rfl), trivial⟩

def encChain (c : List SField × Nat × Int) : AV := .tup 3 (at_ (.p .any) [.p (encFields c.1), .p (.val (.int .i64 ((c.2.1 : Nat) : Int))), .p (.val (.int .i64 c.2.2))])
theorem chain_ret {a : PV} {i c : Int} {p : List SField × Nat × Int} {l : List SField} {k : Nat} (h : p = (l, k, c)) (ha : PLe a (encFields l)) (hi : i = (k : Int)) : RepLe (.tup 3 (at_ (.p .any) [.p a, .p (.val (.int .i64 i)), .p (.val (.int .i64 c))])) (encChain p) := by
  subst h hi
  exact RepLe.tup (l := [.p a, .p (.val (.int .i64 (k : Int))), .p (.val (.int .i64 c))]) (m := [.p (encFields l), .p (.val (.int .i64 (k : Int))), .p (.val (.int .i64 c))]) ⟨PLe.rep ha, RepLe.refl _, RepLe.refl _, trivial⟩
theorem chain_step (row : List SLens) (cur : List SField) {i : Nat} (h : i < row.length) : chainGo (row.drop i) cur i = if iEq (applyF cur (row.getD i noLens)).2 0 then chainGo (row.drop (i + 1)) (applyF cur (row.getD i noLens)).1 (i + 1) else ([], i, (applyF cur (row.getD i noLens)).2) := by
  rw [List.drop_eq_getElem_cons h, List.getD_eq_getElem?_getD, List.getElem?_eq_getElem h]
  rfl

theorem f63 (l : List SField) (row : List SLens) (hl : fitFields l) (hw : fitRow row) : PCall Try.prog 63 [encFields l, encRow row] (encChain (chainF l row)) [] := by
  have hlen := hw.1
  refine gcode hT hM Try.func63 rfl rfl (rv := [(4, none), (5, none), (6, none)]) rfl rfl rfl fun G hG => ?_
  conv => whnf
  refine AW.scope (X := Nat × List SField) 0 (fun p => told 37 [(0, .p (encFields p.2)), (1, .p (encRow row)), (7, vI .i64 (p.1 : Int))] [] []) (fun p => p.1 ≤ row.length ∧ fitFields p.2 ∧ chainF l row = chainGo (row.drop p.1) p.2 p.1) (fun p => row.length - p.1) (used0 hG _) rfl ?_ ?_
  · refine codeK_aw hT hM _ _ _ ?_
    conv => whnf
    refine CallK.lent (f33 l hl.ok) rfl ?_
    conv => whnf
    refine ⟨fun h1 => ?_, fun h1 => ?_⟩
    · have h1 : rightFields l = false := by simpa using h1
      conv => whnf
      exact ⟨[], _, _, _, rfl, rfl, rfl, chain_ret (by unfold chainF; rw [h1]; rfl) nil_fields rfl, trivial⟩
    have h1 : rightFields l = true := by simpa using h1
    have hr : chainF l row = chainGo row l 0 := by unfold chainF; rw [h1]; rfl
    conv => whnf
    refine CallK.go [] (f27 l hl) rfl rfl rfl rfl rfl ?_
    conv => whnf
    refine ⟨fun h4 => ?_, fun h4 => ?_⟩
    · have hz : row = [] := List.length_eq_zero_iff.1 (by rw [iEq_t] at h4; omega)
      conv => whnf
      exact ⟨[], _, _, _, rfl, rfl, rfl, chain_ret (by rw [hr, hz]; rfl) (PLe.refl _) rfl, trivial⟩
    have hlt : 0 < row.length := by rw [iEq_f] at h4; omega
    have hs := chain_step row l hlt
    rw [List.drop_zero, ← hr] at hs
    conv => whnf
    refine ⟨by omega, ?_⟩
    conv => whnf
    refine CallK.go [] (f49 l (row.getD 0 noLens) hl (hw.at 0)) rfl rfl rfl rfl rfl ?_
    conv => whnf
    refine ⟨fun h5 => ?_, fun h5 => ?_⟩
    · rw [h5] at hs
      conv => whnf
      intro z hz
      have hy := wrap64_eq hz (by omega) (by omega)
      clear hz
      subst hy
      conv => whnf
      exact ⟨(1, (applyF l (row.getD 0 noLens)).1), ⟨by show 1 ≤ _; omega, apply_fit hl (hw.at 0), hs⟩, stle ⟨RepLe.refl _, RepLe.refl _, RepLe.of rfl, trivial⟩ trivial rfl⟩
    rw [h5] at hs
    conv => whnf
    exact ⟨[], _, _, _, rfl, rfl, rfl, chain_ret hs nil_fields rfl, trivial⟩
  · rintro ⟨i, cur⟩ ⟨hi, hc, hr⟩
    have hi : i ≤ row.length := hi
    have hc : fitFields cur := hc
    have hr : chainF l row = chainGo (row.drop i) cur i := hr
    refine codeK_aw hT hM _ _ _ ?_
    conv => whnf
    refine ⟨fun h4 => ?_, fun h4 => ?_⟩
    · have hz : i = row.length := by rw [iEq_t] at h4; omega
      rw [hz, List.drop_length] at hr
      conv => whnf
      exact ⟨[], _, _, _, rfl, rfl, rfl, chain_ret (l := cur) (k := row.length) hr (PLe.refl _) (by rw [hz]), trivial⟩
    have hlt : i < row.length := by rw [iEq_f] at h4; omega
    rw [chain_step row cur hlt] at hr
    conv => whnf
    refine ⟨by omega, ?_⟩
    conv => whnf
    refine CallK.go [] (f49 cur (row.getD i noLens) hc (hw.at i)) rfl rfl rfl rfl rfl ?_
    conv => whnf
    refine ⟨fun h5 => ?_, fun h5 => ?_⟩
    · rw [h5] at hr
      conv => whnf
      intro z hz
      have hy := wrap64_eq hz (by omega) (by omega)
      clear hz
      subst hy
      conv => whnf
      exact ⟨(i + 1, (applyF cur (row.getD i noLens)).1), ⟨by show i + 1 ≤ _; omega, apply_fit hc (hw.at i), hr⟩, by show row.length - (i + 1) < row.length - i; omega, stle ⟨RepLe.refl _, RepLe.refl _, RepLe.of rfl, trivial⟩ trivial rfl⟩
    rw [h5] at hr
    conv => whnf
    exact ⟨[], _, _, _, rfl, rfl, rfl, chain_ret (l := []) (k := i) hr nil_fields rfl, trivial⟩
end Go.Proofs.Ytoophkcicdbnfaa
