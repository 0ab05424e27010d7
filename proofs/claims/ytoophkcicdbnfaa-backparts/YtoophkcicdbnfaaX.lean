/- Lists of fields: sameness, places, what is heavy. -/
import Derived.Test.YtoophkcicdbnfaaV
set_option linter.unusedVariables false
set_option linter.unusedSimpArgs false
namespace Go.Proofs.Ytoophkcicdbnfaa
open Go Go.Av
set_option maxRecDepth 100000

theorem cmp_lt : ∀ (l m : List UInt8), (Lib.compareBytes l m < 0 ↔ Op.bytesLess l m = true) ∧ (Lib.compareBytes l m = 0 ↔ l = m)
  | [], [] => by simp [Lib.compareBytes, Op.bytesLess]
  | [], _ :: _ => by simp [Lib.compareBytes, Op.bytesLess]
  | _ :: _, [] => by simp [Lib.compareBytes, Op.bytesLess]
  | a :: l, b :: m => by
    obtain ⟨h1, h2⟩ := cmp_lt l m
    unfold Lib.compareBytes Op.bytesLess
    by_cases hab : a < b
    · have : a ≠ b := fun e => by subst e; exact absurd hab (UInt8.lt_irrefl a)
      simp [hab, this]
    · by_cases hba : b < a
      · have : a ≠ b := fun e => by subst e; exact absurd hba (UInt8.lt_irrefl a)
        simp [hab, hba, this]
      · have : a = b := UInt8.le_antisymm (UInt8.not_lt.1 hba) (UInt8.not_lt.1 hab)
        subst this
        simp [hab, h1, h2]
theorem cmpS_lt (a b : ByteArray) : cmpS a b < 0 ↔ sLt a b = true := by
  unfold sLt cmpS
  rw [Lib.toList_data, Lib.toList_data]; exact (cmp_lt _ _).1
theorem cmpS_eq (a b : ByteArray) : cmpS a b = 0 ↔ a = b := by
  unfold cmpS
  rw [(cmp_lt _ _).2]
  constructor
  · intro h; cases a with | mk a => cases b with | mk b => exact congrArg ByteArray.mk (Array.toList_inj.1 h)
  · rintro rfl; rfl
theorem cmpI_lt (a b : Int) : cmpI a b < 0 ↔ a < b := by
  unfold cmpI
  cases h : iLt a b
  · rw [iLt_f] at h
    cases h2 : iLt b a <;> simp <;> omega
  · rw [iLt_t] at h; simp [h]
theorem cmpI_eq (a b : Int) : cmpI a b = 0 ↔ a = b := by
  unfold cmpI
  cases h : iLt a b
  · rw [iLt_f] at h
    cases h2 : iLt b a
    · rw [iLt_f] at h2; simp; omega
    · rw [iLt_t] at h2; simp; omega
  · rw [iLt_t] at h; simp; omega
theorem less_ref (a b : SRef) : lessRef a b = if iEq a.scope b.scope then (if sEq a.group b.group then sLt a.name b.name else sLt a.group b.group) else iLt a.scope b.scope := by
  unfold lessRef
  rw [Bool.eq_iff_iff, iLt_t]
  by_cases h1 : a.scope = b.scope
  · have e1 : cmpI a.scope b.scope = 0 := (cmpI_eq _ _).2 h1
    by_cases h2 : a.group = b.group
    · have e2 : cmpS a.group b.group = 0 := (cmpS_eq _ _).2 h2
      have h3 := cmpS_lt a.name b.name
      by_cases h4 : cmpS a.name b.name = 0
      · have h5 : ¬ sLt a.name b.name = true := fun e => by have := h3.2 e; omega
        have h5 : sLt a.name b.name = false := by simpa using h5
        simp [orI, e1, e2, h4, iEq_t.2 h1, sEq_t.2 h2, iEq_t.2 (rfl : (0 : Int) = 0), h5]
      · simp [orI, e1, e2, iEq_f.2 h4, iEq_t.2 h1, sEq_t.2 h2, iEq_t.2 (rfl : (0 : Int) = 0), h3]
    · have e2 : cmpS a.group b.group ≠ 0 := fun e => h2 ((cmpS_eq _ _).1 e)
      simp [orI, e1, iEq_f.2 e2, iEq_t.2 h1, sEq_f.2 h2, iEq_t.2 (rfl : (0 : Int) = 0), cmpS_lt]
  · have e1 : cmpI a.scope b.scope ≠ 0 := fun e => h1 ((cmpI_eq _ _).1 e)
    simp [orI, iEq_f.2 e1, iEq_f.2 h1, cmpI_lt, iLt_t]

theorem f86 (a b : SRef) : PCall Try.prog 86 [encRef a, encRef b] (.p (.val (.bool (lessRef a b)))) [] := by
  rw [less_ref]
  refine gcode hT hM Try.func86 rfl rfl (rv := [(4, none)]) rfl rfl rfl fun G hG => ?_
  conv => whnf
  refine ⟨fun h1 => ?_, fun h1 => ?_⟩
  · conv => whnf
    exact ⟨[], _, _, _, rfl, rfl, rfl, RepLe.bl (by simp_all), trivial⟩
  conv => whnf
  refine ⟨fun h2 => ?_, fun h2 => ?_⟩
  · conv => whnf
    exact ⟨[], _, _, _, rfl, rfl, rfl, RepLe.bl (by simp_all), trivial⟩
  conv => whnf
  exact ⟨[], _, _, _, rfl, rfl, rfl, RepLe.bl (by simp_all), trivial⟩

def encFields (l : List SField) : PV := .rs 7 l.length fun i => at_ .any (fieldCells (l.getD i noField))
def okFields (l : List SField) : Prop := l.length ≤ maxLen ∧ ∀ x ∈ l, okField x
theorem okFields.at {l : List SField} (h : okFields l) (i : Nat) : okField (l.getD i noField) := by
  rw [List.getD_eq_getElem?_getD]
  rcases Nat.lt_or_ge i l.length with hi | hi
  · rw [List.getElem?_eq_getElem hi]; exact h.2 _ (List.getElem_mem hi)
  · rw [List.getElem?_eq_none hi]; exact Nat.zero_le _
def sameFields (l m : List SField) : Bool := decide (l.length = m.length) && allUpto (fun i => sameField (l.getD i noField) (m.getD i noField)) l.length 0

theorem f65 (l m : List SField) (hl : okFields l) : PCall Try.prog 65 [encFields l, encFields m, .fn 66 0 fun _ => .any] (.p (.val (.bool (sameFields l m)))) [] := by
  have hlen : l.length ≤ 9223372036854775807 := hl.1
  refine gcode hT hM Try.func65 rfl rfl (rv := [(6, none)]) rfl rfl rfl fun G hG => ?_
  conv => whnf
  refine ⟨fun h => ?_, fun h => ?_⟩
  · conv => whnf
    exact ⟨[], _, _, _, rfl, rfl, rfl, RepLe.bl (by simp [iEq_f] at h; simp [sameFields]; omega), trivial⟩
  conv => whnf
  have heq : l.length = m.length := by simp [iEq_t] at h; omega
  refine AW.loop (X := Nat) (fun i => told 32 [(1, .p (encFields m)), (2, .p (.fn 66 0 fun _ => .any)), (15, .p (encFields l)), (16, vI .i64 (l.length : Int)), (17, vI .i64 (i : Int))] [] []) (fun i => i ≤ l.length ∧ sameFields l m = allUpto (fun i => sameField (l.getD i noField) (m.getD i noField)) (l.length - i) i) (fun i => l.length - i) (used0 hG _) 0 ⟨by omega, by simp [sameFields, heq]⟩ (stle ⟨RepLe.refl _, RepLe.refl _, RepLe.refl _, RepLe.refl _, RepLe.refl _, trivial⟩ trivial rfl) ?_
  rintro i ⟨hi, hr⟩
  refine codeK_aw hT hM _ _ _ ?_
  conv => whnf
  refine ⟨fun h4 => ?_, fun h4 => ?_⟩
  · have hlt : i < l.length := by rw [iLt_t] at h4; omega
    rw [allUpto_step _ hlt] at hr
    conv => whnf
    refine ⟨by omega, ?_⟩
    conv => whnf
    refine ⟨by omega, ?_⟩
    conv => whnf
    refine CallK.lent (f66 (l.getD i noField) (m.getD i noField) (hl.at i)) rfl ?_
    conv => whnf
    refine ⟨fun h5 => ?_, fun h5 => ?_⟩
    · have h5 : sameField (l.getD i noField) (m.getD i noField) = false := by simpa using h5
      conv => whnf
      exact ⟨[], _, _, _, rfl, rfl, rfl, RepLe.bl (by rw [hr, h5]; simp), trivial⟩
    have h5 : sameField (l.getD i noField) (m.getD i noField) = true := by simpa using h5
    conv => whnf
    intro z hz
    have hy := wrap64_eq hz (by omega) (by omega)
    clear hz
    subst hy
    conv => whnf
    exact ⟨i + 1, ⟨by omega, by rw [hr, h5]; simp⟩, by omega, stle ⟨RepLe.refl _, RepLe.refl _, RepLe.refl _, RepLe.refl _, RepLe.of rfl, trivial⟩ trivial rfl⟩
  · have hge : i = l.length := by rw [iLt_f] at h4; omega
    subst hge
    conv => whnf
    exact ⟨[], _, _, _, rfl, rfl, rfl, RepLe.bl (by rw [hr, allUpto_end]), trivial⟩

theorem f17 (l m : List SField) (hl : okFields l) : PCall Try.prog 17 [encFields l, encFields m] (.p (.val (.bool (sameFields l m)))) [] := by
  refine gcode hT hM Try.func17 rfl rfl (rv := [(4, none)]) rfl rfl rfl fun G hG => ?_
  conv => whnf
  refine CallK.lent (f65 l m hl) rfl ?_
  conv => whnf
  exact ⟨[], _, _, _, rfl, rfl, rfl, RepLe.refl _, trivial⟩

theorem f18 (l m : List SField) (hl : okFields l) : PCall Try.prog 18 [encFields l, encFields m] (.p (.val (.bool (sameFields l m)))) [] := by
  have hlen : l.length ≤ 9223372036854775807 := hl.1
  refine gcode hT hM Try.func18 rfl rfl (rv := [(4, none)]) rfl rfl rfl fun G hG => ?_
  conv => whnf
  refine ⟨fun h => ?_, fun h => ?_⟩
  · conv => whnf
    exact ⟨[], _, _, _, rfl, rfl, rfl, RepLe.bl (by simp [iEq_f] at h; simp [sameFields]; omega), trivial⟩
  conv => whnf
  have heq : l.length = m.length := by simp [iEq_t] at h; omega
  refine AW.loop (X := Nat) (fun i => told 27 [(0, .p (encFields l)), (1, .p (encFields m)), (5, vI .i64 (i : Int))] [] []) (fun i => i ≤ l.length ∧ sameFields l m = allUpto (fun i => sameField (l.getD i noField) (m.getD i noField)) (l.length - i) i) (fun i => l.length - i) (used0 hG _) 0 ⟨by omega, by simp [sameFields, heq]⟩ (stle ⟨RepLe.refl _, RepLe.refl _, RepLe.refl _, trivial⟩ trivial rfl) ?_
  rintro i ⟨hi, hr⟩
  refine codeK_aw hT hM _ _ _ ?_
  conv => whnf
  refine ⟨fun h4 => ?_, fun h4 => ?_⟩
  · have hlt : i < l.length := by rw [iLt_t] at h4; omega
    rw [allUpto_step _ hlt] at hr
    conv => whnf
    refine ⟨by omega, ?_⟩
    conv => whnf
    refine ⟨by omega, ?_⟩
    conv => whnf
    refine CallK.lent (f32 (l.getD i noField) (m.getD i noField) (hl.at i)) rfl ?_
    conv => whnf
    refine ⟨rfl, ?_⟩
    conv => whnf
    refine ⟨fun h5 => ?_, fun h5 => ?_⟩
    · have h5 : sameField (l.getD i noField) (m.getD i noField) = false := by simpa using h5
      conv => whnf
      exact ⟨[], _, _, _, rfl, rfl, rfl, RepLe.bl (by rw [hr, h5]; simp), trivial⟩
    have h5 : sameField (l.getD i noField) (m.getD i noField) = true := by simpa using h5
    conv => whnf
    intro z hz
    have hy := wrap64_eq hz (by omega) (by omega)
    clear hz
    subst hy
    conv => whnf
    exact ⟨i + 1, ⟨by omega, by rw [hr, h5]; simp⟩, by omega, stle ⟨RepLe.refl _, RepLe.refl _, RepLe.of rfl, trivial⟩ trivial rfl⟩
  · have hge : i = l.length := by rw [iLt_f] at h4; omega
    subst hge
    conv => whnf
    exact ⟨[], _, _, _, rfl, rfl, rfl, RepLe.bl (by rw [hr, allUpto_end]), trivial⟩

def heavyFields (l : List SField) : Bool := iLt 40 l.length || !allUpto (fun i => !heavyField (l.getD i noField)) l.length 0
theorem f26 (l : List SField) (hl : okFields l) : PCall Try.prog 26 [encFields l] (.p (.val (.bool (heavyFields l)))) [] := by
  have hlen : l.length ≤ 9223372036854775807 := hl.1
  refine gcode hT hM Try.func26 rfl rfl (rv := [(2, none)]) rfl rfl rfl fun G hG => ?_
  conv => whnf
  refine ⟨fun h => ?_, fun h => ?_⟩
  · conv => whnf
    exact ⟨[], _, _, _, rfl, rfl, rfl, RepLe.bl (by simp_all [heavyFields]), trivial⟩
  conv => whnf
  refine AW.loop (X := Nat) (fun i => told 18 [(0, .p (encFields l)), (3, vI .i64 (i : Int))] [] []) (fun i => i ≤ l.length ∧ heavyFields l = !allUpto (fun i => !heavyField (l.getD i noField)) (l.length - i) i) (fun i => l.length - i) (used0 hG _) 0 ⟨by omega, by simp_all [heavyFields]⟩ (stle ⟨RepLe.refl _, RepLe.refl _, trivial⟩ trivial rfl) ?_
  rintro i ⟨hi, hr⟩
  refine codeK_aw hT hM _ _ _ ?_
  conv => whnf
  refine ⟨fun h4 => ?_, fun h4 => ?_⟩
  · have hlt : i < l.length := by rw [iLt_t] at h4; omega
    rw [allUpto_step _ hlt] at hr
    conv => whnf
    refine ⟨by omega, ?_⟩
    conv => whnf
    refine CallK.lent (f44 (l.getD i noField) (hl.at i)) rfl ?_
    conv => whnf
    refine ⟨fun h5 => ?_, fun h5 => ?_⟩
    · have h5 : heavyField (l.getD i noField) = true := h5
      conv => whnf
      exact ⟨[], _, _, _, rfl, rfl, rfl, RepLe.bl (by rw [hr, h5]; simp), trivial⟩
    have h5 : heavyField (l.getD i noField) = false := h5
    conv => whnf
    intro z hz
    have hy := wrap64_eq hz (by omega) (by omega)
    clear hz
    subst hy
    conv => whnf
    exact ⟨i + 1, ⟨by omega, by rw [hr, h5]; simp⟩, by omega, stle ⟨RepLe.refl _, RepLe.of rfl, trivial⟩ trivial rfl⟩
  · have hge : i = l.length := by rw [iLt_f] at h4; omega
    subst hge
    conv => whnf
    exact ⟨[], _, _, _, rfl, rfl, rfl, RepLe.bl (by rw [hr, allUpto_end]; rfl), trivial⟩
end Go.Proofs.Ytoophkcicdbnfaa
