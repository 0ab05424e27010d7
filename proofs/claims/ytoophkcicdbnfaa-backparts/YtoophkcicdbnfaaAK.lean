/- One more: the plain laws. -/
import Derived.Test.YtoophkcicdbnfaaAJ
set_option linter.unusedVariables false
set_option linter.unusedSimpArgs false
namespace Go.Proofs.Ytoophkcicdbnfaa
open Go Go.Av

theorem gap_facts {l : List SField} {f : SField} (h : rightFields l = true) (hp : placeIn l f.place = none) :
    gapOf l f ≤ l.length ∧ (∀ i, i < gapOf l f → lessRef (l.getD i noField).place f.place = true) ∧ ∀ i, gapOf l f ≤ i → i < l.length → lessRef f.place (l.getD i noField).place = true := by
  have hno : ∀ i, i < l.length → sameRef (l.getD i noField).place f.place = false := fun i hi => findUpto_none _ _ _ hp i (Nat.zero_le _) (by omega)
  unfold gapOf
  cases hg : findUpto (fun i => !lessRef (l.getD i noField).place f.place) l.length 0 with
  | none =>
    refine ⟨Nat.le_refl _, fun i hi => ?_, fun i h1 h2 => ?_⟩
    · have hi : i < l.length := hi
      have := findUpto_none _ _ _ hg i (Nat.zero_le _) (by omega)
      simpa using this
    · have h1 : l.length ≤ i := h1
      omega
  | some k =>
    obtain ⟨_, hk, hpk, hmin⟩ := findUpto_some _ _ _ _ hg
    have hk : k < l.length := by omega
    have hpk : lessRef (l.getD k noField).place f.place = false := by simpa using hpk
    have hkf : lessRef f.place (l.getD k noField).place = true := by
      cases q : lessRef f.place (l.getD k noField).place with
      | true => rfl
      | false =>
        have := less_conn hpk q
        have h2 := hno k hk
        rw [same_ref.2 this] at h2; cases h2
    refine ⟨Nat.le_of_lt hk, fun i hi => ?_, fun i h1 h2 => ?_⟩
    · have hi : i < k := hi
      have := hmin i (Nat.zero_le _) hi
      simpa using this
    · have h1 : k ≤ i := h1
      rcases Nat.lt_or_ge k i with h3 | h3
      · exact less_trans hkf (right_sorted h i h2 k h3)
      · have : i = k := by omega
        subst this; exact hkf
theorem put_len (l : List SField) (f : SField) (hk : gapOf l f ≤ l.length) : (putIn l f).length = l.length + 1 := by
  unfold putIn
  simp
  omega
theorem put_get (l : List SField) (f : SField) (hk : gapOf l f ≤ l.length) (i : Nat) : (putIn l f).getD i noField = if i < gapOf l f then l.getD i noField else if i = gapOf l f then f else l.getD (i - 1) noField := by
  unfold putIn
  have ht : (l.take (gapOf l f)).length = gapOf l f := by simp; omega
  simp only [List.getD_eq_getElem?_getD]
  by_cases h1 : i < gapOf l f
  · rw [if_pos h1, List.getElem?_append_left (by omega), List.getElem?_take, if_pos h1]
  · rw [if_neg h1, List.getElem?_append_right (by omega), ht]
    by_cases h2 : i = gapOf l f
    · rw [if_pos h2, h2, Nat.sub_self]; rfl
    · rw [if_neg h2, show i - gapOf l f = (i - 1 - gapOf l f) + 1 by omega, List.getElem?_cons_succ, List.getElem?_drop, show gapOf l f + (i - 1 - gapOf l f) = i - 1 by omega]
theorem put_sorted {l : List SField} {f : SField} (h : rightFields l = true) (hp : placeIn l f.place = none) : ∀ a b, a < b → b < l.length + 1 → lessRef ((putIn l f).getD a noField).place ((putIn l f).getD b noField).place = true := by
  obtain ⟨hk, h1, h2⟩ := gap_facts h hp
  intro a b hab hb
  rw [put_get l f hk, put_get l f hk]
  by_cases ha1 : a < gapOf l f
  · rw [if_pos ha1]
    by_cases hb1 : b < gapOf l f
    · rw [if_pos hb1]; exact right_sorted h b (by omega) a hab
    · rw [if_neg hb1]
      by_cases hb2 : b = gapOf l f
      · rw [if_pos hb2]; exact h1 a ha1
      · rw [if_neg hb2]; exact right_sorted h (b - 1) (by omega) a (by omega)
  · rw [if_neg ha1, if_neg (show ¬ b < gapOf l f by omega), if_neg (show ¬ b = gapOf l f by omega)]
    by_cases ha2 : a = gapOf l f
    · rw [if_pos ha2]; exact h2 (b - 1) (by omega) (by omega)
    · rw [if_neg ha2]; exact right_sorted h (b - 1) (by omega) (a - 1) (by omega)
theorem put_perm (l : List SField) (f : SField) : (putIn l f).Perm (l ++ [f]) := by
  unfold putIn
  refine List.perm_middle.trans ?_
  rw [List.take_append_drop]
  exact List.perm_append_comm (l₁ := [f]) (l₂ := l)
theorem put_pairs {l : List SField} {f : SField} (h : rightFields l = true) (hp : placeIn l f.place = none) : (putIn l f).Pairwise fun a b => lessRef a.place b.place = true := by
  have hk := (gap_facts h hp).1
  rw [List.pairwise_iff_getElem]
  intro i j hi hj hij
  have := put_sorted h hp i j hij (by rw [← put_len l f hk]; exact hj)
  rw [List.getD_eq_getElem?_getD, List.getD_eq_getElem?_getD, List.getElem?_eq_getElem hi, List.getElem?_eq_getElem hj] at this
  exact this
theorem put_right {l : List SField} {f : SField} (h : rightFields l = true) (hf : fieldOk f = true) (hp : placeIn l f.place = none) (h15 : l.length ≤ 15) : rightFields (putIn l f) = true := by
  have hk := (gap_facts h hp).1
  have hlen := put_len l f hk
  unfold rightFields
  rw [Bool.and_eq_true, iLe_t, allUpto_iff]
  refine ⟨by rw [hlen]; omega, fun i _ hi => ?_⟩
  have hi : i < l.length + 1 := by rw [hlen] at hi; omega
  unfold rightStep
  rw [Bool.and_eq_true, Bool.or_eq_true]
  constructor
  · rw [put_get l f hk]
    by_cases h1 : i < gapOf l f
    · rw [if_pos h1]; exact (right_step h (by omega)).1
    · rw [if_neg h1]
      by_cases h2 : i = gapOf l f
      · rw [if_pos h2]; exact hf
      · rw [if_neg h2]; exact (right_step h (by omega)).1
  · rcases Nat.eq_zero_or_pos i with h0 | h0
    · subst h0; exact .inl (iEq_t.2 rfl)
    · exact .inr (put_sorted h hp (i - 1) i (by omega) hi)
theorem put_place {l : List SField} {f : SField} (h : rightFields l = true) (hp : placeIn l f.place = none) : placeIn (putIn l f) f.place = some (gapOf l f) := by
  obtain ⟨hk, h1, h2⟩ := gap_facts h hp
  have hlen := put_len l f hk
  have hg : ((putIn l f).getD (gapOf l f) noField) = f := by rw [put_get l f hk, if_neg (by omega), if_pos rfl]
  cases q : placeIn (putIn l f) f.place with
  | none =>
    have := findUpto_none _ _ _ q (gapOf l f) (Nat.zero_le _) (by rw [hlen]; omega)
    simp only [hg, same_ref.2 rfl] at this
    cases this
  | some j =>
    obtain ⟨_, hj, hpj, _⟩ := findUpto_some _ _ _ _ q
    have hj : j < l.length + 1 := by rw [hlen] at hj; omega
    have hpj := same_ref.1 hpj
    rcases Nat.lt_trichotomy j (gapOf l f) with h3 | h3 | h3
    · have := put_sorted h hp j (gapOf l f) h3 (by omega)
      rw [hpj, hg, less_irrefl] at this; cases this
    · rw [h3]
    · have := put_sorted h hp (gapOf l f) j h3 hj
      rw [hpj, hg, less_irrefl] at this; cases this
theorem put_erase (l : List SField) (f : SField) (hk : gapOf l f ≤ l.length) : (putIn l f).eraseIdx (gapOf l f) = l := by
  unfold putIn
  have ht : (l.take (gapOf l f)).length = gapOf l f := by simp; omega
  rw [List.eraseIdx_append_of_length_le (by omega), ht, Nat.sub_self]
  simp
theorem without_put {l : List SField} {f : SField} (h : rightFields l = true) (hf : fieldOk f = true) (hp : placeIn l f.place = none) (h15 : l.length ≤ 15) : withoutF (putIn l f) f.place = (l, 0) := by
  have hr := put_right h hf hp h15
  have hq := put_place h hp
  unfold withoutF
  rw [hr, hq]
  show (notAt (putIn l f) f.place, (0 : Int)) = _
  rw [notAt_erase hr hq, put_erase l f (gap_facts h hp).1]
theorem find_put {l : List SField} {f : SField} (h : rightFields l = true) (hp : placeIn l f.place = none) : fieldAt (putIn l f) (placeIn (putIn l f) f.place) = (f, 0) := by
  have hk := (gap_facts h hp).1
  rw [put_place h hp]
  show ((putIn l f).getD (gapOf l f) noField, (0 : Int)) = _
  rw [put_get l f hk, if_neg (by omega), if_pos rfl]
end Go.Proofs.Ytoophkcicdbnfaa
