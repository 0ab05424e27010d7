/- Order of places: a strict total order. -/
import Derived.Test.YtoophkcicdbnfaaAB
set_option linter.unusedVariables false
set_option linter.unusedSimpArgs false
namespace Go.Proofs.Ytoophkcicdbnfaa
open Go Go.Av

theorem bl_irrefl : ∀ l : List UInt8, Op.bytesLess l l = false
  | [] => rfl
  | a :: l => by simp [Op.bytesLess, bl_irrefl l]
theorem bl_trans : ∀ l m n : List UInt8, Op.bytesLess l m = true → Op.bytesLess m n = true → Op.bytesLess l n = true
  | _, [], _, h, _ => by cases ‹List UInt8› <;> simp [Op.bytesLess] at h
  | _, _ :: _, [], _, h => by simp [Op.bytesLess] at h
  | [], _ :: _, _ :: _, _, _ => rfl
  | a :: l, b :: m, c :: n, h, k => by
    simp only [Op.bytesLess, Bool.or_eq_true, decide_eq_true_eq, Bool.and_eq_true, beq_iff_eq] at *
    rcases h with h | ⟨rfl, h⟩
    · rcases k with k | ⟨rfl, k⟩
      · exact .inl (UInt8.lt_trans h k)
      · exact .inl h
    · rcases k with k | ⟨rfl, k⟩
      · exact .inl k
      · exact .inr ⟨rfl, bl_trans l m n h k⟩
theorem bl_conn : ∀ l m : List UInt8, Op.bytesLess l m = false → Op.bytesLess m l = false → l = m
  | [], [], _, _ => rfl
  | [], _ :: _, h, _ => by simp [Op.bytesLess] at h
  | _ :: _, [], _, h => by simp [Op.bytesLess] at h
  | a :: l, b :: m, h, k => by
    simp only [Op.bytesLess, Bool.or_eq_false_iff, decide_eq_false_iff_not, Bool.and_eq_false_iff, beq_eq_false_iff_ne] at h k
    have e : a = b := UInt8.le_antisymm (UInt8.not_lt.1 k.1) (UInt8.not_lt.1 h.1)
    subst e
    have h2 : Op.bytesLess l m = false := by rcases h.2 with h | h; exact absurd rfl h; exact h
    have k2 : Op.bytesLess m l = false := by rcases k.2 with k | k; exact absurd rfl k; exact k
    rw [bl_conn l m h2 k2]
theorem sLt_irrefl (a : ByteArray) : sLt a a = false := by unfold sLt; exact bl_irrefl _
theorem sLt_trans {a b c : ByteArray} (h : sLt a b = true) (k : sLt b c = true) : sLt a c = true := by unfold sLt at *; exact bl_trans _ _ _ h k
theorem sLt_conn {a b : ByteArray} (h : sLt a b = false) (k : sLt b a = false) : a = b := by
  unfold sLt at *
  have := bl_conn _ _ h k
  rw [Lib.toList_data, Lib.toList_data] at this
  cases a with | mk a => cases b with | mk b => exact congrArg ByteArray.mk (Array.toList_inj.1 this)
theorem less_irrefl (a : SRef) : lessRef a a = false := by
  rw [less_ref, iEq_t.2 rfl, sEq_t.2 rfl]; simp [sLt_irrefl]
theorem less_conn {a b : SRef} (h : lessRef a b = false) (k : lessRef b a = false) : a = b := by
  rw [less_ref] at h k
  have e1 : a.scope = b.scope := by
    by_cases e : a.scope = b.scope
    · exact e
    · rw [iEq_f.2 e] at h
      rw [iEq_f.2 (Ne.symm e)] at k
      simp [iLt_f] at h k
      omega
  rw [iEq_t.2 e1] at h
  rw [iEq_t.2 e1.symm] at k
  have e2 : a.group = b.group := by
    by_cases e : a.group = b.group
    · exact e
    · rw [sEq_f.2 e] at h
      rw [sEq_f.2 (Ne.symm e)] at k
      simp at h k
      exact sLt_conn h k
  rw [sEq_t.2 e2] at h
  rw [sEq_t.2 e2.symm] at k
  simp at h k
  have e3 := sLt_conn h k
  cases a; cases b; simp at e1 e2 e3; simp [e1, e2, e3]
theorem less_cases {a b : SRef} (h : lessRef a b = true) : a.scope < b.scope ∨ (a.scope = b.scope ∧ (sLt a.group b.group = true ∨ (a.group = b.group ∧ sLt a.name b.name = true))) := by
  rw [less_ref] at h
  by_cases e1 : a.scope = b.scope
  · rw [iEq_t.2 e1] at h
    by_cases e2 : a.group = b.group
    · rw [sEq_t.2 e2] at h; simp at h; exact .inr ⟨e1, .inr ⟨e2, h⟩⟩
    · rw [sEq_f.2 e2] at h; simp at h; exact .inr ⟨e1, .inl h⟩
  · rw [iEq_f.2 e1] at h; simp [iLt_t] at h; exact .inl h
theorem less_mk {a b : SRef} (h : a.scope < b.scope ∨ (a.scope = b.scope ∧ (sLt a.group b.group = true ∨ (a.group = b.group ∧ sLt a.name b.name = true)))) : lessRef a b = true := by
  rw [less_ref]
  rcases h with h | ⟨e1, h | ⟨e2, h⟩⟩
  · rw [iEq_f.2 (by omega)]; simpa [iLt_t] using h
  · rw [iEq_t.2 e1]
    by_cases e2 : a.group = b.group
    · rw [e2, sLt_irrefl] at h; cases h
    · rw [sEq_f.2 e2]; simpa using h
  · rw [iEq_t.2 e1, sEq_t.2 e2]; simpa using h
theorem less_trans {a b c : SRef} (h : lessRef a b = true) (k : lessRef b c = true) : lessRef a c = true := by
  refine less_mk ?_
  rcases less_cases h with h | ⟨e1, h | ⟨e2, h⟩⟩
  · rcases less_cases k with k | ⟨f1, k⟩
    · exact .inl (by omega)
    · exact .inl (by omega)
  · rcases less_cases k with k | ⟨f1, k | ⟨f2, k⟩⟩
    · exact .inl (by omega)
    · exact .inr ⟨e1.trans f1, .inl (sLt_trans h k)⟩
    · exact .inr ⟨e1.trans f1, .inl (f2 ▸ h)⟩
  · rcases less_cases k with k | ⟨f1, k | ⟨f2, k⟩⟩
    · exact .inl (by omega)
    · exact .inr ⟨e1.trans f1, .inl (e2 ▸ k)⟩
    · exact .inr ⟨e1.trans f1, .inr ⟨e2.trans f2, sLt_trans h k⟩⟩
theorem less_asymm {a b : SRef} (h : lessRef a b = true) : lessRef b a = false := by
  cases k : lessRef b a with
  | false => rfl
  | true => have := less_trans h k; rw [less_irrefl] at this; cases this
theorem less_ntrans {a b c : SRef} (h : lessRef a b = false) (k : lessRef b c = false) : lessRef a c = false := by
  cases q : lessRef a c with
  | false => rfl
  | true =>
    cases p : lessRef b a with
    | true => have := less_trans p q; rw [k] at this; cases this
    | false =>
      have e := less_conn h p
      subst e
      rw [k] at q; cases q
theorem same_ref {a b : SRef} : sameRef a b = true ↔ a = b := by
  unfold sameRef
  simp only [Bool.and_eq_true, iEq_t, sEq_t]
  constructor
  · rintro ⟨h1, h2, h3⟩; cases a; cases b; simp at h1 h2 h3; simp [h1, h2, h3]
  · rintro rfl; exact ⟨rfl, rfl, rfl⟩
end Go.Proofs.Ytoophkcicdbnfaa
