/- BackParts: the law itself. -/
import Derived.Test.YtoophkcicdbnfaaBB
set_option linter.unusedVariables false
set_option linter.unusedSimpArgs false
namespace Go.Proofs.Ytoophkcicdbnfaa
open Go Go.Av
set_option maxRecDepth 100000
set_option maxHeartbeats 4000000

theorem chainF_fit {l : List SField} {row : List SLens} (hl : fitFields l) (hw : fitRow row) : fitFields (chainF l row).1 := by
  unfold chainF
  split
  · exact chain_fit row l 0 hl hw.2
  · exact nil_fit
theorem chain_le : ∀ (row : List SLens) (cur : List SField) (i : Nat), (chainGo row cur i).2.1 ≤ i + row.length
  | [], cur, i => Nat.le_refl _
  | x :: xs, cur, i => by
    unfold chainGo
    split
    · have := chain_le xs (applyF cur x).1 (i + 1)
      rw [List.length_cons]; omega
    · show i ≤ _; omega
theorem chainF_le (l : List SField) (row : List SLens) : (chainF l row).2.1 ≤ row.length := by
  unfold chainF
  split
  · have := chain_le row l 0; omega
  · exact Nat.zero_le _
theorem part_bad {l : List SField} {row : List SLens} {n : Nat} (h : (chainF l (row.take n)).2.2 ≠ 0) : chainF l row = chainF l (row.take n) ∧ (chainF l (row.take n)).1 = [] := by
  unfold chainF at h ⊢
  cases hr : rightFields l with
  | false => exact ⟨rfl, rfl⟩
  | true =>
    rw [hr] at h
    have := (chain_parts (row.take n) (row.drop n) l 0).1 h
    rw [List.take_append_drop] at this
    exact this
theorem part_good {l : List SField} {row : List SLens} {n : Nat} (hn : n ≤ row.length) (h : (chainF l (row.take n)).2.2 = 0) :
    chainF l row = ((chainF (chainF l (row.take n)).1 (row.drop n)).1, (chainF (chainF l (row.take n)).1 (row.drop n)).2.1 + n, (chainF (chainF l (row.take n)).1 (row.drop n)).2.2) := by
  cases hr : rightFields l with
  | false => unfold chainF at h; rw [hr] at h; exact absurd h (show ¬ (5 : Int) = 0 by decide)
  | true =>
    have e1 : ∀ r, chainF l r = chainGo r l 0 := fun r => by unfold chainF; rw [hr]; rfl
    rw [e1] at h
    rw [e1, e1]
    have h2 := (chain_parts (row.take n) (row.drop n) l 0).2 h
    rw [List.take_append_drop, List.length_take, Nat.min_eq_left hn, chain_shift] at h2
    have h3 : chainF (chainGo (row.take n) l 0).1 (row.drop n) = chainGo (row.drop n) (chainGo (row.take n) l 0).1 0 := by unfold chainF; rw [chain_right _ _ _ hr]; rfl
    rw [h3]
    exact h2
theorem take_lens (row : List SLens) {i m : Nat} (h : m < i) : (row.take i).getD m noLens = row.getD m noLens := by
  simp [List.getD_eq_getElem?_getD, List.getElem?_take, h]
theorem takeRow (row : List SLens) (n : Nat) (h : n ≤ row.length) : PLe (.rs 16 (n - 0) fun a b => at_ .any (lensCells (row.getD (0 + a) noLens)) b) (encRow (row.take n)) := by
  refine PLe.rows (by simp; omega) fun a b ha hb => ?_
  rw [take_lens row (show a < n by omega), Nat.zero_add]
theorem dropRow (row : List SLens) (n : Nat) : PLe (.rs 16 (row.length - n) fun a b => at_ .any (lensCells (row.getD (n + a) noLens)) b) (encRow (row.drop n)) := by
  refine PLe.rows (by simp) fun a b ha hb => ?_
  rw [show (row.drop n).getD a noLens = row.getD (n + a) noLens by simp [List.getD_eq_getElem?_getD]]
theorem take_row {row : List SLens} (h : fitRow row) (n : Nat) : fitRow (row.take n) := ⟨Nat.le_trans (by simp; omega) h.1, fun x hx => h.2 x (List.mem_of_mem_take hx)⟩
theorem drop_row {row : List SLens} (h : fitRow row) (n : Nat) : fitRow (row.drop n) := ⟨Nat.le_trans (by simp) h.1, fun x hx => h.2 x (List.mem_of_mem_drop hx)⟩

theorem f14 (l : List SField) (row : List SLens) (a : Int) (hl : fitFields l) (hw : fitRow row) : PCall Try.prog 14 [encFields l, encRow row, .val (.int .i64 a)] (.p (.val (.bool true))) [] := by
  have hlen := hw.1
  refine gcode hT hM Try.func14 rfl rfl (rv := [(6, none)]) rfl rfl rfl fun G hG => ?_
  conv => whnf
  refine CallK.lent (f20) rfl ?_
  conv => whnf
  refine ⟨fun h => ?_, fun h => ?_⟩
  · cases h
  conv => whnf
  refine CallK.lent (f26 l hl.ok) rfl ?_
  conv => whnf
  refine ⟨fun h1 => ?_, fun h1 => ?_⟩
  · conv => whnf
    exact ⟨[], _, _, _, rfl, rfl, rfl, RepLe.bl rfl, trivial⟩
  conv => whnf
  refine CallK.lent (f62 row hw) rfl ?_
  conv => whnf
  refine ⟨fun h2 => ?_, fun h2 => ?_⟩
  · conv => whnf
    exact ⟨[], _, _, _, rfl, rfl, rfl, RepLe.bl rfl, trivial⟩
  conv => whnf
  refine ⟨fun h3 => ?_, fun h3 => ?_⟩
  · conv => whnf
    exact ⟨[], _, _, _, rfl, rfl, rfl, RepLe.bl rfl, trivial⟩
  conv => whnf
  refine ⟨fun h4 => ?_, fun h4 => ?_⟩
  · conv => whnf
    exact ⟨[], _, _, _, rfl, rfl, rfl, RepLe.bl rfl, trivial⟩
  obtain ⟨n, rfl⟩ : ∃ n : Nat, a = (n : Int) := ⟨a.toNat, by rw [iLt_f] at h3; omega⟩
  have hn : n ≤ row.length := by rw [iLt_f] at h4; omega
  clear h1 h2 h3 h4
  conv => whnf
  refine CallK.go [] (f63 l row hl hw) rfl rfl rfl rfl rfl ?_
  conv => whnf
  refine ⟨⟨by omega, Int.natCast_nonneg n, by omega⟩, ?_⟩
  conv => whnf
  refine CallK.go [] (GCall.args (f63 l (row.take n) hl (take_row hw n)) ?hh) rfl rfl rfl rfl rfl ?_
  case hh => exact allLe2 (RepLe.refl _) (PLe.rep (takeRow row n hn))
  conv => whnf
  refine ⟨fun b1 => ?_, fun b1 => ?_⟩
  · have hd : (chainF l (row.take n)).2.2 ≠ 0 := by
      have b1 : iEq (chainF l (row.take n)).2.2 0 = false := by simpa using b1
      rw [iEq_f] at b1; exact b1
    obtain ⟨e1, e2⟩ := part_bad hd
    conv => whnf
    refine ⟨fun c1 => ?_, fun c1 => ?_⟩
    · conv => whnf
      refine ⟨fun c2 => ?_, fun c2 => ?_⟩
      · conv => whnf
        exact ⟨[], _, _, _, rfl, rfl, rfl, RepLe.vb (by rw [e1, e2, iEq_t]; rfl), trivial⟩
      · rw [e1, iEq_same] at c2; cases c2
    · rw [e1, iEq_same] at c1; cases c1
  have hd : (chainF l (row.take n)).2.2 = 0 := by
    have b1 : iEq (chainF l (row.take n)).2.2 0 = true := by simpa using b1
    rw [iEq_t] at b1; exact b1
  have e1 := part_good hn hd
  have hle := chainF_le (chainF l (row.take n)).1 (row.drop n)
  rw [List.length_drop] at hle
  have hfa := chainF_fit hl (take_row hw n)
  have hfm := chainF_fit hl hw
  clear b1
  conv => whnf
  refine ⟨⟨Int.natCast_nonneg n, by omega, Int.le_refl _⟩, ?_⟩
  conv => whnf
  refine CallK.go [] (GCall.args (f63 (chainF l (row.take n)).1 (row.drop n) hfa (drop_row hw n)) ?hh) rfl rfl rfl rfl rfl ?_
  case hh => exact allLe2 (RepLe.refl _) (PLe.rep (dropRow row n))
  conv => whnf
  refine ⟨fun c1 => ?_, fun c1 => ?_⟩
  · conv => whnf
    intro z hz
    have hy := wrap64_eq hz (by omega) (by omega)
    clear hz
    subst hy
    conv => whnf
    refine ⟨fun c2 => ?_, fun c2 => ?_⟩
    · conv => whnf
      refine CallK.lent (f18 (chainF l row).1 (chainF (chainF l (row.take n)).1 (row.drop n)).1 hfm.ok) rfl ?_
      conv => whnf
      exact ⟨[], _, _, _, rfl, rfl, rfl, RepLe.vb (by rw [e1]; exact sameFields_self _), trivial⟩
    · rw [e1, iEq_f] at c2
      exact absurd (by simp; omega) c2
  · rw [e1, iEq_same] at c1; cases c1
end Go.Proofs.Ytoophkcicdbnfaa
