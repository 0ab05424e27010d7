/- One less, as the program does it. -/
import Derived.Test.YtoophkcicdbnfaaAI
import Derived.Test.YtoophkcicdbnfaaAA
set_option linter.unusedVariables false
set_option linter.unusedSimpArgs false
namespace Go.Proofs.Ytoophkcicdbnfaa
open Go Go.Av
set_option maxRecDepth 100000
set_option maxHeartbeats 1000000

/-! ### A right list is sorted -/
theorem right_step {l : List SField} (h : rightFields l = true) {i : Nat} (hi : i < l.length) : fieldOk (l.getD i noField) = true ∧ (0 < i → lessRef (l.getD (i - 1) noField).place (l.getD i noField).place = true) := by
  unfold rightFields at h
  rw [Bool.and_eq_true, allUpto_iff] at h
  have := h.2 i (Nat.zero_le _) (by omega)
  unfold rightStep at this
  rw [Bool.and_eq_true, Bool.or_eq_true] at this
  refine ⟨this.1, fun h0 => ?_⟩
  rcases this.2 with h2 | h2
  · rw [iEq_t] at h2; omega
  · exact h2
theorem right_sorted {l : List SField} (h : rightFields l = true) : ∀ (b : Nat), b < l.length → ∀ a, a < b → lessRef (l.getD a noField).place (l.getD b noField).place = true
  | 0, _, a, ha => by omega
  | b + 1, hb, a, ha => by
    have h1 := (right_step h hb).2 (by omega)
    rw [Nat.add_sub_cancel] at h1
    rcases Nat.lt_or_ge a b with h2 | h2
    · exact less_trans (right_sorted h b (by omega) a h2) h1
    · have : a = b := by omega
      subst this; exact h1
theorem right_one {l : List SField} (h : rightFields l = true) {a b : Nat} (ha : a < l.length) (hb : b < l.length) (he : (l.getD a noField).place = (l.getD b noField).place) : a = b := by
  rcases Nat.lt_trichotomy a b with h1 | h1 | h1
  · have := right_sorted h b hb a h1; rw [he, less_irrefl] at this; cases this
  · exact h1
  · have := right_sorted h a ha b h1; rw [he, less_irrefl] at this; cases this
theorem getD_mem {l : List SField} {x : SField} (h : x ∈ l) : ∃ i, i < l.length ∧ l.getD i noField = x := by
  obtain ⟨i, hi, rfl⟩ := List.mem_iff_getElem.1 h
  exact ⟨i, hi, by rw [List.getD_eq_getElem?_getD, List.getElem?_eq_getElem hi]; rfl⟩
theorem notAt_erase {l : List SField} {r : SRef} (h : rightFields l = true) {j : Nat} (hp : placeIn l r = some j) : notAt l r = l.eraseIdx j := by
  obtain ⟨_, hj, hpj, _⟩ := findUpto_some _ _ _ _ hp
  have hj : j < l.length := by omega
  have hpl : (l.getD j noField).place = r := same_ref.1 hpj
  have hl : l = l.take j ++ l.getD j noField :: l.drop (j + 1) := by
    rw [List.getD_eq_getElem?_getD, List.getElem?_eq_getElem hj]
    exact (List.take_append_drop j l).symm.trans (by rw [List.drop_eq_getElem_cons hj]; rfl)
  have other : ∀ i, i < l.length → i ≠ j → sameRef (l.getD i noField).place r = false := by
    intro i hi hne
    cases hs : sameRef (l.getD i noField).place r with
    | false => rfl
    | true => exact absurd (right_one h hi hj ((same_ref.1 hs).trans hpl.symm)) hne
  rw [List.eraseIdx_eq_take_drop_succ]
  unfold notAt
  conv => lhs; rw [hl]
  rw [List.filter_append, List.filter_cons, hpl, same_ref.2 rfl]
  have h1 : (l.take j).filter (fun f => !sameRef f.place r) = l.take j := by
    rw [List.filter_eq_self]
    intro x hx
    obtain ⟨i, hi, rfl⟩ := List.mem_iff_getElem.1 hx
    have hij : i < j := by simp at hi; omega
    have := other i (by omega) (by omega)
    rw [List.getD_eq_getElem?_getD, List.getElem?_eq_getElem (by omega)] at this
    simpa using this
  have h2 : (l.drop (j + 1)).filter (fun f => !sameRef f.place r) = l.drop (j + 1) := by
    rw [List.filter_eq_self]
    intro x hx
    obtain ⟨i, hi, rfl⟩ := List.mem_iff_getElem.1 hx
    have hi2 : j + 1 + i < l.length := by simp at hi; omega
    have := other (j + 1 + i) hi2 (by omega)
    rw [List.getD_eq_getElem?_getD, List.getElem?_eq_getElem hi2] at this
    simpa using this
  rw [h1, h2]
  rfl

/-- A row whose first elements are a list's. -/
def delF (el : List SField) : Nat → Nat → PV := fun a b => if a < el.length then at_ .any (fieldCells (el.getD a noField)) b else .any
theorem del_row (l : List SField) {i : Nat} (hi : i < l.length) {hi0 lo L : Nat} (h1 : hi0 = i) (h2 : lo = i + 1) (h3 : L = l.length - 1) :
    BlkLe (.row 30 7 l.length (tailF L (moveF hi0 lo l.length fun a => at_ .any (fieldCells (l.getD a noField))))) (.row 30 7 l.length (delF (l.eraseIdx i))) := by
  subst h1 h2 h3
  have hel : (l.eraseIdx hi0).length = l.length - 1 := by rw [List.length_eraseIdx, if_pos hi]
  have blt : ∀ {x y : Nat}, x < y → Nat.blt x y = true := fun h => Nat.ble_eq_true_of_le h
  have bge : ∀ {x y : Nat}, y ≤ x → Nat.blt x y = false := by
    intro x y h
    cases hbb : Nat.blt x y with
    | false => rfl
    | true => have : x < y := Nat.le_of_ble_eq_true hbb; omega
  refine BlkLe.rowLe rfl fun a b ha hb => ?_
  unfold tailF delF
  rcases Nat.lt_or_ge a (l.length - 1) with h | h
  · rw [blt h, if_pos (by omega)]
    refine PLe.of ?_
    show moveF hi0 (hi0 + 1) l.length (fun a => at_ .any (fieldCells (l.getD a noField))) a b = _
    unfold moveF
    rcases Nat.lt_or_ge a hi0 with h4 | h4
    · rw [blt h4, show (l.eraseIdx hi0).getD a noField = l.getD a noField by rw [List.getD_eq_getElem?_getD, List.getElem?_eraseIdx, if_pos h4, List.getD_eq_getElem?_getD]]
    · rw [bge h4, blt (show a < hi0 + (l.length - (hi0 + 1)) by omega), show hi0 + 1 + (a - hi0) = a + 1 by omega, show (l.eraseIdx hi0).getD a noField = l.getD (a + 1) noField by rw [List.getD_eq_getElem?_getD, List.getElem?_eraseIdx, if_neg (by omega), List.getD_eq_getElem?_getD]]
  · rw [bge h, if_neg (by omega)]
    exact PLe.refl _

theorem f82 (l : List SField) (i : Nat) (hi : i < l.length) (hl : fitFields l) : GCall Try.prog 82 [.sl 0, .p (.val (.int .i64 (i : Int))), .p (.val (.int .i64 ((i : Int) + 1)))] [rowFields l] (.psl 0 (l.length - 1)) [some (.row 30 7 l.length (delF (l.eraseIdx i)))] := by
  have hlen := hl.1
  refine gcode hT hM Try.func82 rfl rfl (rv := [(6, none)]) rfl rfl rfl fun G hG => ?_
  conv => whnf
  refine ⟨⟨by omega, by omega, by omega, by omega, Int.le_refl _⟩, ?_⟩
  conv => whnf
  refine ⟨fun h => ?_, fun h => ?_⟩
  · rw [iEq_t] at h; omega
  conv => whnf
  refine ⟨⟨by omega, by omega, by omega⟩, ?_⟩
  conv => whnf
  refine ⟨⟨by omega, by omega, by omega⟩, ?_⟩
  conv => whnf
  refine ⟨(show (i : Int).toNat ≤ ((i : Int) + 1).toNat by omega), ?_⟩
  conv => whnf
  refine ⟨rfl, ?_⟩
  conv => whnf
  refine ⟨⟨Int.natCast_nonneg _, by omega, rfl⟩, ?_⟩
  conv => whnf
  exact ⟨[], _, _, _, rfl, rfl, rfl, (show RepLe (.psl 0 ((i : Int).toNat + (l.length - ((i : Int) + 1).toNat))) (.psl 0 (l.length - 1)) from RepLe.of (by rw [show (i : Int).toNat + (l.length - ((i : Int) + 1).toNat) = l.length - 1 by omega])), del_row l hi (Int.toNat_natCast i) (by omega) (by omega), trivial⟩

theorem f29 (l : List SField) (r : SRef) (hl : fitFields l) : PCall Try.prog 29 [encFields l, encRef r] (encTake (withoutF l r)) [] := by
  have hlen := hl.1
  refine gcode hT hM Try.func29 rfl rfl (rv := [(4, none), (5, none)]) rfl rfl rfl fun G hG => ?_
  conv => whnf
  refine CallK.lent (f33 l hl.ok) rfl ?_
  conv => whnf
  refine ⟨fun h1 => ?_, fun h1 => ?_⟩
  · have h1 : rightFields l = false := by simpa using h1
    conv => whnf
    exact ⟨[], _, _, _, rfl, rfl, rfl, by unfold withoutF; rw [h1]; exact nil_take, trivial⟩
  have h1 : rightFields l = true := by simpa using h1
  conv => whnf
  refine CallK.lent (f81 l r hl.ok) rfl ?_
  conv => whnf
  cases hp : placeIn l r with
  | none =>
    have hw : withoutF l r = ([], 6) := by unfold withoutF; rw [h1, hp]; rfl
    refine ⟨fun h2 => ?_, fun h2 => ?_⟩
    · conv => whnf
      exact ⟨[], _, _, _, rfl, rfl, rfl, by rw [hw]; exact nil_take, trivial⟩
    · rw [iLt_f] at h2
      have h2 : (0 : Int) ≤ -1 := h2
      omega
  | some j =>
    have hw : withoutF l r = (l.eraseIdx j, 0) := by unfold withoutF; rw [h1, hp]; show (notAt l r, (0 : Int)) = _; rw [notAt_erase h1 hp]
    obtain ⟨_, hj, _, _⟩ := findUpto_some _ _ _ _ hp
    have hj : j < l.length := by omega
    refine ⟨fun h2 => ?_, fun h2 => ?_⟩
    · rw [iLt_t] at h2
      have h2 : ((j : Nat) : Int) < 0 := h2
      omega
    clear h1 h2
    conv => whnf
    refine CallK.go [] (f27 l hl) rfl rfl rfl rfl rfl ?_
    conv => whnf
    intro z hz
    have hz : z = wrapO .i64 (((j : Nat) : Int) + 1) := hz
    have hy := wrap64_eq hz (by omega) (by omega)
    clear hz
    subst hy
    conv => whnf
    refine CallK.go [24584] (f82 l j hj hl) rfl rfl rfl rfl rfl ?_
    conv => whnf
    have hel : (l.eraseIdx j).length = l.length - 1 := by rw [List.length_eraseIdx, if_pos hj]
    exact ⟨[], _, _, _, rfl, rfl, rfl, by
      rw [hw]
      exact RepLe.tup2 (PLe.rep (PLe.rows hel.symm fun a b ha hb => by unfold delF; rw [if_pos (by omega)])) (RepLe.refl _), trivial⟩
end Go.Proofs.Ytoophkcicdbnfaa
