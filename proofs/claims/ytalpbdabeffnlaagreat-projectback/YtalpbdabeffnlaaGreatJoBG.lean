import Derived.Test.YtalpbdabeffnlaaGreatJoV
import Derived.Test.YtalpbdabeffnlaaGreatJoBE
/- A lens turned twice. -/
set_option linter.unusedVariables false
set_option linter.unusedSimpArgs false
namespace Go.Proofs.YtalpbdabeffnlaaGreat
open Go Go.Av
set_option maxRecDepth 100000

theorem nameOk_ne {s : ByteArray} (h : nameOk s = true) : sEq s noS = false := by
  rw [size_empty, iLe_f]
  simp only [nameOk, Bool.and_eq_true] at h
  exact iLt_t.1 h.1.1.1

theorem turn_ok (x : SLens) (h : lensOk x = true) : lensOk (turnOf x) = true := by
  have hk := kind_range h
  have hne := @nameOk_ne
  rcases hk with hk | hk | hk | hk | hk | hk | hk | hk | hk | hk
  all_goals
    simp [lensOk, restOk, kindOk, sameLens, partsOf, bareOf, iEq_d, iLe_d, hk, sameRef_self, sameField_self, samePairs_self, sEq_self, placeOk] at h
    simp [turnOf, lensOk, restOk, kindOk, sameLens, partsOf, bareOf, iEq_d, iLe_d, hk, sameRef_self, sameField_self, samePairs_self, sEq_self, placeOk]
    try (simp only [convOk, Bool.and_eq_true] at h ⊢)
    try grind
theorem turn_twice (x : SLens) (h : lensOk x = true) : sameLens (turnOf (turnOf x)) x = true := by
  have hk := kind_range h
  rcases hk with hk | hk | hk | hk | hk | hk | hk | hk | hk | hk
  all_goals
    simp [lensOk, restOk, kindOk, sameLens, partsOf, bareOf, iEq_d, iLe_d, hk, sameRef_self, sameField_self, samePairs_self, sEq_self, placeOk] at h
    simp [turnOf, sameLens, sameRef, iEq_d, hk, sameField_self, samePairs_self, sEq_self]
    try rw [sEq_comm]
    try grind

def lawOf (x : SLens) : Bool :=
  heavyLens x || (!iEq (inverse x).2 0 || (lensOk (inverse x).1 && (iEq (inverse (inverse x).1).2 0 && sameLens (inverse (inverse x).1).1 x)))
theorem law_true (x : SLens) : lawOf x = true := by
  unfold lawOf
  cases h : lensOk x with
  | false => simp [inverse, h, iEq_d]
  | true => simp [inverse, h, turn_ok x h, turn_twice x h, iEq_self]
theorem turn_fit (x : SLens) (h : fitLens x) : fitLens (turnOf x) := by
  unfold turnOf
  repeat' (split; exact h)
  split
  · exact ⟨h.1, h.2.2, h.2.1⟩
  · exact h
theorem inverse_fit (x : SLens) (h : fitLens x) : fitLens (inverse x).1 := by
  unfold inverse
  split
  · exact turn_fit x h
  · exact ⟨Nat.zero_le _, Nat.zero_le _, Nat.zero_le _⟩
end Go.Proofs.YtalpbdabeffnlaaGreat

/- There and back: the plain law, kind by kind. -/
set_option linter.unusedVariables false
set_option linter.unusedSimpArgs false
namespace Go.Proofs.YtalpbdabeffnlaaGreat
open Go Go.Av
set_option maxRecDepth 100000

theorem strs_eq {a b : List ByteArray} (h : sameStrs a b = true) : a = b := by
  unfold sameStrs at h
  rw [Bool.and_eq_true, allUpto_iff] at h
  have hl : a.length = b.length := by simpa using h.1
  refine List.ext_getElem hl fun i h1 h2 => ?_
  have := sEq_t.1 (h.2 i (Nat.zero_le _) (by omega))
  rw [List.getD_eq_getElem?_getD, List.getD_eq_getElem?_getD, List.getElem?_eq_getElem h1, List.getElem?_eq_getElem h2] at this
  exact this
theorem field_eq {a b : SField} (h : sameField a b = true) : a = b := by
  unfold sameField at h
  simp only [Bool.and_eq_true, iEq_t, sEq_t] at h
  obtain ⟨h1, h2, h3, h4, h5⟩ := h
  have h1 := same_ref.1 h1
  have h5 := strs_eq h5
  cases a; cases b; simp at h1 h2 h3 h4 h5; simp [h1, h2, h3, h4, h5]
theorem place_self (f : SField) {r : SRef} (h : f.place = r) : { f with place := r } = f := by subst h; rfl
/-- Found where it was put. -/
theorem at_put {l : List SField} {f : SField} (h : rightFields l = true) (hp : placeIn l f.place = none) : (putIn l f).getD (gapOf l f) noField = f := by
  rw [put_get l f (gap_facts h hp).1, if_neg (by omega), if_pos rfl]
theorem with_zero {l : List SField} {f : SField} (h : iEq (withF l f).2 0 = true) : rightFields l = true ∧ fieldOk f = true ∧ placeIn l f.place = none ∧ l.length ≤ 15 ∧ withF l f = (putIn l f, 0) := by
  rcases with_cases l f with ⟨_, h2⟩ | h2
  · rw [iEq_t] at h; exact absurd h h2
  · exact h2
/-- One goes, one comes; and back. -/
theorem one_one {l : List SField} {x y : SLens} {r s : SRef} (hy : lensOk y = true) (gx : goesOf x = [r]) (cx : comesOf x = [s]) (gy : goesOf y = [s]) (cy : comesOf y = [r])
    (ht : ∀ f, f.place = r → fieldOk f = true → (turnedOf x [f]).2 = true → ∃ g0 h0, (turnedOf x [f]).1 = [g0] ∧ turnedOf y [{ g0 with place := s }] = ([h0], true) ∧ { h0 with place := r } = f)
    (h0 : (applyF l x).2 = 0) : applyF (applyF l x).1 y = (l, 0) := by
  obtain ⟨k1, k2⟩ := apply_ok h0
  have e : applyF l x = (match takeAll l [r] l [] with | none => ([], 16) | some (rest, was) => if (turnedOf x was).2 then putAll [s] (turnedOf x was).1 rest else ([], 16)) := by
    unfold applyF; rw [k1, k2, gx, cx]; rfl
  cases hp : placeIn l r with
  | none =>
    have : applyF l x = ([], 16) := by rw [e]; unfold takeAll; rw [hp]
    rw [this] at h0; exact absurd h0 (show ¬ (16 : Int) = 0 by decide)
  | some j =>
    obtain ⟨_, hj, hpj, _⟩ := findUpto_some _ _ _ _ hp
    have hj : j < l.length := by omega
    have hpl := same_ref.1 hpj
    have e2 : applyF l x = if (turnedOf x [l.getD j noField]).2 then putAll [s] (turnedOf x [l.getD j noField]).1 (withoutF l r).1 else ([], 16) := by
      rw [e]; unfold takeAll; rw [hp]; rfl
    cases ht1 : (turnedOf x [l.getD j noField]).2 with
    | false =>
      rw [e2, ht1] at h0; exact absurd h0 (show ¬ (16 : Int) = 0 by decide)
    | true =>
      obtain ⟨g0, h1, t1, t2, t3⟩ := ht _ hpl (right_step k2 hj).1 ht1
      rw [ht1, t1] at e2
      have e3 : applyF l x = if iEq (withF (withoutF l r).1 { g0 with place := s }).2 0 then ((withF (withoutF l r).1 { g0 with place := s }).1, 0) else ([], 16) := e2
      cases hz : iEq (withF (withoutF l r).1 { g0 with place := s }).2 0 with
      | false => rw [e3, hz] at h0; exact absurd h0 (show ¬ (16 : Int) = 0 by decide)
      | true =>
        obtain ⟨q1, q2, q3, q4, q5⟩ := with_zero hz
        rw [hz, q5] at e3
        have e3 : applyF l x = (putIn (withoutF l r).1 { g0 with place := s }, 0) := e3
        rw [e3]
        have hm := put_right q1 q2 q3 q4
        have hpp : placeIn (putIn (withoutF l r).1 { g0 with place := s }) s = some (gapOf (withoutF l r).1 { g0 with place := s }) := put_place q1 q3
        have hwo : withoutF (putIn (withoutF l r).1 { g0 with place := s }) s = ((withoutF l r).1, 0) := without_put q1 q2 q3 q4
        have hat := at_put q1 q3
        have hback := with_without k2 hp
        rw [← t3] at hback
        show applyF (putIn (withoutF l r).1 { g0 with place := s }) y = (l, 0)
        unfold applyF
        rw [hm, hy, gy, cy]
        unfold takeAll
        rw [hpp]
        show (if (turnedOf y [(putIn (withoutF l r).1 { g0 with place := s }).getD (gapOf (withoutF l r).1 { g0 with place := s }) noField]).2 then putAll [r] (turnedOf y [(putIn (withoutF l r).1 { g0 with place := s }).getD (gapOf (withoutF l r).1 { g0 with place := s }) noField]).1 (withoutF (putIn (withoutF l r).1 { g0 with place := s }) s).1 else ([], 16)) = _
        rw [hat, t2, hwo]
        show (if iEq (withF (withoutF l r).1 { h1 with place := r }).2 0 then ((withF (withoutF l r).1 { h1 with place := r }).1, (0 : Int)) else ([], 16)) = _
        rw [hback, iEq_same]
        rfl
end Go.Proofs.YtalpbdabeffnlaaGreat

/- There and back: the kinds. -/
set_option linter.unusedVariables false
set_option linter.unusedSimpArgs false
namespace Go.Proofs.YtalpbdabeffnlaaGreat
open Go Go.Av
set_option maxRecDepth 100000

theorem kinds (a : Int) {b : Int} (h : iEq b a = true) (c : Int) (hc : a ≠ c) : iEq b c = false := iEq_ne c h hc
/-- What a right field of a kind has not. -/
theorem plain_field {f : SField} (h : fieldOk f = true) : (iEq f.kind 3 = false → f.cases = []) ∧ (iEq f.kind 1 = false → f.worth = 0) ∧ (iEq f.kind 4 = true → f.dflt = noS) ∧ (iEq f.kind 1 = true → f.dflt = noS ∧ iLe f.worth 1048576 = true) := by
  unfold fieldOk at h
  simp only [Bool.and_eq_true, Bool.or_eq_true] at h
  obtain ⟨_, h1, h2, h3⟩ := h
  refine ⟨fun h => ?_, fun h => ?_, fun h => ?_, fun h => ?_⟩
  · rcases h1 with h1 | h1
    · rw [h] at h1; cases h1
    · have h1 : iLt 0 (f.cases.length : Int) = false := by simpa using h1
      rw [iLt_f] at h1
      exact List.length_eq_zero_iff.1 (by omega)
  · rcases h2 with h2 | h2
    · rw [h] at h2; cases h2
    · exact iEq_t.1 h2
  · rw [kinds 4 h 1 (by decide), kinds 4 h 2 (by decide), kinds 4 h 3 (by decide), h] at h3
    exact sEq_t.1 (by simpa using h3)
  · rw [h] at h3
    rw [if_pos rfl] at h3
    simp only [Bool.and_eq_true, sEq_t] at h3
    exact ⟨h3.1, h3.2.2⟩
theorem goes_one {x : SLens} (h : lensOk x = true) (h2 : iEq x.kind 2 = false) (h3 : iEq x.kind 3 = false) (h9 : iEq x.kind 9 = false) : goesOf x = [x.place] := by
  unfold goesOf; rw [h, h2, h3, h9]; rfl
theorem was_one {x : SLens} {was : List SField} (h2 : iEq x.kind 2 = false) (h3 : iEq x.kind 3 = false) (h6 : iEq x.kind 6 = false) (h9 : iEq x.kind 9 = false) (h7 : iEq x.kind 7 = false) (h10 : iEq x.kind 10 = false) (h8 : iEq x.kind 8 = false) : turnedOf x was = (was, true) := by
  unfold turnedOf; rw [h2, h3, h6, h9, h7, h10, h8]; rfl
theorem was_moved {x : SLens} (was : List SField) (k : Int) (hk : iEq x.kind k = true) (hkk : k = 1 ∨ k = 4 ∨ k = 5) : turnedOf x was = (was, true) := by
  rcases hkk with rfl | rfl | rfl
  · exact was_one (kinds 1 hk 2 (by decide)) (kinds 1 hk 3 (by decide)) (kinds 1 hk 6 (by decide)) (kinds 1 hk 9 (by decide)) (kinds 1 hk 7 (by decide)) (kinds 1 hk 10 (by decide)) (kinds 1 hk 8 (by decide))
  · exact was_one (kinds 4 hk 2 (by decide)) (kinds 4 hk 3 (by decide)) (kinds 4 hk 6 (by decide)) (kinds 4 hk 9 (by decide)) (kinds 4 hk 7 (by decide)) (kinds 4 hk 10 (by decide)) (kinds 4 hk 8 (by decide))
  · exact was_one (kinds 5 hk 2 (by decide)) (kinds 5 hk 3 (by decide)) (kinds 5 hk 6 (by decide)) (kinds 5 hk 9 (by decide)) (kinds 5 hk 7 (by decide)) (kinds 5 hk 10 (by decide)) (kinds 5 hk 8 (by decide))
theorem flat_facts {x : SLens} (h : lensOk x = true) (h5 : iEq x.kind 5 = true) : x.place.group = noS := by
  unfold lensOk restOk kindOk at h
  rw [kinds 5 h5 2 (by decide), kinds 5 h5 3 (by decide), kinds 5 h5 1 (by decide), kinds 5 h5 4 (by decide), h5] at h
  simp at h
  exact sEq_t.1 h.2.2.2.2.1
theorem two_facts {x : SLens} (h : lensOk x = true) (h5 : iEq x.kind 6 = true ∨ iEq x.kind 9 = true) : x.name ≠ x.other := by
  unfold lensOk restOk kindOk at h
  have hh : (iEq x.kind 6 || iEq x.kind 9) = true := by rcases h5 with h | h <;> simp [h]
  have k2 : iEq x.kind 2 = false := by rcases h5 with h | h; exact kinds 6 h 2 (by decide); exact kinds 9 h 2 (by decide)
  have k3 : iEq x.kind 3 = false := by rcases h5 with h | h; exact kinds 6 h 3 (by decide); exact kinds 9 h 3 (by decide)
  have k1 : iEq x.kind 1 = false := by rcases h5 with h | h; exact kinds 6 h 1 (by decide); exact kinds 9 h 1 (by decide)
  have k4 : iEq x.kind 4 = false := by rcases h5 with h | h; exact kinds 6 h 4 (by decide); exact kinds 9 h 4 (by decide)
  have k5 : iEq x.kind 5 = false := by rcases h5 with h | h; exact kinds 6 h 5 (by decide); exact kinds 9 h 5 (by decide)
  rw [k2, k3, k1, k4, k5] at h
  simp only [Bool.or_self, Bool.false_eq_true, if_false] at h
  rw [if_pos hh] at h
  simp at h
  exact fun e => by have := h.2.2.2.2.2.2.1; rw [e, sEq_self] at this; cases this
/-- Renamed, hoisted, plunged. -/
theorem back_moved {l : List SField} {x : SLens} (h0 : (applyF l x).2 = 0) (k : Int) (hk : iEq x.kind k = true) (hkk : k = 1 ∨ k = 4 ∨ k = 5) : applyF (applyF l x).1 (turnOf x) = (l, 0) := by
  have hx := (apply_ok h0).1
  have hy := turn_ok x hx
  rcases hkk with rfl | rfl | rfl
  · have hyk : iEq (turnOf x).kind 1 = true := by unfold turnOf; rw [hk]; exact hk
    have hp : (turnOf x).place = { x.place with name := x.name } := by unfold turnOf; rw [hk]; rfl
    have hn : (turnOf x).name = x.place.name := by unfold turnOf; rw [hk]; rfl
    refine one_one (r := x.place) (s := { x.place with name := x.name }) hy (goes_one hx (kinds 1 hk 2 (by decide)) (kinds 1 hk 3 (by decide)) (kinds 1 hk 9 (by decide)))
      (by unfold comesOf; rw [hx, kinds 1 hk 3 (by decide), kinds 1 hk 2 (by decide), hk]; rfl)
      (by rw [goes_one hy (kinds 1 hyk 2 (by decide)) (kinds 1 hyk 3 (by decide)) (kinds 1 hyk 9 (by decide)), hp])
      (by unfold comesOf; rw [hy, kinds 1 hyk 3 (by decide), kinds 1 hyk 2 (by decide), hyk, hp, hn]; rfl)
      (fun f hf _ _ => ⟨f, { f with place := { x.place with name := x.name } }, ?_, ?_, by rw [← hf]⟩) h0
    · rw [was_moved _ 1 hk (.inl rfl)]
    · rw [was_moved _ 1 hyk (.inl rfl)]
  · have k1 := kinds 4 hk 1 (by decide)
    have k2 := kinds 4 hk 2 (by decide)
    have k3 := kinds 4 hk 3 (by decide)
    have e : turnOf x = { x with kind := 5, name := x.place.group, place := { x.place with group := noS } } := by unfold turnOf; rw [k1, k2, k3, hk]; rfl
    have hyk : iEq (turnOf x).kind 5 = true := by rw [e]; exact iEq_same _
    have hp : (turnOf x).place = { x.place with group := noS } := by rw [e]
    have hn : (turnOf x).name = x.place.group := by rw [e]
    refine one_one (r := x.place) (s := { x.place with group := noS }) hy (goes_one hx k2 k3 (kinds 4 hk 9 (by decide)))
      (by unfold comesOf; rw [hx, k3, k2, k1, hk]; rfl)
      (by rw [goes_one hy (kinds 5 hyk 2 (by decide)) (kinds 5 hyk 3 (by decide)) (kinds 5 hyk 9 (by decide)), hp])
      (by unfold comesOf; rw [hy, kinds 5 hyk 3 (by decide), kinds 5 hyk 2 (by decide), kinds 5 hyk 1 (by decide), kinds 5 hyk 4 (by decide), hyk, hp, hn]; rfl)
      (fun f hf _ _ => ⟨f, { f with place := { x.place with group := noS } }, ?_, ?_, by rw [← hf]⟩) h0
    · rw [was_moved _ 4 hk (.inr (.inl rfl))]
    · rw [was_moved _ 5 hyk (.inr (.inr rfl))]
  · have k1 := kinds 5 hk 1 (by decide)
    have k2 := kinds 5 hk 2 (by decide)
    have k3 := kinds 5 hk 3 (by decide)
    have k4 := kinds 5 hk 4 (by decide)
    have hg := flat_facts hx hk
    have e : turnOf x = { x with kind := 4, name := noS, place := { x.place with group := x.name } } := by unfold turnOf; rw [k1, k2, k3, k4, hk]; rfl
    have hyk : iEq (turnOf x).kind 4 = true := by rw [e]; exact iEq_same _
    have hp : (turnOf x).place = { x.place with group := x.name } := by rw [e]
    refine one_one (r := x.place) (s := { x.place with group := x.name }) hy (goes_one hx k2 k3 (kinds 5 hk 9 (by decide)))
      (by unfold comesOf; rw [hx, k3, k2, k1, k4, hk]; rfl)
      (by rw [goes_one hy (kinds 4 hyk 2 (by decide)) (kinds 4 hyk 3 (by decide)) (kinds 4 hyk 9 (by decide)), hp])
      (by unfold comesOf; rw [hy, kinds 4 hyk 3 (by decide), kinds 4 hyk 2 (by decide), kinds 4 hyk 1 (by decide), hyk, hp, ← hg]; rfl)
      (fun f hf _ _ => ⟨f, { f with place := { x.place with group := x.name } }, ?_, ?_, by rw [← hf]⟩) h0
    · rw [was_moved _ 5 hk (.inr (.inr rfl))]
    · rw [was_moved _ 4 hyk (.inr (.inl rfl))]
end Go.Proofs.YtalpbdabeffnlaaGreat
