import Derived.Test.YtalpbdabeffnlaaGreatJoQ
/- There and back: the plain law, kind by kind. -/
set_option linter.unusedVariables false
set_option linter.unusedSimpArgs false
namespace Go.Proofs.YtalpbdabeffnlaaGreat
open Go Go.Av
set_option maxRecDepth 100000

theorem strs_eq {a b : List ByteArray} (h : sameStrs a b = true) : a = b := by
  unfold sameStrs at h
  rw [Bool.and_eq_true, allUpto_iff] at h
  have hl : a.length = b.length := by simpa using h.1
  refine List.ext_getElem hl fun i h1 h2 => ?_
  have := sEq_t.1 (h.2 i (Nat.zero_le _) (by omega))
  rw [List.getD_eq_getElem?_getD, List.getD_eq_getElem?_getD, List.getElem?_eq_getElem h1, List.getElem?_eq_getElem h2] at this
  exact this
theorem field_eq {a b : SField} (h : sameField a b = true) : a = b := by
  unfold sameField at h
  simp only [Bool.and_eq_true, iEq_t, sEq_t] at h
  obtain ⟨h1, h2, h3, h4, h5⟩ := h
  have h1 := same_ref.1 h1
  have h5 := strs_eq h5
  cases a; cases b; simp at h1 h2 h3 h4 h5; simp [h1, h2, h3, h4, h5]
theorem place_self (f : SField) {r : SRef} (h : f.place = r) : { f with place := r } = f := by subst h; rfl
/-- Found where it was put. -/
theorem at_put {l : List SField} {f : SField} (h : rightFields l = true) (hp : placeIn l f.place = none) : (putIn l f).getD (gapOf l f) noField = f := by
  rw [put_get l f (gap_facts h hp).1, if_neg (by omega), if_pos rfl]
theorem with_zero {l : List SField} {f : SField} (h : iEq (withF l f).2 0 = true) : rightFields l = true ∧ fieldOk f = true ∧ placeIn l f.place = none ∧ l.length ≤ 15 ∧ withF l f = (putIn l f, 0) := by
  rcases with_cases l f with ⟨_, h2⟩ | h2
  · rw [iEq_t] at h; exact absurd h h2
  · exact h2
/-- One goes, one comes; and back. -/
theorem one_one {l : List SField} {x y : SLens} {r s : SRef} (hy : lensOk y = true) (gx : goesOf x = [r]) (cx : comesOf x = [s]) (gy : goesOf y = [s]) (cy : comesOf y = [r])
    (ht : ∀ f, f.place = r → fieldOk f = true → (turnedOf x [f]).2 = true → ∃ g0 h0, (turnedOf x [f]).1 = [g0] ∧ turnedOf y [{ g0 with place := s }] = ([h0], true) ∧ { h0 with place := r } = f)
    (h0 : (applyF l x).2 = 0) : applyF (applyF l x).1 y = (l, 0) := by
  obtain ⟨k1, k2⟩ := apply_ok h0
  have e : applyF l x = (match takeAll l [r] l [] with | none => ([], 16) | some (rest, was) => if (turnedOf x was).2 then putAll [s] (turnedOf x was).1 rest else ([], 16)) := by
    unfold applyF; rw [k1, k2, gx, cx]; rfl
  cases hp : placeIn l r with
  | none =>
    have : applyF l x = ([], 16) := by rw [e]; unfold takeAll; rw [hp]
    rw [this] at h0; exact absurd h0 (show ¬ (16 : Int) = 0 by decide)
  | some j =>
    obtain ⟨_, hj, hpj, _⟩ := findUpto_some _ _ _ _ hp
    have hj : j < l.length := by omega
    have hpl := same_ref.1 hpj
    have e2 : applyF l x = if (turnedOf x [l.getD j noField]).2 then putAll [s] (turnedOf x [l.getD j noField]).1 (withoutF l r).1 else ([], 16) := by
      rw [e]; unfold takeAll; rw [hp]; rfl
    cases ht1 : (turnedOf x [l.getD j noField]).2 with
    | false =>
      rw [e2, ht1] at h0; exact absurd h0 (show ¬ (16 : Int) = 0 by decide)
    | true =>
      obtain ⟨g0, h1, t1, t2, t3⟩ := ht _ hpl (right_step k2 hj).1 ht1
      rw [ht1, t1] at e2
      have e3 : applyF l x = if iEq (withF (withoutF l r).1 { g0 with place := s }).2 0 then ((withF (withoutF l r).1 { g0 with place := s }).1, 0) else ([], 16) := e2
      cases hz : iEq (withF (withoutF l r).1 { g0 with place := s }).2 0 with
      | false => rw [e3, hz] at h0; exact absurd h0 (show ¬ (16 : Int) = 0 by decide)
      | true =>
        obtain ⟨q1, q2, q3, q4, q5⟩ := with_zero hz
        rw [hz, q5] at e3
        have e3 : applyF l x = (putIn (withoutF l r).1 { g0 with place := s }, 0) := e3
        rw [e3]
        have hm := put_right q1 q2 q3 q4
        have hpp : placeIn (putIn (withoutF l r).1 { g0 with place := s }) s = some (gapOf (withoutF l r).1 { g0 with place := s }) := put_place q1 q3
        have hwo : withoutF (putIn (withoutF l r).1 { g0 with place := s }) s = ((withoutF l r).1, 0) := without_put q1 q2 q3 q4
        have hat := at_put q1 q3
        have hback := with_without k2 hp
        rw [← t3] at hback
        show applyF (putIn (withoutF l r).1 { g0 with place := s }) y = (l, 0)
        unfold applyF
        rw [hm, hy, gy, cy]
        unfold takeAll
        rw [hpp]
        show (if (turnedOf y [(putIn (withoutF l r).1 { g0 with place := s }).getD (gapOf (withoutF l r).1 { g0 with place := s }) noField]).2 then putAll [r] (turnedOf y [(putIn (withoutF l r).1 { g0 with place := s }).getD (gapOf (withoutF l r).1 { g0 with place := s }) noField]).1 (withoutF (putIn (withoutF l r).1 { g0 with place := s }) s).1 else ([], 16)) = _
        rw [hat, t2, hwo]
        show (if iEq (withF (withoutF l r).1 { h1 with place := r }).2 0 then ((withF (withoutF l r).1 { h1 with place := r }).1, (0 : Int)) else ([], 16)) = _
        rw [hback, iEq_same]
        rfl
end Go.Proofs.YtalpbdabeffnlaaGreat

/- There and back: the kinds. -/
set_option linter.unusedVariables false
set_option linter.unusedSimpArgs false
namespace Go.Proofs.YtalpbdabeffnlaaGreat
open Go Go.Av
set_option maxRecDepth 100000

theorem kinds (a : Int) {b : Int} (h : iEq b a = true) (c : Int) (hc : a ≠ c) : iEq b c = false := iEq_ne c h hc
/-- What a right field of a kind has not. -/
theorem plain_field {f : SField} (h : fieldOk f = true) : (iEq f.kind 3 = false → f.cases = []) ∧ (iEq f.kind 1 = false → f.worth = 0) ∧ (iEq f.kind 4 = true → f.dflt = noS) ∧ (iEq f.kind 1 = true → f.dflt = noS ∧ iLe f.worth 1048576 = true) := by
  unfold fieldOk at h
  simp only [Bool.and_eq_true, Bool.or_eq_true] at h
  obtain ⟨_, h1, h2, h3⟩ := h
  refine ⟨fun h => ?_, fun h => ?_, fun h => ?_, fun h => ?_⟩
  · rcases h1 with h1 | h1
    · rw [h] at h1; cases h1
    · have h1 : iLt 0 (f.cases.length : Int) = false := by simpa using h1
      rw [iLt_f] at h1
      exact List.length_eq_zero_iff.1 (by omega)
  · rcases h2 with h2 | h2
    · rw [h] at h2; cases h2
    · exact iEq_t.1 h2
  · rw [kinds 4 h 1 (by decide), kinds 4 h 2 (by decide), kinds 4 h 3 (by decide), h] at h3
    exact sEq_t.1 (by simpa using h3)
  · rw [h] at h3
    rw [if_pos rfl] at h3
    simp only [Bool.and_eq_true, sEq_t] at h3
    exact ⟨h3.1, h3.2.2⟩
theorem goes_one {x : SLens} (h : lensOk x = true) (h2 : iEq x.kind 2 = false) (h3 : iEq x.kind 3 = false) (h9 : iEq x.kind 9 = false) : goesOf x = [x.place] := by
  unfold goesOf; rw [h, h2, h3, h9]; rfl
theorem was_one {x : SLens} {was : List SField} (h2 : iEq x.kind 2 = false) (h3 : iEq x.kind 3 = false) (h6 : iEq x.kind 6 = false) (h9 : iEq x.kind 9 = false) (h7 : iEq x.kind 7 = false) (h10 : iEq x.kind 10 = false) (h8 : iEq x.kind 8 = false) : turnedOf x was = (was, true) := by
  unfold turnedOf; rw [h2, h3, h6, h9, h7, h10, h8]; rfl
theorem was_moved {x : SLens} (was : List SField) (k : Int) (hk : iEq x.kind k = true) (hkk : k = 1 ∨ k = 4 ∨ k = 5) : turnedOf x was = (was, true) := by
  rcases hkk with rfl | rfl | rfl
  · exact was_one (kinds 1 hk 2 (by decide)) (kinds 1 hk 3 (by decide)) (kinds 1 hk 6 (by decide)) (kinds 1 hk 9 (by decide)) (kinds 1 hk 7 (by decide)) (kinds 1 hk 10 (by decide)) (kinds 1 hk 8 (by decide))
  · exact was_one (kinds 4 hk 2 (by decide)) (kinds 4 hk 3 (by decide)) (kinds 4 hk 6 (by decide)) (kinds 4 hk 9 (by decide)) (kinds 4 hk 7 (by decide)) (kinds 4 hk 10 (by decide)) (kinds 4 hk 8 (by decide))
  · exact was_one (kinds 5 hk 2 (by decide)) (kinds 5 hk 3 (by decide)) (kinds 5 hk 6 (by decide)) (kinds 5 hk 9 (by decide)) (kinds 5 hk 7 (by decide)) (kinds 5 hk 10 (by decide)) (kinds 5 hk 8 (by decide))
theorem flat_facts {x : SLens} (h : lensOk x = true) (h5 : iEq x.kind 5 = true) : x.place.group = noS := by
  unfold lensOk restOk kindOk at h
  rw [kinds 5 h5 2 (by decide), kinds 5 h5 3 (by decide), kinds 5 h5 1 (by decide), kinds 5 h5 4 (by decide), h5] at h
  simp at h
  exact sEq_t.1 h.2.2.2.2.1
theorem two_facts {x : SLens} (h : lensOk x = true) (h5 : iEq x.kind 6 = true ∨ iEq x.kind 9 = true) : x.name ≠ x.other := by
  unfold lensOk restOk kindOk at h
  have hh : (iEq x.kind 6 || iEq x.kind 9) = true := by rcases h5 with h | h <;> simp [h]
  have k2 : iEq x.kind 2 = false := by rcases h5 with h | h; exact kinds 6 h 2 (by decide); exact kinds 9 h 2 (by decide)
  have k3 : iEq x.kind 3 = false := by rcases h5 with h | h; exact kinds 6 h 3 (by decide); exact kinds 9 h 3 (by decide)
  have k1 : iEq x.kind 1 = false := by rcases h5 with h | h; exact kinds 6 h 1 (by decide); exact kinds 9 h 1 (by decide)
  have k4 : iEq x.kind 4 = false := by rcases h5 with h | h; exact kinds 6 h 4 (by decide); exact kinds 9 h 4 (by decide)
  have k5 : iEq x.kind 5 = false := by rcases h5 with h | h; exact kinds 6 h 5 (by decide); exact kinds 9 h 5 (by decide)
  rw [k2, k3, k1, k4, k5] at h
  simp only [Bool.or_self, Bool.false_eq_true, if_false] at h
  rw [if_pos hh] at h
  simp at h
  exact fun e => by have := h.2.2.2.2.2.2.1; rw [e, sEq_self] at this; cases this
/-- Renamed, hoisted, plunged. -/
theorem back_moved {l : List SField} {x : SLens} (h0 : (applyF l x).2 = 0) (k : Int) (hk : iEq x.kind k = true) (hkk : k = 1 ∨ k = 4 ∨ k = 5) : applyF (applyF l x).1 (turnOf x) = (l, 0) := by
  have hx := (apply_ok h0).1
  have hy := turn_ok x hx
  rcases hkk with rfl | rfl | rfl
  · have hyk : iEq (turnOf x).kind 1 = true := by unfold turnOf; rw [hk]; exact hk
    have hp : (turnOf x).place = { x.place with name := x.name } := by unfold turnOf; rw [hk]; rfl
    have hn : (turnOf x).name = x.place.name := by unfold turnOf; rw [hk]; rfl
    refine one_one (r := x.place) (s := { x.place with name := x.name }) hy (goes_one hx (kinds 1 hk 2 (by decide)) (kinds 1 hk 3 (by decide)) (kinds 1 hk 9 (by decide)))
      (by unfold comesOf; rw [hx, kinds 1 hk 3 (by decide), kinds 1 hk 2 (by decide), hk]; rfl)
      (by rw [goes_one hy (kinds 1 hyk 2 (by decide)) (kinds 1 hyk 3 (by decide)) (kinds 1 hyk 9 (by decide)), hp])
      (by unfold comesOf; rw [hy, kinds 1 hyk 3 (by decide), kinds 1 hyk 2 (by decide), hyk, hp, hn]; rfl)
      (fun f hf _ _ => ⟨f, { f with place := { x.place with name := x.name } }, ?_, ?_, by rw [← hf]⟩) h0
    · rw [was_moved _ 1 hk (.inl rfl)]
    · rw [was_moved _ 1 hyk (.inl rfl)]
  · have k1 := kinds 4 hk 1 (by decide)
    have k2 := kinds 4 hk 2 (by decide)
    have k3 := kinds 4 hk 3 (by decide)
    have e : turnOf x = { x with kind := 5, name := x.place.group, place := { x.place with group := noS } } := by unfold turnOf; rw [k1, k2, k3, hk]; rfl
    have hyk : iEq (turnOf x).kind 5 = true := by rw [e]; exact iEq_same _
    have hp : (turnOf x).place = { x.place with group := noS } := by rw [e]
    have hn : (turnOf x).name = x.place.group := by rw [e]
    refine one_one (r := x.place) (s := { x.place with group := noS }) hy (goes_one hx k2 k3 (kinds 4 hk 9 (by decide)))
      (by unfold comesOf; rw [hx, k3, k2, k1, hk]; rfl)
      (by rw [goes_one hy (kinds 5 hyk 2 (by decide)) (kinds 5 hyk 3 (by decide)) (kinds 5 hyk 9 (by decide)), hp])
      (by unfold comesOf; rw [hy, kinds 5 hyk 3 (by decide), kinds 5 hyk 2 (by decide), kinds 5 hyk 1 (by decide), kinds 5 hyk 4 (by decide), hyk, hp, hn]; rfl)
      (fun f hf _ _ => ⟨f, { f with place := { x.place with group := noS } }, ?_, ?_, by rw [← hf]⟩) h0
    · rw [was_moved _ 4 hk (.inr (.inl rfl))]
    · rw [was_moved _ 5 hyk (.inr (.inr rfl))]
  · have k1 := kinds 5 hk 1 (by decide)
    have k2 := kinds 5 hk 2 (by decide)
    have k3 := kinds 5 hk 3 (by decide)
    have k4 := kinds 5 hk 4 (by decide)
    have hg := flat_facts hx hk
    have e : turnOf x = { x with kind := 4, name := noS, place := { x.place with group := x.name } } := by unfold turnOf; rw [k1, k2, k3, k4, hk]; rfl
    have hyk : iEq (turnOf x).kind 4 = true := by rw [e]; exact iEq_same _
    have hp : (turnOf x).place = { x.place with group := x.name } := by rw [e]
    refine one_one (r := x.place) (s := { x.place with group := x.name }) hy (goes_one hx k2 k3 (kinds 5 hk 9 (by decide)))
      (by unfold comesOf; rw [hx, k3, k2, k1, k4, hk]; rfl)
      (by rw [goes_one hy (kinds 4 hyk 2 (by decide)) (kinds 4 hyk 3 (by decide)) (kinds 4 hyk 9 (by decide)), hp])
      (by unfold comesOf; rw [hy, kinds 4 hyk 3 (by decide), kinds 4 hyk 2 (by decide), kinds 4 hyk 1 (by decide), hyk, hp, ← hg]; rfl)
      (fun f hf _ _ => ⟨f, { f with place := { x.place with group := x.name } }, ?_, ?_, by rw [← hf]⟩) h0
    · rw [was_moved _ 5 hk (.inr (.inr rfl))]
    · rw [was_moved _ 4 hyk (.inr (.inl rfl))]
end Go.Proofs.YtalpbdabeffnlaaGreat

/- There and back: the other kinds. -/
set_option linter.unusedVariables false
set_option linter.unusedSimpArgs false
namespace Go.Proofs.YtalpbdabeffnlaaGreat
open Go Go.Av
set_option maxRecDepth 100000

/-- Loosened, tightened, recast. -/
theorem back_cast {l : List SField} {x : SLens} (h0 : (applyF l x).2 = 0) (k : Int) (hk : iEq x.kind k = true) (hkk : k = 7 ∨ k = 10 ∨ k = 8) : applyF (applyF l x).1 (turnOf x) = (l, 0) := by
  have hx := (apply_ok h0).1
  have hy := turn_ok x hx
  rcases hkk with rfl | rfl | rfl
  · have k1 := kinds 7 hk 1 (by decide)
    have k2 := kinds 7 hk 2 (by decide)
    have k3 := kinds 7 hk 3 (by decide)
    have k4 := kinds 7 hk 4 (by decide)
    have k5 := kinds 7 hk 5 (by decide)
    have k6 := kinds 7 hk 6 (by decide)
    have k9 := kinds 7 hk 9 (by decide)
    have e : turnOf x = { x with kind := 10 } := by unfold turnOf; rw [k1, k2, k3, k4, k5, k6, k9, hk]; rfl
    have hyk : iEq (turnOf x).kind 10 = true := by rw [e]; exact iEq_same _
    have hp : (turnOf x).place = x.place := by rw [e]
    have ho : (turnOf x).other = x.other := by rw [e]
    have y1 := kinds 10 hyk 1 (by decide)
    have y2 := kinds 10 hyk 2 (by decide)
    have y3 := kinds 10 hyk 3 (by decide)
    have y4 := kinds 10 hyk 4 (by decide)
    have y5 := kinds 10 hyk 5 (by decide)
    have y6 := kinds 10 hyk 6 (by decide)
    have y7 := kinds 10 hyk 7 (by decide)
    have y9 := kinds 10 hyk 9 (by decide)
    refine one_one (r := x.place) (s := x.place) hy (goes_one hx k2 k3 k9)
      (by unfold comesOf; rw [hx, k3, k2, k1, k4, k5, k6]; rfl)
      (by rw [goes_one hy y2 y3 y9, hp])
      (by unfold comesOf; rw [hy, y3, y2, y1, y4, y5, y6, hp]; rfl)
      (fun f hf hok ht => ?_) h0
    have et : turnedOf x [f] = ([{ noField with kind := 4 }], iEq f.kind 2 && sEq f.dflt x.other) := by unfold turnedOf; rw [k2, k3, k6, k9, hk]; rfl
    rw [et] at ht ⊢
    simp only [Bool.and_eq_true] at ht
    obtain ⟨t1, t2⟩ := ht
    obtain ⟨p1, p2, p3, p4⟩ := plain_field hok
    refine ⟨_, { noField with kind := 2, dflt := x.other }, rfl, ?_, ?_⟩
    · unfold turnedOf
      rw [y2, y3, y6, y9, y7, hyk, ho]
      show (_, iEq 4 4) = _
      rw [iEq_same]
    · have a1 := iEq_t.1 t1
      have a2 := sEq_t.1 t2
      have a3 := p1 (kinds 2 t1 3 (by decide))
      have a4 := p2 (kinds 2 t1 1 (by decide))
      cases f
      simp only at a1 a2 a3 a4 hf
      subst a1 a2 a3 a4 hf
      rfl
  · have k1 := kinds 10 hk 1 (by decide)
    have k2 := kinds 10 hk 2 (by decide)
    have k3 := kinds 10 hk 3 (by decide)
    have k4 := kinds 10 hk 4 (by decide)
    have k5 := kinds 10 hk 5 (by decide)
    have k6 := kinds 10 hk 6 (by decide)
    have k7 := kinds 10 hk 7 (by decide)
    have k9 := kinds 10 hk 9 (by decide)
    have e : turnOf x = { x with kind := 7 } := by unfold turnOf; rw [k1, k2, k3, k4, k5, k6, k9, k7, hk]; rfl
    have hyk : iEq (turnOf x).kind 7 = true := by rw [e]; exact iEq_same _
    have hp : (turnOf x).place = x.place := by rw [e]
    have ho : (turnOf x).other = x.other := by rw [e]
    have y1 := kinds 7 hyk 1 (by decide)
    have y2 := kinds 7 hyk 2 (by decide)
    have y3 := kinds 7 hyk 3 (by decide)
    have y4 := kinds 7 hyk 4 (by decide)
    have y5 := kinds 7 hyk 5 (by decide)
    have y6 := kinds 7 hyk 6 (by decide)
    have y9 := kinds 7 hyk 9 (by decide)
    refine one_one (r := x.place) (s := x.place) hy (goes_one hx k2 k3 k9)
      (by unfold comesOf; rw [hx, k3, k2, k1, k4, k5, k6]; rfl)
      (by rw [goes_one hy y2 y3 y9, hp])
      (by unfold comesOf; rw [hy, y3, y2, y1, y4, y5, y6, hp]; rfl)
      (fun f hf hok ht => ?_) h0
    have et : turnedOf x [f] = ([{ noField with kind := 2, dflt := x.other }], iEq f.kind 4) := by unfold turnedOf; rw [k2, k3, k6, k9, k7, hk]; rfl
    rw [et] at ht ⊢
    have t1 : iEq f.kind 4 = true := ht
    obtain ⟨p1, p2, p3, p4⟩ := plain_field hok
    refine ⟨_, { noField with kind := 4 }, rfl, ?_, ?_⟩
    · unfold turnedOf
      rw [y2, y3, y6, y9, hyk, ho]
      show (_, iEq 2 2 && sEq x.other x.other) = _
      rw [iEq_same, sEq_self]
      rfl
    · have a1 := iEq_t.1 t1
      have a2 := p3 t1
      have a3 := p1 (kinds 4 t1 3 (by decide))
      have a4 := p2 (kinds 4 t1 1 (by decide))
      cases f
      simp only at a1 a2 a3 a4 hf
      subst a1 a2 a3 a4 hf
      rfl
  · have k1 := kinds 8 hk 1 (by decide)
    have k2 := kinds 8 hk 2 (by decide)
    have k3 := kinds 8 hk 3 (by decide)
    have k4 := kinds 8 hk 4 (by decide)
    have k5 := kinds 8 hk 5 (by decide)
    have k6 := kinds 8 hk 6 (by decide)
    have k7 := kinds 8 hk 7 (by decide)
    have k9 := kinds 8 hk 9 (by decide)
    have k10 := kinds 8 hk 10 (by decide)
    have e : turnOf x = { x with name := x.other, other := x.name, forth := x.back, back := x.forth } := by unfold turnOf; rw [k1, k2, k3, k4, k5, k6, k9, k7, k10, hk]; rfl
    have hyk : iEq (turnOf x).kind 8 = true := by rw [e]; exact hk
    have hp : (turnOf x).place = x.place := by rw [e]
    have ho : (turnOf x).other = x.name := by rw [e]
    have hn : (turnOf x).name = x.other := by rw [e]
    have hfo : (turnOf x).forth = x.back := by rw [e]
    have hba : (turnOf x).back = x.forth := by rw [e]
    have y1 := kinds 8 hyk 1 (by decide)
    have y2 := kinds 8 hyk 2 (by decide)
    have y3 := kinds 8 hyk 3 (by decide)
    have y4 := kinds 8 hyk 4 (by decide)
    have y5 := kinds 8 hyk 5 (by decide)
    have y6 := kinds 8 hyk 6 (by decide)
    have y7 := kinds 8 hyk 7 (by decide)
    have y9 := kinds 8 hyk 9 (by decide)
    have y10 := kinds 8 hyk 10 (by decide)
    refine one_one (r := x.place) (s := x.place) hy (goes_one hx k2 k3 k9)
      (by unfold comesOf; rw [hx, k3, k2, k1, k4, k5, k6]; rfl)
      (by rw [goes_one hy y2 y3 y9, hp])
      (by unfold comesOf; rw [hy, y3, y2, y1, y4, y5, y6, hp]; rfl)
      (fun f hf hok ht => ?_) h0
    have et : turnedOf x [f] = ([{ noField with kind := 3, dflt := x.other, cases := fromsOf x.back }], iEq f.kind 3 && (sEq f.dflt x.name && sameStrs f.cases (fromsOf x.forth))) := by unfold turnedOf; rw [k2, k3, k6, k9, k7, k10, hk]; rfl
    rw [et] at ht ⊢
    simp only [Bool.and_eq_true] at ht
    obtain ⟨t1, t2, t3⟩ := ht
    obtain ⟨p1, p2, p3, p4⟩ := plain_field hok
    refine ⟨_, { noField with kind := 3, dflt := x.name, cases := fromsOf x.forth }, rfl, ?_, ?_⟩
    · unfold turnedOf
      rw [y2, y3, y6, y9, y7, y10, hyk, ho, hn, hfo, hba]
      show (_, iEq 3 3 && (sEq x.other x.other && sameStrs (fromsOf x.back) (fromsOf x.back))) = _
      rw [iEq_same, sEq_self, sameStrs_self]
      rfl
    · have a1 := iEq_t.1 t1
      have a2 := sEq_t.1 t2
      have a3 := strs_eq t3
      have a4 := p2 (kinds 3 t1 1 (by decide))
      cases f
      simp only at a1 a2 a3 a4 hf
      subst a1 a2 a3 a4 hf
      rfl
/-- Added, removed. -/
theorem back_add {l : List SField} {x : SLens} (h0 : (applyF l x).2 = 0) (hk : iEq x.kind 2 = true) : applyF (applyF l x).1 (turnOf x) = (l, 0) := by
  obtain ⟨hx, hl⟩ := apply_ok h0
  have hy := turn_ok x hx
  have k1 := kinds 2 hk 1 (by decide)
  have k3 := kinds 2 hk 3 (by decide)
  have e : turnOf x = { x with kind := 3 } := by unfold turnOf; rw [k1, hk]; rfl
  have hyk : iEq (turnOf x).kind 3 = true := by rw [e]; exact iEq_same _
  have hf : (turnOf x).field = x.field := by rw [e]
  have ea : applyF l x = if iEq (withF l x.field).2 0 then ((withF l x.field).1, 0) else ([], 16) := by
    unfold applyF
    rw [hl, hx, show goesOf x = [] by unfold goesOf; rw [hx, hk]; rfl, show comesOf x = [x.field.place] by unfold comesOf; rw [hx, k3, hk]; rfl]
    show (if (turnedOf x []).2 then putAll [x.field.place] (turnedOf x []).1 l else ([], 16)) = _
    rw [show turnedOf x [] = ([x.field], true) by unfold turnedOf; rw [hk]; rfl]
    rfl
  cases hz : iEq (withF l x.field).2 0 with
  | false => rw [ea, hz] at h0; exact absurd h0 (show ¬ (16 : Int) = 0 by decide)
  | true =>
    obtain ⟨q1, q2, q3, q4, q5⟩ := with_zero hz
    rw [hz, q5] at ea
    have ea : applyF l x = (putIn l x.field, 0) := ea
    rw [ea]
    show applyF (putIn l x.field) (turnOf x) = (l, 0)
    unfold applyF
    rw [put_right q1 q2 q3 q4, hy, show goesOf (turnOf x) = [x.field.place] by unfold goesOf; rw [hy, kinds 3 hyk 2 (by decide), hyk, hf]; rfl, comes_nil hyk]
    unfold takeAll
    rw [put_place q1 q3]
    show (if (turnedOf (turnOf x) [(putIn l x.field).getD (gapOf l x.field) noField]).2 then ((withoutF (putIn l x.field) x.field.place).1, 0) else (([] : List SField), (16 : Int))) = _
    rw [at_put q1 q3, without_put q1 q2 q3 q4, show turnedOf (turnOf x) [x.field] = ([], sameField x.field (turnOf x).field) by unfold turnedOf; rw [kinds 3 hyk 2 (by decide), hyk]; rfl, hf, sameField_self]
    rfl
theorem back_rem {l : List SField} {x : SLens} (h0 : (applyF l x).2 = 0) (hk : iEq x.kind 3 = true) : applyF (applyF l x).1 (turnOf x) = (l, 0) := by
  obtain ⟨hx, hl⟩ := apply_ok h0
  have hy := turn_ok x hx
  have k1 := kinds 3 hk 1 (by decide)
  have k2 := kinds 3 hk 2 (by decide)
  have e : turnOf x = { x with kind := 2 } := by unfold turnOf; rw [k1, k2, hk]; rfl
  have hyk : iEq (turnOf x).kind 2 = true := by rw [e]; exact iEq_same _
  have hf : (turnOf x).field = x.field := by rw [e]
  have ea : applyF l x = match takeAll l [x.field.place] l [] with | none => ([], 16) | some (rest, was) => if (turnedOf x was).2 then (rest, 0) else ([], 16) := by
    unfold applyF
    rw [hl, hx, show goesOf x = [x.field.place] by unfold goesOf; rw [hx, k2, hk]; rfl, comes_nil hk]
    rfl
  cases hp : placeIn l x.field.place with
  | none =>
    have : applyF l x = ([], 16) := by rw [ea]; unfold takeAll; rw [hp]
    rw [this] at h0; exact absurd h0 (show ¬ (16 : Int) = 0 by decide)
  | some j =>
    have e2 : applyF l x = if sameField (l.getD j noField) x.field then ((withoutF l x.field.place).1, 0) else ([], 16) := by
      rw [ea]; unfold takeAll; rw [hp]
      show (if (turnedOf x [l.getD j noField]).2 then ((withoutF l x.field.place).1, (0 : Int)) else ([], 16)) = _
      rw [show turnedOf x [l.getD j noField] = ([], sameField (l.getD j noField) x.field) by unfold turnedOf; rw [k2, hk]; rfl]
    cases hs : sameField (l.getD j noField) x.field with
    | false => rw [e2, hs] at h0; exact absurd h0 (show ¬ (16 : Int) = 0 by decide)
    | true =>
      rw [hs] at e2
      have e2 : applyF l x = ((withoutF l x.field.place).1, 0) := e2
      have hw := with_without hl hp
      rw [field_eq hs] at hw
      rw [e2]
      show applyF (withoutF l x.field.place).1 (turnOf x) = (l, 0)
      unfold applyF
      rw [without_right hl, hy, show goesOf (turnOf x) = [] by unfold goesOf; rw [hy, hyk]; rfl, show comesOf (turnOf x) = [x.field.place] by unfold comesOf; rw [hy, kinds 2 hyk 3 (by decide), hyk, hf]; rfl]
      show (if (turnedOf (turnOf x) []).2 then putAll [x.field.place] (turnedOf (turnOf x) []).1 (withoutF l x.field.place).1 else ([], 16)) = _
      rw [show turnedOf (turnOf x) [] = ([x.field], true) by unfold turnedOf; rw [hyk, hf]; rfl]
      show (if iEq (withF (withoutF l x.field.place).1 x.field).2 0 then ((withF (withoutF l x.field.place).1 x.field).1, (0 : Int)) else ([], 16)) = _
      rw [hw, iEq_same]
      rfl
end Go.Proofs.YtalpbdabeffnlaaGreat
