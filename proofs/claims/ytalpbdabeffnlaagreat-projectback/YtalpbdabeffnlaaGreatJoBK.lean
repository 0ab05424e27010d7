import Derived.Test.YtalpbdabeffnlaaGreatJoBG
/- There and back: the other kinds. -/
set_option linter.unusedVariables false
set_option linter.unusedSimpArgs false
namespace Go.Proofs.YtalpbdabeffnlaaGreat
open Go Go.Av
set_option maxRecDepth 100000

/-- Loosened, tightened, recast. -/
theorem back_cast {l : List SField} {x : SLens} (h0 : (applyF l x).2 = 0) (k : Int) (hk : iEq x.kind k = true) (hkk : k = 7 ∨ k = 10 ∨ k = 8) : applyF (applyF l x).1 (turnOf x) = (l, 0) := by
  have hx := (apply_ok h0).1
  have hy := turn_ok x hx
  rcases hkk with rfl | rfl | rfl
  · have k1 := kinds 7 hk 1 (by decide)
    have k2 := kinds 7 hk 2 (by decide)
    have k3 := kinds 7 hk 3 (by decide)
    have k4 := kinds 7 hk 4 (by decide)
    have k5 := kinds 7 hk 5 (by decide)
    have k6 := kinds 7 hk 6 (by decide)
    have k9 := kinds 7 hk 9 (by decide)
    have e : turnOf x = { x with kind := 10 } := by unfold turnOf; rw [k1, k2, k3, k4, k5, k6, k9, hk]; rfl
    have hyk : iEq (turnOf x).kind 10 = true := by rw [e]; exact iEq_same _
    have hp : (turnOf x).place = x.place := by rw [e]
    have ho : (turnOf x).other = x.other := by rw [e]
    have y1 := kinds 10 hyk 1 (by decide)
    have y2 := kinds 10 hyk 2 (by decide)
    have y3 := kinds 10 hyk 3 (by decide)
    have y4 := kinds 10 hyk 4 (by decide)
    have y5 := kinds 10 hyk 5 (by decide)
    have y6 := kinds 10 hyk 6 (by decide)
    have y7 := kinds 10 hyk 7 (by decide)
    have y9 := kinds 10 hyk 9 (by decide)
    refine one_one (r := x.place) (s := x.place) hy (goes_one hx k2 k3 k9)
      (by unfold comesOf; rw [hx, k3, k2, k1, k4, k5, k6]; rfl)
      (by rw [goes_one hy y2 y3 y9, hp])
      (by unfold comesOf; rw [hy, y3, y2, y1, y4, y5, y6, hp]; rfl)
      (fun f hf hok ht => ?_) h0
    have et : turnedOf x [f] = ([{ noField with kind := 4 }], iEq f.kind 2 && sEq f.dflt x.other) := by unfold turnedOf; rw [k2, k3, k6, k9, hk]; rfl
    rw [et] at ht ⊢
    simp only [Bool.and_eq_true] at ht
    obtain ⟨t1, t2⟩ := ht
    obtain ⟨p1, p2, p3, p4⟩ := plain_field hok
    refine ⟨_, { noField with kind := 2, dflt := x.other }, rfl, ?_, ?_⟩
    · unfold turnedOf
      rw [y2, y3, y6, y9, y7, hyk, ho]
      show (_, iEq 4 4) = _
      rw [iEq_same]
    · have a1 := iEq_t.1 t1
      have a2 := sEq_t.1 t2
      have a3 := p1 (kinds 2 t1 3 (by decide))
      have a4 := p2 (kinds 2 t1 1 (by decide))
      cases f
      simp only at a1 a2 a3 a4 hf
      subst a1 a2 a3 a4 hf
      rfl
  · have k1 := kinds 10 hk 1 (by decide)
    have k2 := kinds 10 hk 2 (by decide)
    have k3 := kinds 10 hk 3 (by decide)
    have k4 := kinds 10 hk 4 (by decide)
    have k5 := kinds 10 hk 5 (by decide)
    have k6 := kinds 10 hk 6 (by decide)
    have k7 := kinds 10 hk 7 (by decide)
    have k9 := kinds 10 hk 9 (by decide)
    have e : turnOf x = { x with kind := 7 } := by unfold turnOf; rw [k1, k2, k3, k4, k5, k6, k9, k7, hk]; rfl
    have hyk : iEq (turnOf x).kind 7 = true := by rw [e]; exact iEq_same _
    have hp : (turnOf x).place = x.place := by rw [e]
    have ho : (turnOf x).other = x.other := by rw [e]
    have y1 := kinds 7 hyk 1 (by decide)
    have y2 := kinds 7 hyk 2 (by decide)
    have y3 := kinds 7 hyk 3 (by decide)
    have y4 := kinds 7 hyk 4 (by decide)
    have y5 := kinds 7 hyk 5 (by decide)
    have y6 := kinds 7 hyk 6 (by decide)
    have y9 := kinds 7 hyk 9 (by decide)
    refine one_one (r := x.place) (s := x.place) hy (goes_one hx k2 k3 k9)
      (by unfold comesOf; rw [hx, k3, k2, k1, k4, k5, k6]; rfl)
      (by rw [goes_one hy y2 y3 y9, hp])
      (by unfold comesOf; rw [hy, y3, y2, y1, y4, y5, y6, hp]; rfl)
      (fun f hf hok ht => ?_) h0
    have et : turnedOf x [f] = ([{ noField with kind := 2, dflt := x.other }], iEq f.kind 4) := by unfold turnedOf; rw [k2, k3, k6, k9, k7, hk]; rfl
    rw [et] at ht ⊢
    have t1 : iEq f.kind 4 = true := ht
    obtain ⟨p1, p2, p3, p4⟩ := plain_field hok
    refine ⟨_, { noField with kind := 4 }, rfl, ?_, ?_⟩
    · unfold turnedOf
      rw [y2, y3, y6, y9, hyk, ho]
      show (_, iEq 2 2 && sEq x.other x.other) = _
      rw [iEq_same, sEq_self]
      rfl
    · have a1 := iEq_t.1 t1
      have a2 := p3 t1
      have a3 := p1 (kinds 4 t1 3 (by decide))
      have a4 := p2 (kinds 4 t1 1 (by decide))
      cases f
      simp only at a1 a2 a3 a4 hf
      subst a1 a2 a3 a4 hf
      rfl
  · have k1 := kinds 8 hk 1 (by decide)
    have k2 := kinds 8 hk 2 (by decide)
    have k3 := kinds 8 hk 3 (by decide)
    have k4 := kinds 8 hk 4 (by decide)
    have k5 := kinds 8 hk 5 (by decide)
    have k6 := kinds 8 hk 6 (by decide)
    have k7 := kinds 8 hk 7 (by decide)
    have k9 := kinds 8 hk 9 (by decide)
    have k10 := kinds 8 hk 10 (by decide)
    have e : turnOf x = { x with name := x.other, other := x.name, forth := x.back, back := x.forth } := by unfold turnOf; rw [k1, k2, k3, k4, k5, k6, k9, k7, k10, hk]; rfl
    have hyk : iEq (turnOf x).kind 8 = true := by rw [e]; exact hk
    have hp : (turnOf x).place = x.place := by rw [e]
    have ho : (turnOf x).other = x.name := by rw [e]
    have hn : (turnOf x).name = x.other := by rw [e]
    have hfo : (turnOf x).forth = x.back := by rw [e]
    have hba : (turnOf x).back = x.forth := by rw [e]
    have y1 := kinds 8 hyk 1 (by decide)
    have y2 := kinds 8 hyk 2 (by decide)
    have y3 := kinds 8 hyk 3 (by decide)
    have y4 := kinds 8 hyk 4 (by decide)
    have y5 := kinds 8 hyk 5 (by decide)
    have y6 := kinds 8 hyk 6 (by decide)
    have y7 := kinds 8 hyk 7 (by decide)
    have y9 := kinds 8 hyk 9 (by decide)
    have y10 := kinds 8 hyk 10 (by decide)
    refine one_one (r := x.place) (s := x.place) hy (goes_one hx k2 k3 k9)
      (by unfold comesOf; rw [hx, k3, k2, k1, k4, k5, k6]; rfl)
      (by rw [goes_one hy y2 y3 y9, hp])
      (by unfold comesOf; rw [hy, y3, y2, y1, y4, y5, y6, hp]; rfl)
      (fun f hf hok ht => ?_) h0
    have et : turnedOf x [f] = ([{ noField with kind := 3, dflt := x.other, cases := fromsOf x.back }], iEq f.kind 3 && (sEq f.dflt x.name && sameStrs f.cases (fromsOf x.forth))) := by unfold turnedOf; rw [k2, k3, k6, k9, k7, k10, hk]; rfl
    rw [et] at ht ⊢
    simp only [Bool.and_eq_true] at ht
    obtain ⟨t1, t2, t3⟩ := ht
    obtain ⟨p1, p2, p3, p4⟩ := plain_field hok
    refine ⟨_, { noField with kind := 3, dflt := x.name, cases := fromsOf x.forth }, rfl, ?_, ?_⟩
    · unfold turnedOf
      rw [y2, y3, y6, y9, y7, y10, hyk, ho, hn, hfo, hba]
      show (_, iEq 3 3 && (sEq x.other x.other && sameStrs (fromsOf x.back) (fromsOf x.back))) = _
      rw [iEq_same, sEq_self, sameStrs_self]
      rfl
    · have a1 := iEq_t.1 t1
      have a2 := sEq_t.1 t2
      have a3 := strs_eq t3
      have a4 := p2 (kinds 3 t1 1 (by decide))
      cases f
      simp only at a1 a2 a3 a4 hf
      subst a1 a2 a3 a4 hf
      rfl
/-- Added, removed. -/
theorem back_add {l : List SField} {x : SLens} (h0 : (applyF l x).2 = 0) (hk : iEq x.kind 2 = true) : applyF (applyF l x).1 (turnOf x) = (l, 0) := by
  obtain ⟨hx, hl⟩ := apply_ok h0
  have hy := turn_ok x hx
  have k1 := kinds 2 hk 1 (by decide)
  have k3 := kinds 2 hk 3 (by decide)
  have e : turnOf x = { x with kind := 3 } := by unfold turnOf; rw [k1, hk]; rfl
  have hyk : iEq (turnOf x).kind 3 = true := by rw [e]; exact iEq_same _
  have hf : (turnOf x).field = x.field := by rw [e]
  have ea : applyF l x = if iEq (withF l x.field).2 0 then ((withF l x.field).1, 0) else ([], 16) := by
    unfold applyF
    rw [hl, hx, show goesOf x = [] by unfold goesOf; rw [hx, hk]; rfl, show comesOf x = [x.field.place] by unfold comesOf; rw [hx, k3, hk]; rfl]
    show (if (turnedOf x []).2 then putAll [x.field.place] (turnedOf x []).1 l else ([], 16)) = _
    rw [show turnedOf x [] = ([x.field], true) by unfold turnedOf; rw [hk]; rfl]
    rfl
  cases hz : iEq (withF l x.field).2 0 with
  | false => rw [ea, hz] at h0; exact absurd h0 (show ¬ (16 : Int) = 0 by decide)
  | true =>
    obtain ⟨q1, q2, q3, q4, q5⟩ := with_zero hz
    rw [hz, q5] at ea
    have ea : applyF l x = (putIn l x.field, 0) := ea
    rw [ea]
    show applyF (putIn l x.field) (turnOf x) = (l, 0)
    unfold applyF
    rw [put_right q1 q2 q3 q4, hy, show goesOf (turnOf x) = [x.field.place] by unfold goesOf; rw [hy, kinds 3 hyk 2 (by decide), hyk, hf]; rfl, comes_nil hyk]
    unfold takeAll
    rw [put_place q1 q3]
    show (if (turnedOf (turnOf x) [(putIn l x.field).getD (gapOf l x.field) noField]).2 then ((withoutF (putIn l x.field) x.field.place).1, 0) else (([] : List SField), (16 : Int))) = _
    rw [at_put q1 q3, without_put q1 q2 q3 q4, show turnedOf (turnOf x) [x.field] = ([], sameField x.field (turnOf x).field) by unfold turnedOf; rw [kinds 3 hyk 2 (by decide), hyk]; rfl, hf, sameField_self]
    rfl
theorem back_rem {l : List SField} {x : SLens} (h0 : (applyF l x).2 = 0) (hk : iEq x.kind 3 = true) : applyF (applyF l x).1 (turnOf x) = (l, 0) := by
  obtain ⟨hx, hl⟩ := apply_ok h0
  have hy := turn_ok x hx
  have k1 := kinds 3 hk 1 (by decide)
  have k2 := kinds 3 hk 2 (by decide)
  have e : turnOf x = { x with kind := 2 } := by unfold turnOf; rw [k1, k2, hk]; rfl
  have hyk : iEq (turnOf x).kind 2 = true := by rw [e]; exact iEq_same _
  have hf : (turnOf x).field = x.field := by rw [e]
  have ea : applyF l x = match takeAll l [x.field.place] l [] with | none => ([], 16) | some (rest, was) => if (turnedOf x was).2 then (rest, 0) else ([], 16) := by
    unfold applyF
    rw [hl, hx, show goesOf x = [x.field.place] by unfold goesOf; rw [hx, k2, hk]; rfl, comes_nil hk]
    rfl
  cases hp : placeIn l x.field.place with
  | none =>
    have : applyF l x = ([], 16) := by rw [ea]; unfold takeAll; rw [hp]
    rw [this] at h0; exact absurd h0 (show ¬ (16 : Int) = 0 by decide)
  | some j =>
    have e2 : applyF l x = if sameField (l.getD j noField) x.field then ((withoutF l x.field.place).1, 0) else ([], 16) := by
      rw [ea]; unfold takeAll; rw [hp]
      show (if (turnedOf x [l.getD j noField]).2 then ((withoutF l x.field.place).1, (0 : Int)) else ([], 16)) = _
      rw [show turnedOf x [l.getD j noField] = ([], sameField (l.getD j noField) x.field) by unfold turnedOf; rw [k2, hk]; rfl]
    cases hs : sameField (l.getD j noField) x.field with
    | false => rw [e2, hs] at h0; exact absurd h0 (show ¬ (16 : Int) = 0 by decide)
    | true =>
      rw [hs] at e2
      have e2 : applyF l x = ((withoutF l x.field.place).1, 0) := e2
      have hw := with_without hl hp
      rw [field_eq hs] at hw
      rw [e2]
      show applyF (withoutF l x.field.place).1 (turnOf x) = (l, 0)
      unfold applyF
      rw [without_right hl, hy, show goesOf (turnOf x) = [] by unfold goesOf; rw [hy, hyk]; rfl, show comesOf (turnOf x) = [x.field.place] by unfold comesOf; rw [hy, kinds 2 hyk 3 (by decide), hyk, hf]; rfl]
      show (if (turnedOf (turnOf x) []).2 then putAll [x.field.place] (turnedOf (turnOf x) []).1 (withoutF l x.field.place).1 else ([], 16)) = _
      rw [show turnedOf (turnOf x) [] = ([x.field], true) by unfold turnedOf; rw [hyk, hf]; rfl]
      show (if iEq (withF (withoutF l x.field.place).1 x.field).2 0 then ((withF (withoutF l x.field.place).1 x.field).1, (0 : Int)) else ([], 16)) = _
      rw [hw, iEq_same]
      rfl
end Go.Proofs.YtalpbdabeffnlaaGreat

/- There and back: spread and gathered; the law. -/
set_option linter.unusedVariables false
set_option linter.unusedSimpArgs false
namespace Go.Proofs.YtalpbdabeffnlaaGreat
open Go Go.Av
set_option maxRecDepth 100000

theorem find_at {m : List SField} (h : rightFields m = true) {j : Nat} (hj : j < m.length) {r : SRef} (hp : (m.getD j noField).place = r) : placeIn m r = some j := by
  cases q : placeIn m r with
  | none =>
    have := findUpto_none _ _ _ q j (Nat.zero_le _) (by omega)
    rw [hp, sameRef_self] at this
    cases this
  | some k =>
    obtain ⟨_, hk, hpk, _⟩ := findUpto_some _ _ _ _ q
    have := right_one h (by omega) hj ((same_ref.1 hpk).trans hp.symm)
    rw [this]
theorem find_mem {m : List SField} (h : rightFields m = true) {f : SField} (hf : f ∈ m) : ∃ j, placeIn m f.place = some j ∧ m.getD j noField = f := by
  obtain ⟨j, hj, e⟩ := getD_mem hf
  exact ⟨j, find_at h hj (by rw [e]), e⟩
theorem without_is {m : List SField} (h : rightFields m = true) {r : SRef} {j : Nat} (hp : placeIn m r = some j) : (withoutF m r).1 = notAt m r := by
  unfold withoutF; rw [h, hp]; rfl
theorem notAt_comm (m : List SField) (r s : SRef) : notAt (notAt m r) s = notAt (notAt m s) r := by
  unfold notAt
  rw [List.filter_filter, List.filter_filter]
  exact List.filter_congr fun f _ => Bool.and_comm _ _
theorem put_mem {l : List SField} {f g : SField} (h : g ∈ l ∨ g = f) : g ∈ putIn l f := by
  rw [(put_perm l f).mem_iff]
  rcases h with h | h
  · exact List.mem_append_left _ h
  · subst h; exact List.mem_append_right _ (List.mem_singleton.2 rfl)
theorem notAt_mem {l : List SField} {g : SField} {r : SRef} (h : g ∈ l) (hr : g.place ≠ r) : g ∈ notAt l r := by
  unfold notAt
  rw [List.mem_filter]
  refine ⟨h, ?_⟩
  cases q : sameRef g.place r with
  | false => rfl
  | true => exact absurd (same_ref.1 q) hr
theorem at_mem {l : List SField} {j : Nat} (h : j < l.length) : l.getD j noField ∈ l := by
  rw [List.getD_eq_getElem?_getD, List.getElem?_eq_getElem h]; exact List.getElem_mem h
theorem two_places {r : SRef} {a b : ByteArray} (h : a ≠ b) : ({ r with name := a } : SRef) ≠ { r with name := b } := fun e => h (by injection e)

theorem back_spread {l : List SField} {x : SLens} (h0 : (applyF l x).2 = 0) (hk : iEq x.kind 6 = true) : applyF (applyF l x).1 (turnOf x) = (l, 0) := by
  obtain ⟨hx, hl⟩ := apply_ok h0
  have hy := turn_ok x hx
  have k1 := kinds 6 hk 1 (by decide)
  have k2 := kinds 6 hk 2 (by decide)
  have k3 := kinds 6 hk 3 (by decide)
  have k4 := kinds 6 hk 4 (by decide)
  have k5 := kinds 6 hk 5 (by decide)
  have e : turnOf x = { x with kind := 9 } := by unfold turnOf; rw [k1, k2, k3, k4, k5, hk]; rfl
  have hyk : iEq (turnOf x).kind 9 = true := by rw [e]; exact iEq_same _
  have hp : (turnOf x).place = x.place := by rw [e]
  have ho : (turnOf x).other = x.other := by rw [e]
  have hn : (turnOf x).name = x.name := by rw [e]
  have hfa : (turnOf x).factor = x.factor := by rw [e]
  have y1 := kinds 9 hyk 1 (by decide)
  have y2 := kinds 9 hyk 2 (by decide)
  have y3 := kinds 9 hyk 3 (by decide)
  have y4 := kinds 9 hyk 4 (by decide)
  have y5 := kinds 9 hyk 5 (by decide)
  have y6 := kinds 9 hyk 6 (by decide)
  have hne := two_places (r := x.place) (two_facts hx (.inl hk))
  obtain ⟨s1, hs1⟩ : ∃ s, s = ({ x.place with name := x.name } : SRef) := ⟨_, rfl⟩
  obtain ⟨s2, hs2⟩ : ∃ s, s = ({ x.place with name := x.other } : SRef) := ⟨_, rfl⟩
  have hgx : goesOf x = [x.place] := goes_one hx k2 k3 (kinds 6 hk 9 (by decide))
  have hcx : comesOf x = [s1, s2] := by unfold comesOf; rw [hx, k3, k2, k1, k4, k5, hk, hs1, hs2]; rfl
  have hgy : goesOf (turnOf x) = [s1, s2] := by unfold goesOf twoOf; rw [hy, y2, y3, hyk, hp, hn, ho, hs1, hs2]; rfl
  have hcy : comesOf (turnOf x) = [x.place] := by unfold comesOf; rw [hy, y3, y2, y1, y4, y5, y6, hp]; rfl
  rw [← hs1, ← hs2] at hne
  cases hpl : placeIn l x.place with
  | none =>
    have : applyF l x = ([], 16) := by unfold applyF; rw [hl, hx, hgx]; unfold takeAll; rw [hpl]; rfl
    rw [this] at h0; exact absurd h0 (show ¬ (16 : Int) = 0 by decide)
  | some j =>
    obtain ⟨_, hj, hpj, _⟩ := findUpto_some _ _ _ _ hpl
    have hj : j < l.length := by omega
    have hfp := same_ref.1 hpj
    have hback := with_without hl hpl
    obtain ⟨f, hf⟩ : ∃ f, f = l.getD j noField := ⟨_, rfl⟩
    obtain ⟨rest, hrest⟩ : ∃ m, m = (withoutF l x.place).1 := ⟨_, rfl⟩
    obtain ⟨w, hw⟩ : ∃ w, w = wrapO .i64 (f.worth * x.factor) := ⟨_, rfl⟩
    have et : turnedOf x [f] = ([f, { f with worth := w }], iEq f.kind 1 && iLe w 1048576) := by unfold turnedOf; rw [k2, k3, hk, hw]; rfl
    have ea : applyF l x = if (iEq f.kind 1 && iLe w 1048576) then putAll [s1, s2] [f, { f with worth := w }] rest else ([], 16) := by
      unfold applyF
      rw [hl, hx, hgx, hcx]
      unfold takeAll
      rw [hpl]
      show (if (turnedOf x [l.getD j noField]).2 then putAll [s1, s2] (turnedOf x [l.getD j noField]).1 (withoutF l x.place).1 else ([], 16)) = _
      rw [← hf, et, ← hrest]
    rw [← hf, ← hrest] at hback
    cases ht : (iEq f.kind 1 && iLe w 1048576) with
    | false => rw [ea, ht] at h0; exact absurd h0 (show ¬ (16 : Int) = 0 by decide)
    | true =>
      rw [ht] at ea
      have ea : applyF l x = if iEq (withF rest { f with place := s1 }).2 0 then putAll [s2] [{ f with worth := w }] (withF rest { f with place := s1 }).1 else ([], 16) := ea
      cases hz : iEq (withF rest { f with place := s1 }).2 0 with
      | false => rw [ea, hz] at h0; exact absurd h0 (show ¬ (16 : Int) = 0 by decide)
      | true =>
        obtain ⟨q1, q2, q3, q4, q5⟩ := with_zero hz
        rw [hz, q5] at ea
        have ea : applyF l x = if iEq (withF (putIn rest { f with place := s1 }) { f with worth := w, place := s2 }).2 0 then ((withF (putIn rest { f with place := s1 }) { f with worth := w, place := s2 }).1, 0) else ([], 16) := ea
        obtain ⟨m1, hm1⟩ : ∃ m, m = putIn rest { f with place := s1 } := ⟨_, rfl⟩
        have hr1 := put_right q1 q2 q3 q4
        have hwo1 : (withoutF m1 s1).1 = rest := by rw [hm1]; exact congrArg Prod.fst (without_put q1 q2 q3 q4)
        have hp1 : placeIn m1 s1 = some (gapOf rest { f with place := s1 }) := by rw [hm1]; exact put_place q1 q3
        have hin1 : { f with place := s1 } ∈ m1 := by rw [hm1]; exact put_mem (.inr rfl)
        rw [← hm1] at ea hr1
        cases hz2 : iEq (withF m1 { f with worth := w, place := s2 }).2 0 with
        | false => rw [ea, hz2] at h0; exact absurd h0 (show ¬ (16 : Int) = 0 by decide)
        | true =>
          obtain ⟨p1, p2, p3, p4, p5⟩ := with_zero hz2
          rw [hz2, p5] at ea
          obtain ⟨m2, hm2⟩ : ∃ m, m = putIn m1 { f with worth := w, place := s2 } := ⟨_, rfl⟩
          have hr2 := put_right p1 p2 p3 p4
          have hwo2 : (withoutF m2 s2).1 = m1 := by rw [hm2]; exact congrArg Prod.fst (without_put p1 p2 p3 p4)
          have hp2 : placeIn m2 s2 = some (gapOf m1 { f with worth := w, place := s2 }) := by rw [hm2]; exact put_place p1 p3
          have hat2 : m2.getD (gapOf m1 { f with worth := w, place := s2 }) noField = { f with worth := w, place := s2 } := by rw [hm2]; exact at_put p1 p3
          have hin2 : { f with place := s1 } ∈ m2 := by rw [hm2]; exact put_mem (.inl hin1)
          have hin3 : ({ f with worth := w, place := s2 } : SField) ∈ m2 := by rw [hm2]; exact put_mem (.inr rfl)
          rw [← hm2] at ea hr2
          have ea : applyF l x = (m2, 0) := ea
          obtain ⟨i1, hi1, hg1⟩ := find_mem hr2 hin2
          have hi1 : placeIn m2 s1 = some i1 := hi1
          have hra := without_right hr2 s1
          have hina : ({ f with worth := w, place := s2 } : SField) ∈ (withoutF m2 s1).1 := by
            rw [without_is hr2 hi1]; exact notAt_mem hin3 (fun e => hne e.symm)
          obtain ⟨i2, hi2, hg2⟩ := find_mem hra hina
          have hi2 : placeIn (withoutF m2 s1).1 s2 = some i2 := hi2
          have hend : (withoutF (withoutF m2 s1).1 s2).1 = rest := by
            rw [without_is hra hi2, without_is hr2 hi1, notAt_comm, ← without_is hr2 hp2, hwo2, ← without_is hr1 hp1, hwo1]
          rw [ea]
          show applyF m2 (turnOf x) = (l, 0)
          unfold applyF
          rw [hr2, hy, hgy, hcy]
          unfold takeAll
          rw [hi1]
          unfold takeAll
          rw [hp2]
          show (if (turnedOf (turnOf x) [m2.getD i1 noField, m2.getD (gapOf m1 { f with worth := w, place := s2 }) noField]).2 then putAll [x.place] (turnedOf (turnOf x) [m2.getD i1 noField, m2.getD (gapOf m1 { f with worth := w, place := s2 }) noField]).1 (withoutF (withoutF m2 s1).1 s2).1 else (([] : List SField), (16 : Int))) = _
          rw [hend, hg1, hat2]
          have hk1 : iEq f.kind 1 = true := by rw [Bool.and_eq_true] at ht; exact ht.1
          rw [show turnedOf (turnOf x) [{ f with place := s1 }, { f with worth := w, place := s2 }] = ([{ f with place := s1 }], true) by
            unfold turnedOf
            rw [y2, y3, y6, hyk, hfa]
            show (_, iEq f.kind 1 && (iEq f.kind 1 && iEq w (wrapO .i64 (f.worth * x.factor)))) = _
            rw [hk1, ← hw, iEq_same]
            rfl]
          show (if iEq (withF rest { f with place := x.place }).2 0 then ((withF rest { f with place := x.place }).1, (0 : Int)) else ([], 16)) = _
          rw [place_self f (by rw [hf]; exact hfp), hback, iEq_same]
          rfl

theorem back_gather {l : List SField} {x : SLens} (h0 : (applyF l x).2 = 0) (hk : iEq x.kind 9 = true) : applyF (applyF l x).1 (turnOf x) = (l, 0) := by
  obtain ⟨hx, hl⟩ := apply_ok h0
  have hy := turn_ok x hx
  have k1 := kinds 9 hk 1 (by decide)
  have k2 := kinds 9 hk 2 (by decide)
  have k3 := kinds 9 hk 3 (by decide)
  have k4 := kinds 9 hk 4 (by decide)
  have k5 := kinds 9 hk 5 (by decide)
  have k6 := kinds 9 hk 6 (by decide)
  have e : turnOf x = { x with kind := 6 } := by unfold turnOf; rw [k1, k2, k3, k4, k5, k6, hk]; rfl
  have hyk : iEq (turnOf x).kind 6 = true := by rw [e]; exact iEq_same _
  have hp : (turnOf x).place = x.place := by rw [e]
  have ho : (turnOf x).other = x.other := by rw [e]
  have hn : (turnOf x).name = x.name := by rw [e]
  have hfa : (turnOf x).factor = x.factor := by rw [e]
  have y1 := kinds 6 hyk 1 (by decide)
  have y2 := kinds 6 hyk 2 (by decide)
  have y3 := kinds 6 hyk 3 (by decide)
  have y4 := kinds 6 hyk 4 (by decide)
  have y5 := kinds 6 hyk 5 (by decide)
  have y9 := kinds 6 hyk 9 (by decide)
  have hne := two_places (r := x.place) (two_facts hx (.inr hk))
  obtain ⟨s1, hs1⟩ : ∃ s, s = ({ x.place with name := x.name } : SRef) := ⟨_, rfl⟩
  obtain ⟨s2, hs2⟩ : ∃ s, s = ({ x.place with name := x.other } : SRef) := ⟨_, rfl⟩
  have hgx : goesOf x = [s1, s2] := by unfold goesOf twoOf; rw [hx, k2, k3, hk, hs1, hs2]; rfl
  have hcx : comesOf x = [x.place] := by unfold comesOf; rw [hx, k3, k2, k1, k4, k5, k6]; rfl
  have hgy : goesOf (turnOf x) = [x.place] := by rw [goes_one hy y2 y3 y9, hp]
  have hcy : comesOf (turnOf x) = [s1, s2] := by unfold comesOf twoOf; rw [hy, y3, y2, y1, y4, y5, hyk, hp, hn, ho, hs1, hs2]; rfl
  rw [← hs1, ← hs2] at hne
  cases hp1 : placeIn l s1 with
  | none =>
    have : applyF l x = ([], 16) := by unfold applyF; rw [hl, hx, hgx]; unfold takeAll; rw [hp1]; rfl
    rw [this] at h0; exact absurd h0 (show ¬ (16 : Int) = 0 by decide)
  | some j1 =>
    cases hp2 : placeIn l s2 with
    | none =>
      have : applyF l x = ([], 16) := by unfold applyF; rw [hl, hx, hgx]; unfold takeAll; rw [hp1]; unfold takeAll; rw [hp2]; rfl
      rw [this] at h0; exact absurd h0 (show ¬ (16 : Int) = 0 by decide)
    | some j2 =>
      obtain ⟨_, hj1, hpj1, _⟩ := findUpto_some _ _ _ _ hp1
      obtain ⟨_, hj2, hpj2, _⟩ := findUpto_some _ _ _ _ hp2
      have hj1 : j1 < l.length := by omega
      have hj2 : j2 < l.length := by omega
      have hfp1 := same_ref.1 hpj1
      have hfp2 := same_ref.1 hpj2
      have hok1 := (right_step hl hj1).1
      have hok2 := (right_step hl hj2).1
      have hmem1 := at_mem hj1
      have hmem2 := at_mem hj2
      have hback := with_without hl hp2
      obtain ⟨f, hf⟩ : ∃ f, f = l.getD j1 noField := ⟨_, rfl⟩
      obtain ⟨g, hg⟩ : ∃ f, f = l.getD j2 noField := ⟨_, rfl⟩
      rw [← hf] at hfp1 hok1 hmem1
      rw [← hg] at hfp2 hok2 hmem2 hback
      obtain ⟨rest, hrest⟩ : ∃ m, m = (withoutF (withoutF l s1).1 s2).1 := ⟨_, rfl⟩
      obtain ⟨w, hw⟩ : ∃ w, w = wrapO .i64 (f.worth * x.factor) := ⟨_, rfl⟩
      have et : turnedOf x [f, g] = ([f], iEq f.kind 1 && (iEq g.kind 1 && iEq g.worth w)) := by unfold turnedOf; rw [k2, k3, k6, hk, hw]; rfl
      have ea : applyF l x = if (iEq f.kind 1 && (iEq g.kind 1 && iEq g.worth w)) then putAll [x.place] [f] rest else ([], 16) := by
        unfold applyF
        rw [hl, hx, hgx, hcx]
        unfold takeAll
        rw [hp1]
        unfold takeAll
        rw [hp2]
        show (if (turnedOf x [l.getD j1 noField, l.getD j2 noField]).2 then putAll [x.place] (turnedOf x [l.getD j1 noField, l.getD j2 noField]).1 (withoutF (withoutF l s1).1 s2).1 else ([], 16)) = _
        rw [← hf, ← hg, et, ← hrest]
      cases ht : (iEq f.kind 1 && (iEq g.kind 1 && iEq g.worth w)) with
      | false => rw [ea, ht] at h0; exact absurd h0 (show ¬ (16 : Int) = 0 by decide)
      | true =>
        rw [ht] at ea
        have ea : applyF l x = if iEq (withF rest { f with place := x.place }).2 0 then ((withF rest { f with place := x.place }).1, 0) else ([], 16) := ea
        cases hz : iEq (withF rest { f with place := x.place }).2 0 with
        | false => rw [ea, hz] at h0; exact absurd h0 (show ¬ (16 : Int) = 0 by decide)
        | true =>
          obtain ⟨q1, q2, q3, q4, q5⟩ := with_zero hz
          rw [hz, q5] at ea
          obtain ⟨m1, hm1⟩ : ∃ m, m = putIn rest { f with place := x.place } := ⟨_, rfl⟩
          have hr1 := put_right q1 q2 q3 q4
          have hwo1 : (withoutF m1 x.place).1 = rest := by rw [hm1]; exact congrArg Prod.fst (without_put q1 q2 q3 q4)
          have hpl1 : placeIn m1 x.place = some (gapOf rest { f with place := x.place }) := by rw [hm1]; exact put_place q1 q3
          have hat1 : m1.getD (gapOf rest { f with place := x.place }) noField = { f with place := x.place } := by rw [hm1]; exact at_put q1 q3
          rw [← hm1] at hr1 ea
          have ea : applyF l x = (m1, 0) := ea
          simp only [Bool.and_eq_true] at ht
          obtain ⟨t1, t2, t3⟩ := ht
          -- the rest, taken the other way round
          have hra := without_right hl s2
          have hina : f ∈ (withoutF l s2).1 := by rw [without_is hl hp2]; exact notAt_mem hmem1 (by rw [hfp1]; exact hne)
          obtain ⟨i1, hi1, hg1⟩ := find_mem hra hina
          rw [hfp1] at hi1
          have hrb := without_right hl s1
          have hinb : g ∈ (withoutF l s1).1 := by rw [without_is hl hp1]; exact notAt_mem hmem2 (by rw [hfp2]; exact fun e => hne e.symm)
          obtain ⟨i2, hi2, hg2⟩ := find_mem hrb hinb
          rw [hfp2] at hi2
          have hend : rest = (withoutF (withoutF l s2).1 s1).1 := by
            rw [hrest, without_is hrb hi2, without_is hl hp1, notAt_comm, ← without_is hl hp2, ← without_is hra hi1]
          have hb1 := with_without hra hi1
          rw [hg1, ← hend] at hb1
          rw [ea]
          show applyF m1 (turnOf x) = (l, 0)
          unfold applyF
          rw [hr1, hy, hgy, hcy]
          unfold takeAll
          rw [hpl1]
          show (if (turnedOf (turnOf x) [m1.getD (gapOf rest { f with place := x.place }) noField]).2 then putAll [s1, s2] (turnedOf (turnOf x) [m1.getD (gapOf rest { f with place := x.place }) noField]).1 (withoutF m1 x.place).1 else (([] : List SField), (16 : Int))) = _
          rw [hwo1, hat1]
          have hgw : g.worth = w := iEq_t.1 t3
          rw [show turnedOf (turnOf x) [{ f with place := x.place }] = ([{ f with place := x.place }, { f with place := x.place, worth := w }], true) by
            unfold turnedOf
            rw [y2, y3, hyk, hfa]
            show ([_, { f with place := x.place, worth := wrapO .i64 (f.worth * x.factor) }], iEq f.kind 1 && iLe (wrapO .i64 (f.worth * x.factor)) 1048576) = _
            rw [← hw, t1, ← hgw, ((plain_field hok2).2.2.2 t2).2]
            rfl]
          show (if iEq (withF rest { f with place := s1 }).2 0 then putAll [s2] [{ f with place := x.place, worth := w }] (withF rest { f with place := s1 }).1 else (([] : List SField), (16 : Int))) = _
          rw [place_self f hfp1, hb1, iEq_same]
          show (if iEq (withF (withoutF l s2).1 { f with place := s2, worth := w }).2 0 then ((withF (withoutF l s2).1 { f with place := s2, worth := w }).1, (0 : Int)) else ([], 16)) = _
          have hgg : ({ f with place := s2, worth := w } : SField) = g := by
            have a1 := ((plain_field hok1).2.2.2 t1).1
            have a2 := ((plain_field hok2).2.2.2 t2).1
            have a3 := (plain_field hok1).1 (kinds 1 t1 3 (by decide))
            have a4 := (plain_field hok2).1 (kinds 1 t2 3 (by decide))
            have a5 := iEq_t.1 t1
            have a6 := iEq_t.1 t2
            clear hf hg
            cases f; cases g
            simp only at a1 a2 a3 a4 a5 a6 hgw hfp2
            subst a1 a2 a3 a4 a5 a6 hgw hfp2
            rfl
          rw [hgg, hback, iEq_same]
          rfl
theorem back_all {l : List SField} {x : SLens} (h0 : (applyF l x).2 = 0) : applyF (applyF l x).1 (turnOf x) = (l, 0) := by
  have hk := kind_range (apply_ok h0).1
  rcases hk with hk | hk | hk | hk | hk | hk | hk | hk | hk | hk
  · exact back_moved h0 1 (iEq_t.2 hk) (.inl rfl)
  · exact back_add h0 (iEq_t.2 hk)
  · exact back_rem h0 (iEq_t.2 hk)
  · exact back_moved h0 4 (iEq_t.2 hk) (.inr (.inl rfl))
  · exact back_moved h0 5 (iEq_t.2 hk) (.inr (.inr rfl))
  · exact back_spread h0 (iEq_t.2 hk)
  · exact back_cast h0 7 (iEq_t.2 hk) (.inl rfl)
  · exact back_cast h0 8 (iEq_t.2 hk) (.inr (.inr rfl))
  · exact back_gather h0 (iEq_t.2 hk)
  · exact back_cast h0 10 (iEq_t.2 hk) (.inr (.inl rfl))
end Go.Proofs.YtalpbdabeffnlaaGreat

/- The reference's way of putting comes to the same as the code's: plain law. -/
set_option linter.unusedVariables false
set_option linter.unusedSimpArgs false
namespace Go.Proofs.YtalpbdabeffnlaaGreat
open Go Go.Av
set_option maxRecDepth 100000

theorem place_lt {l : List SField} {r : SRef} {j : Nat} (h : placeIn l r = some j) : j < l.length := by
  obtain ⟨_, h, _, _⟩ := findUpto_some _ _ _ _ h
  omega
theorem one_len {α : Type} {c : List α} (h : c.length = 1) : ∃ a, c = [a] := by
  match c, h with
  | [a], _ => exact ⟨a, rfl⟩
theorem two_len {α : Type} {c : List α} (h : c.length = 2) : ∃ a b, c = [a, b] := by
  match c, h with
  | [a, b], _ => exact ⟨a, b, rfl⟩
section
variable {l : List SField} {x : SLens} {rest was : List SField}
theorem fin_none {b : Bool} (h1 : rightFields l = true) (h2 : lensOk x = true) (ht : takeAll l (goesOf x) l [] = some (rest, was)) (hc : comesOf x = []) (hb : (turnedOf x was).2 = b) : applyF l x = if b then (rest, 0) else ([], 16) := by
  subst hb
  unfold applyF
  rw [h1, h2, ht, hc]
  rfl
theorem fin_one {b : Bool} {f : SField} (h1 : rightFields l = true) (h2 : lensOk x = true) (ht : takeAll l (goesOf x) l [] = some (rest, was)) (hc : (comesOf x).length = 1) (hb : (turnedOf x was).2 = b)
    (hf : b = true → { (turnedOf x was).1.getD 0 noField with place := (comesOf x).getD 0 noRef } = f) : applyF l x = if b && iEq (withF rest f).2 0 then ((withF rest f).1, 0) else ([], 16) := by
  subst hb
  obtain ⟨r, hc⟩ := one_len hc
  rw [hc] at hf
  unfold applyF
  rw [h1, h2, ht, hc]
  show (if (turnedOf x was).2 = true then putAll [r] (turnedOf x was).1 rest else ([], 16)) = _
  cases q : (turnedOf x was).2 with
  | false => rfl
  | true =>
    have hf : { (turnedOf x was).1.getD 0 noField with place := r } = f := hf q
    show (if iEq (withF rest { (turnedOf x was).1.getD 0 noField with place := r }).2 0 then ((withF rest { (turnedOf x was).1.getD 0 noField with place := r }).1, (0 : Int)) else ([], 16)) = _
    rw [hf]
    rfl
theorem fin_two {b : Bool} {f g : SField} (h1 : rightFields l = true) (h2 : lensOk x = true) (ht : takeAll l (goesOf x) l [] = some (rest, was)) (hc : (comesOf x).length = 2) (hn : (turnedOf x was).1.length = 2) (hb : (turnedOf x was).2 = b)
    (hf : b = true → { (turnedOf x was).1.getD 0 noField with place := (comesOf x).getD 0 noRef } = f) (hg : b = true → { (turnedOf x was).1.getD 1 noField with place := (comesOf x).getD 1 noRef } = g) :
    applyF l x = if (b && iEq (withF rest f).2 0) && iEq (withF (withF rest f).1 g).2 0 then ((withF (withF rest f).1 g).1, 0) else ([], 16) := by
  subst hb
  obtain ⟨r, s, hc⟩ := two_len hc
  obtain ⟨u, v, hn⟩ := two_len hn
  rw [hc, hn] at hf
  rw [hc, hn] at hg
  unfold applyF
  rw [h1, h2, ht, hc]
  show (if (turnedOf x was).2 = true then putAll [r, s] (turnedOf x was).1 rest else ([], 16)) = _
  rw [hn]
  cases q : (turnedOf x was).2 with
  | false => rfl
  | true =>
    have hf : { u with place := r } = f := hf q
    have hg : { v with place := s } = g := hg q
    show (if iEq (withF rest { u with place := r }).2 0 then (if iEq (withF (withF rest { u with place := r }).1 { v with place := s }).2 0 then ((withF (withF rest { u with place := r }).1 { v with place := s }).1, (0 : Int)) else ([], 16)) else ([], 16)) = _
    rw [hf, hg]
    cases iEq (withF rest f).2 0 <;> rfl
theorem plainF {f : SField} (h : fieldOk f = true) (k : iEq f.kind 1 = true) (r : SRef) : { f with place := r } = ({ noField with place := r, kind := 1, worth := f.worth } : SField) := by
  obtain ⟨a, _, _, b⟩ := plain_field h
  have a3 := a (kinds 1 k 3 (by decide))
  have b3 := (b k).1
  have k3 := iEq_t.1 k
  clear a b h k
  obtain ⟨p, c, d, e, w⟩ := f
  simp only at a3 b3 k3
  subst a3 b3 k3
  rfl
theorem comes_one (h : lensOk x = true) (h3 : iEq x.kind 3 = false) (h6 : iEq x.kind 6 = false) : (comesOf x).length = 1 := by
  unfold comesOf
  rw [h, h3, h6]
  cases iEq x.kind 2 <;> cases iEq x.kind 1 <;> cases iEq x.kind 4 <;> cases iEq x.kind 5 <;> rfl
theorem comes_two (h : lensOk x = true) (h6 : iEq x.kind 6 = true) : (comesOf x).length = 2 := by
  unfold comesOf
  rw [h, kinds 6 h6 3 (by decide), kinds 6 h6 2 (by decide), kinds 6 h6 1 (by decide), kinds 6 h6 4 (by decide), kinds 6 h6 5 (by decide), h6]
  rfl
variable (h1 : rightFields l = true) (h2 : lensOk x = true) (ht : takeAll l (goesOf x) l [] = some (rest, was))
include h1 h2 ht
theorem fin_moved (k : Int) (hk : iEq x.kind k = true) (hkk : k = 1 ∨ k = 4 ∨ k = 5) {ok : Bool} (ho : (true && iEq (withF rest { was.getD 0 noField with place := (comesOf x).getD 0 noRef }).2 0) = ok) :
    applyF l x = if ok then ((withF rest { was.getD 0 noField with place := (comesOf x).getD 0 noRef }).1, 0) else ([], 16) := by
  subst ho
  have e := was_moved was k hk hkk
  refine fin_one (b := true) h1 h2 ht (comes_one h2 ?_ ?_) (by rw [e]) (fun _ => by rw [e])
  · rcases hkk with rfl | rfl | rfl
    · exact kinds 1 hk 3 (by decide)
    · exact kinds 4 hk 3 (by decide)
    · exact kinds 5 hk 3 (by decide)
  · rcases hkk with rfl | rfl | rfl
    · exact kinds 1 hk 6 (by decide)
    · exact kinds 4 hk 6 (by decide)
    · exact kinds 5 hk 6 (by decide)
theorem fin_added (hk : iEq x.kind 2 = true) {ok : Bool} (ho : (true && iEq (withF rest x.field).2 0) = ok) : applyF l x = if ok then ((withF rest x.field).1, 0) else ([], 16) := by
  subst ho
  have e : turnedOf x was = ([x.field], true) := by unfold turnedOf; rw [hk]; rfl
  have c : comesOf x = [x.field.place] := by unfold comesOf; rw [h2, kinds 2 hk 3 (by decide), hk]; rfl
  exact fin_one (b := true) h1 h2 ht (by rw [c]; rfl) (by rw [e]) (fun _ => by rw [e, c]; rfl)
theorem fin_gone (hk : iEq x.kind 3 = true) {ok : Bool} (ho : sameField (was.getD 0 noField) x.field = ok) : applyF l x = if ok then (rest, 0) else ([], 16) := by
  subst ho
  exact fin_none h1 h2 ht (comes_nil hk) (by unfold turnedOf; rw [kinds 3 hk 2 (by decide), hk]; rfl)
theorem fin_spread (hk : iEq x.kind 6 = true) (hw : fieldOk (was.getD 0 noField) = true) {b ok : Bool} {f g : SField} (hb : (iEq (was.getD 0 noField).kind 1 && iLt (wrapO .i64 ((was.getD 0 noField).worth * x.factor)) 1048577) = b)
    (hf : f = { noField with place := (comesOf x).getD 0 noRef, kind := 1, worth := (was.getD 0 noField).worth }) (hg : g = { noField with place := (comesOf x).getD 1 noRef, kind := 1, worth := wrapO .i64 ((was.getD 0 noField).worth * x.factor) })
    (ho : ((b && iEq (withF rest f).2 0) && iEq (withF (withF rest f).1 g).2 0) = ok) : applyF l x = if ok then ((withF (withF rest f).1 g).1, 0) else ([], 16) := by
  subst ho
  have e : turnedOf x was = ([w0 was, { w0 was with worth := wrapO .i64 ((w0 was).worth * x.factor) }], iEq (w0 was).kind 1 && iLe (wrapO .i64 ((w0 was).worth * x.factor)) 1048576) := by
    unfold turnedOf; rw [kinds 6 hk 2 (by decide), kinds 6 hk 3 (by decide), hk]; rfl
  have e2 : iLe (wrapO .i64 ((w0 was).worth * x.factor)) 1048576 = iLt (wrapO .i64 ((w0 was).worth * x.factor)) 1048577 := by
    rw [Bool.eq_iff_iff, iLe_t, iLt_t]; omega
  rw [e2] at e
  have hk1 : b = true → iEq (was.getD 0 noField).kind 1 = true := fun h => by rw [← hb, Bool.and_eq_true] at h; exact h.1
  refine fin_two h1 h2 ht (comes_two h2 hk) (by rw [e]; rfl) (by rw [e]; exact hb) (fun h => ?_) (fun h => ?_)
  · rw [e, hf]; exact plainF hw (hk1 h) _
  · rw [e, hg]
    have := plainF hw (hk1 h) ((comesOf x).getD 1 noRef)
    show ({ { was.getD 0 noField with place := (comesOf x).getD 1 noRef } with worth := wrapO .i64 ((was.getD 0 noField).worth * x.factor) } : SField) = _
    rw [this]
theorem fin_gathered (hk : iEq x.kind 9 = true) (hw : fieldOk (was.getD 0 noField) = true) {b ok : Bool} {f : SField} (hb : (iEq (was.getD 0 noField).kind 1 && (iEq (was.getD 1 noField).kind 1 && iEq (was.getD 1 noField).worth (wrapO .i64 ((was.getD 0 noField).worth * x.factor)))) = b)
    (hf : f = { noField with place := (comesOf x).getD 0 noRef, kind := 1, worth := (was.getD 0 noField).worth })
    (ho : (b && iEq (withF rest f).2 0) = ok) : applyF l x = if ok then ((withF rest f).1, 0) else ([], 16) := by
  subst ho
  have e : turnedOf x was = ([w0 was], iEq (w0 was).kind 1 && (iEq (w1 was).kind 1 && iEq (w1 was).worth (wrapO .i64 ((w0 was).worth * x.factor)))) := by
    unfold turnedOf; rw [kinds 9 hk 2 (by decide), kinds 9 hk 3 (by decide), kinds 9 hk 6 (by decide), hk]; rfl
  have hk1 : b = true → iEq (was.getD 0 noField).kind 1 = true := fun h => by rw [← hb, Bool.and_eq_true] at h; exact h.1
  refine fin_one h1 h2 ht (comes_one h2 (kinds 9 hk 3 (by decide)) (kinds 9 hk 6 (by decide))) (by rw [e]; exact hb) (fun h => ?_)
  rw [e, hf]; exact plainF hw (hk1 h) _
theorem fin_opened (hk : iEq x.kind 7 = true) {b ok : Bool} {f : SField} (hb : (iEq (was.getD 0 noField).kind 2 && sEq (was.getD 0 noField).dflt x.other) = b)
    (hf : f = { noField with place := (comesOf x).getD 0 noRef, kind := 4 })
    (ho : (b && iEq (withF rest f).2 0) = ok) : applyF l x = if ok then ((withF rest f).1, 0) else ([], 16) := by
  subst ho
  have e : turnedOf x was = ([{ noField with kind := 4 }], iEq (w0 was).kind 2 && sEq (w0 was).dflt x.other) := by
    unfold turnedOf; rw [kinds 7 hk 2 (by decide), kinds 7 hk 3 (by decide), kinds 7 hk 6 (by decide), kinds 7 hk 9 (by decide), hk]; rfl
  exact fin_one h1 h2 ht (comes_one h2 (kinds 7 hk 3 (by decide)) (kinds 7 hk 6 (by decide))) (by rw [e]; exact hb) (fun h => by rw [e, hf]; rfl)
theorem fin_closed (hk : iEq x.kind 10 = true) {b ok : Bool} {f : SField} (hb : iEq (was.getD 0 noField).kind 4 = b)
    (hf : f = { noField with place := (comesOf x).getD 0 noRef, kind := 2, dflt := x.other })
    (ho : (b && iEq (withF rest f).2 0) = ok) : applyF l x = if ok then ((withF rest f).1, 0) else ([], 16) := by
  subst ho
  have e : turnedOf x was = ([{ noField with kind := 2, dflt := x.other }], iEq (w0 was).kind 4) := by
    unfold turnedOf; rw [kinds 10 hk 2 (by decide), kinds 10 hk 3 (by decide), kinds 10 hk 6 (by decide), kinds 10 hk 9 (by decide), kinds 10 hk 7 (by decide), hk]; rfl
  exact fin_one h1 h2 ht (comes_one h2 (kinds 10 hk 3 (by decide)) (kinds 10 hk 6 (by decide))) (by rw [e]; exact hb) (fun h => by rw [e, hf]; rfl)
theorem fin_cased (hk : iEq x.kind 8 = true) {b ok : Bool} {f : SField} (hb : (iEq (was.getD 0 noField).kind 3 && (sEq (was.getD 0 noField).dflt x.name && sameStrs (was.getD 0 noField).cases (fromsOf x.forth))) = b)
    (hf : f = { noField with place := (comesOf x).getD 0 noRef, kind := 3, dflt := x.other, cases := fromsOf x.back })
    (ho : (b && iEq (withF rest f).2 0) = ok) : applyF l x = if ok then ((withF rest f).1, 0) else ([], 16) := by
  subst ho
  have e : turnedOf x was = ([{ noField with kind := 3, dflt := x.other, cases := fromsOf x.back }], iEq (w0 was).kind 3 && (sEq (w0 was).dflt x.name && sameStrs (w0 was).cases (fromsOf x.forth))) := by
    unfold turnedOf; rw [kinds 8 hk 2 (by decide), kinds 8 hk 3 (by decide), kinds 8 hk 6 (by decide), kinds 8 hk 9 (by decide), kinds 8 hk 7 (by decide), kinds 8 hk 10 (by decide), hk]; rfl
  exact fin_one h1 h2 ht (comes_one h2 (kinds 8 hk 3 (by decide)) (kinds 8 hk 6 (by decide))) (by rw [e]; exact hb) (fun h => by rw [e, hf]; rfl)
end
end Go.Proofs.YtalpbdabeffnlaaGreat
