import Derived.Test.YtoophkcicdbnfaaJoBH
/- There and back: spread and gathered; the law. -/
set_option linter.unusedVariables false
set_option linter.unusedSimpArgs false
namespace Go.Proofs.Ytoophkcicdbnfaa
open Go Go.Av
set_option maxRecDepth 100000

theorem find_at {m : List SField} (h : rightFields m = true) {j : Nat} (hj : j < m.length) {r : SRef} (hp : (m.getD j noField).place = r) : placeIn m r = some j := by
  cases q : placeIn m r with
  | none =>
    have := findUpto_none _ _ _ q j (Nat.zero_le _) (by omega)
    rw [hp, sameRef_self] at this
    cases this
  | some k =>
    obtain ⟨_, hk, hpk, _⟩ := findUpto_some _ _ _ _ q
    have := right_one h (by omega) hj ((same_ref.1 hpk).trans hp.symm)
    rw [this]
theorem find_mem {m : List SField} (h : rightFields m = true) {f : SField} (hf : f ∈ m) : ∃ j, placeIn m f.place = some j ∧ m.getD j noField = f := by
  obtain ⟨j, hj, e⟩ := getD_mem hf
  exact ⟨j, find_at h hj (by rw [e]), e⟩
theorem without_is {m : List SField} (h : rightFields m = true) {r : SRef} {j : Nat} (hp : placeIn m r = some j) : (withoutF m r).1 = notAt m r := by
  unfold withoutF; rw [h, hp]; rfl
theorem notAt_comm (m : List SField) (r s : SRef) : notAt (notAt m r) s = notAt (notAt m s) r := by
  unfold notAt
  rw [List.filter_filter, List.filter_filter]
  exact List.filter_congr fun f _ => Bool.and_comm _ _
theorem put_mem {l : List SField} {f g : SField} (h : g ∈ l ∨ g = f) : g ∈ putIn l f := by
  rw [(put_perm l f).mem_iff]
  rcases h with h | h
  · exact List.mem_append_left _ h
  · subst h; exact List.mem_append_right _ (List.mem_singleton.2 rfl)
theorem notAt_mem {l : List SField} {g : SField} {r : SRef} (h : g ∈ l) (hr : g.place ≠ r) : g ∈ notAt l r := by
  unfold notAt
  rw [List.mem_filter]
  refine ⟨h, ?_⟩
  cases q : sameRef g.place r with
  | false => rfl
  | true => exact absurd (same_ref.1 q) hr
theorem at_mem {l : List SField} {j : Nat} (h : j < l.length) : l.getD j noField ∈ l := by
  rw [List.getD_eq_getElem?_getD, List.getElem?_eq_getElem h]; exact List.getElem_mem h
theorem two_places {r : SRef} {a b : ByteArray} (h : a ≠ b) : ({ r with name := a } : SRef) ≠ { r with name := b } := fun e => h (by injection e)

theorem back_spread {l : List SField} {x : SLens} (h0 : (applyF l x).2 = 0) (hk : iEq x.kind 6 = true) : applyF (applyF l x).1 (turnOf x) = (l, 0) := by
  obtain ⟨hx, hl⟩ := apply_ok h0
  have hy := turn_ok x hx
  have k1 := kinds 6 hk 1 (by decide)
  have k2 := kinds 6 hk 2 (by decide)
  have k3 := kinds 6 hk 3 (by decide)
  have k4 := kinds 6 hk 4 (by decide)
  have k5 := kinds 6 hk 5 (by decide)
  have e : turnOf x = { x with kind := 9 } := by unfold turnOf; rw [k1, k2, k3, k4, k5, hk]; rfl
  have hyk : iEq (turnOf x).kind 9 = true := by rw [e]; exact iEq_same _
  have hp : (turnOf x).place = x.place := by rw [e]
  have ho : (turnOf x).other = x.other := by rw [e]
  have hn : (turnOf x).name = x.name := by rw [e]
  have hfa : (turnOf x).factor = x.factor := by rw [e]
  have y1 := kinds 9 hyk 1 (by decide)
  have y2 := kinds 9 hyk 2 (by decide)
  have y3 := kinds 9 hyk 3 (by decide)
  have y4 := kinds 9 hyk 4 (by decide)
  have y5 := kinds 9 hyk 5 (by decide)
  have y6 := kinds 9 hyk 6 (by decide)
  have hne := two_places (r := x.place) (two_facts hx (.inl hk))
  obtain ⟨s1, hs1⟩ : ∃ s, s = ({ x.place with name := x.name } : SRef) := ⟨_, rfl⟩
  obtain ⟨s2, hs2⟩ : ∃ s, s = ({ x.place with name := x.other } : SRef) := ⟨_, rfl⟩
  have hgx : goesOf x = [x.place] := goes_one hx k2 k3 (kinds 6 hk 9 (by decide))
  have hcx : comesOf x = [s1, s2] := by unfold comesOf; rw [hx, k3, k2, k1, k4, k5, hk, hs1, hs2]; rfl
  have hgy : goesOf (turnOf x) = [s1, s2] := by unfold goesOf twoOf; rw [hy, y2, y3, hyk, hp, hn, ho, hs1, hs2]; rfl
  have hcy : comesOf (turnOf x) = [x.place] := by unfold comesOf; rw [hy, y3, y2, y1, y4, y5, y6, hp]; rfl
  rw [← hs1, ← hs2] at hne
  cases hpl : placeIn l x.place with
  | none =>
    have : applyF l x = ([], 16) := by unfold applyF; rw [hl, hx, hgx]; unfold takeAll; rw [hpl]; rfl
    rw [this] at h0; exact absurd h0 (show ¬ (16 : Int) = 0 by decide)
  | some j =>
    obtain ⟨_, hj, hpj, _⟩ := findUpto_some _ _ _ _ hpl
    have hj : j < l.length := by omega
    have hfp := same_ref.1 hpj
    have hback := with_without hl hpl
    obtain ⟨f, hf⟩ : ∃ f, f = l.getD j noField := ⟨_, rfl⟩
    obtain ⟨rest, hrest⟩ : ∃ m, m = (withoutF l x.place).1 := ⟨_, rfl⟩
    obtain ⟨w, hw⟩ : ∃ w, w = wrapO .i64 (f.worth * x.factor) := ⟨_, rfl⟩
    have et : turnedOf x [f] = ([f, { f with worth := w }], iEq f.kind 1 && iLe w 1048576) := by unfold turnedOf; rw [k2, k3, hk, hw]; rfl
    have ea : applyF l x = if (iEq f.kind 1 && iLe w 1048576) then putAll [s1, s2] [f, { f with worth := w }] rest else ([], 16) := by
      unfold applyF
      rw [hl, hx, hgx, hcx]
      unfold takeAll
      rw [hpl]
      show (if (turnedOf x [l.getD j noField]).2 then putAll [s1, s2] (turnedOf x [l.getD j noField]).1 (withoutF l x.place).1 else ([], 16)) = _
      rw [← hf, et, ← hrest]
    rw [← hf, ← hrest] at hback
    cases ht : (iEq f.kind 1 && iLe w 1048576) with
    | false => rw [ea, ht] at h0; exact absurd h0 (show ¬ (16 : Int) = 0 by decide)
    | true =>
      rw [ht] at ea
      have ea : applyF l x = if iEq (withF rest { f with place := s1 }).2 0 then putAll [s2] [{ f with worth := w }] (withF rest { f with place := s1 }).1 else ([], 16) := ea
      cases hz : iEq (withF rest { f with place := s1 }).2 0 with
      | false => rw [ea, hz] at h0; exact absurd h0 (show ¬ (16 : Int) = 0 by decide)
      | true =>
        obtain ⟨q1, q2, q3, q4, q5⟩ := with_zero hz
        rw [hz, q5] at ea
        have ea : applyF l x = if iEq (withF (putIn rest { f with place := s1 }) { f with worth := w, place := s2 }).2 0 then ((withF (putIn rest { f with place := s1 }) { f with worth := w, place := s2 }).1, 0) else ([], 16) := ea
        obtain ⟨m1, hm1⟩ : ∃ m, m = putIn rest { f with place := s1 } := ⟨_, rfl⟩
        have hr1 := put_right q1 q2 q3 q4
        have hwo1 : (withoutF m1 s1).1 = rest := by rw [hm1]; exact congrArg Prod.fst (without_put q1 q2 q3 q4)
        have hp1 : placeIn m1 s1 = some (gapOf rest { f with place := s1 }) := by rw [hm1]; exact put_place q1 q3
        have hin1 : { f with place := s1 } ∈ m1 := by rw [hm1]; exact put_mem (.inr rfl)
        rw [← hm1] at ea hr1
        cases hz2 : iEq (withF m1 { f with worth := w, place := s2 }).2 0 with
        | false => rw [ea, hz2] at h0; exact absurd h0 (show ¬ (16 : Int) = 0 by decide)
        | true =>
          obtain ⟨p1, p2, p3, p4, p5⟩ := with_zero hz2
          rw [hz2, p5] at ea
          obtain ⟨m2, hm2⟩ : ∃ m, m = putIn m1 { f with worth := w, place := s2 } := ⟨_, rfl⟩
          have hr2 := put_right p1 p2 p3 p4
          have hwo2 : (withoutF m2 s2).1 = m1 := by rw [hm2]; exact congrArg Prod.fst (without_put p1 p2 p3 p4)
          have hp2 : placeIn m2 s2 = some (gapOf m1 { f with worth := w, place := s2 }) := by rw [hm2]; exact put_place p1 p3
          have hat2 : m2.getD (gapOf m1 { f with worth := w, place := s2 }) noField = { f with worth := w, place := s2 } := by rw [hm2]; exact at_put p1 p3
          have hin2 : { f with place := s1 } ∈ m2 := by rw [hm2]; exact put_mem (.inl hin1)
          have hin3 : ({ f with worth := w, place := s2 } : SField) ∈ m2 := by rw [hm2]; exact put_mem (.inr rfl)
          rw [← hm2] at ea hr2
          have ea : applyF l x = (m2, 0) := ea
          obtain ⟨i1, hi1, hg1⟩ := find_mem hr2 hin2
          have hi1 : placeIn m2 s1 = some i1 := hi1
          have hra := without_right hr2 s1
          have hina : ({ f with worth := w, place := s2 } : SField) ∈ (withoutF m2 s1).1 := by
            rw [without_is hr2 hi1]; exact notAt_mem hin3 (fun e => hne e.symm)
          obtain ⟨i2, hi2, hg2⟩ := find_mem hra hina
          have hi2 : placeIn (withoutF m2 s1).1 s2 = some i2 := hi2
          have hend : (withoutF (withoutF m2 s1).1 s2).1 = rest := by
            rw [without_is hra hi2, without_is hr2 hi1, notAt_comm, ← without_is hr2 hp2, hwo2, ← without_is hr1 hp1, hwo1]
          rw [ea]
          show applyF m2 (turnOf x) = (l, 0)
          unfold applyF
          rw [hr2, hy, hgy, hcy]
          unfold takeAll
          rw [hi1]
          unfold takeAll
          rw [hp2]
          show (if (turnedOf (turnOf x) [m2.getD i1 noField, m2.getD (gapOf m1 { f with worth := w, place := s2 }) noField]).2 then putAll [x.place] (turnedOf (turnOf x) [m2.getD i1 noField, m2.getD (gapOf m1 { f with worth := w, place := s2 }) noField]).1 (withoutF (withoutF m2 s1).1 s2).1 else (([] : List SField), (16 : Int))) = _
          rw [hend, hg1, hat2]
          have hk1 : iEq f.kind 1 = true := by rw [Bool.and_eq_true] at ht; exact ht.1
          rw [show turnedOf (turnOf x) [{ f with place := s1 }, { f with worth := w, place := s2 }] = ([{ f with place := s1 }], true) by
            unfold turnedOf
            rw [y2, y3, y6, hyk, hfa]
            show (_, iEq f.kind 1 && (iEq f.kind 1 && iEq w (wrapO .i64 (f.worth * x.factor)))) = _
            rw [hk1, ← hw, iEq_same]
            rfl]
          show (if iEq (withF rest { f with place := x.place }).2 0 then ((withF rest { f with place := x.place }).1, (0 : Int)) else ([], 16)) = _
          rw [place_self f (by rw [hf]; exact hfp), hback, iEq_same]
          rfl

theorem back_gather {l : List SField} {x : SLens} (h0 : (applyF l x).2 = 0) (hk : iEq x.kind 9 = true) : applyF (applyF l x).1 (turnOf x) = (l, 0) := by
  obtain ⟨hx, hl⟩ := apply_ok h0
  have hy := turn_ok x hx
  have k1 := kinds 9 hk 1 (by decide)
  have k2 := kinds 9 hk 2 (by decide)
  have k3 := kinds 9 hk 3 (by decide)
  have k4 := kinds 9 hk 4 (by decide)
  have k5 := kinds 9 hk 5 (by decide)
  have k6 := kinds 9 hk 6 (by decide)
  have e : turnOf x = { x with kind := 6 } := by unfold turnOf; rw [k1, k2, k3, k4, k5, k6, hk]; rfl
  have hyk : iEq (turnOf x).kind 6 = true := by rw [e]; exact iEq_same _
  have hp : (turnOf x).place = x.place := by rw [e]
  have ho : (turnOf x).other = x.other := by rw [e]
  have hn : (turnOf x).name = x.name := by rw [e]
  have hfa : (turnOf x).factor = x.factor := by rw [e]
  have y1 := kinds 6 hyk 1 (by decide)
  have y2 := kinds 6 hyk 2 (by decide)
  have y3 := kinds 6 hyk 3 (by decide)
  have y4 := kinds 6 hyk 4 (by decide)
  have y5 := kinds 6 hyk 5 (by decide)
  have y9 := kinds 6 hyk 9 (by decide)
  have hne := two_places (r := x.place) (two_facts hx (.inr hk))
  obtain ⟨s1, hs1⟩ : ∃ s, s = ({ x.place with name := x.name } : SRef) := ⟨_, rfl⟩
  obtain ⟨s2, hs2⟩ : ∃ s, s = ({ x.place with name := x.other } : SRef) := ⟨_, rfl⟩
  have hgx : goesOf x = [s1, s2] := by unfold goesOf twoOf; rw [hx, k2, k3, hk, hs1, hs2]; rfl
  have hcx : comesOf x = [x.place] := by unfold comesOf; rw [hx, k3, k2, k1, k4, k5, k6]; rfl
  have hgy : goesOf (turnOf x) = [x.place] := by rw [goes_one hy y2 y3 y9, hp]
  have hcy : comesOf (turnOf x) = [s1, s2] := by unfold comesOf twoOf; rw [hy, y3, y2, y1, y4, y5, hyk, hp, hn, ho, hs1, hs2]; rfl
  rw [← hs1, ← hs2] at hne
  cases hp1 : placeIn l s1 with
  | none =>
    have : applyF l x = ([], 16) := by unfold applyF; rw [hl, hx, hgx]; unfold takeAll; rw [hp1]; rfl
    rw [this] at h0; exact absurd h0 (show ¬ (16 : Int) = 0 by decide)
  | some j1 =>
    cases hp2 : placeIn l s2 with
    | none =>
      have : applyF l x = ([], 16) := by unfold applyF; rw [hl, hx, hgx]; unfold takeAll; rw [hp1]; unfold takeAll; rw [hp2]; rfl
      rw [this] at h0; exact absurd h0 (show ¬ (16 : Int) = 0 by decide)
    | some j2 =>
      obtain ⟨_, hj1, hpj1, _⟩ := findUpto_some _ _ _ _ hp1
      obtain ⟨_, hj2, hpj2, _⟩ := findUpto_some _ _ _ _ hp2
      have hj1 : j1 < l.length := by omega
      have hj2 : j2 < l.length := by omega
      have hfp1 := same_ref.1 hpj1
      have hfp2 := same_ref.1 hpj2
      have hok1 := (right_step hl hj1).1
      have hok2 := (right_step hl hj2).1
      have hmem1 := at_mem hj1
      have hmem2 := at_mem hj2
      have hback := with_without hl hp2
      obtain ⟨f, hf⟩ : ∃ f, f = l.getD j1 noField := ⟨_, rfl⟩
      obtain ⟨g, hg⟩ : ∃ f, f = l.getD j2 noField := ⟨_, rfl⟩
      rw [← hf] at hfp1 hok1 hmem1
      rw [← hg] at hfp2 hok2 hmem2 hback
      obtain ⟨rest, hrest⟩ : ∃ m, m = (withoutF (withoutF l s1).1 s2).1 := ⟨_, rfl⟩
      obtain ⟨w, hw⟩ : ∃ w, w = wrapO .i64 (f.worth * x.factor) := ⟨_, rfl⟩
      have et : turnedOf x [f, g] = ([f], iEq f.kind 1 && (iEq g.kind 1 && iEq g.worth w)) := by unfold turnedOf; rw [k2, k3, k6, hk, hw]; rfl
      have ea : applyF l x = if (iEq f.kind 1 && (iEq g.kind 1 && iEq g.worth w)) then putAll [x.place] [f] rest else ([], 16) := by
        unfold applyF
        rw [hl, hx, hgx, hcx]
        unfold takeAll
        rw [hp1]
        unfold takeAll
        rw [hp2]
        show (if (turnedOf x [l.getD j1 noField, l.getD j2 noField]).2 then putAll [x.place] (turnedOf x [l.getD j1 noField, l.getD j2 noField]).1 (withoutF (withoutF l s1).1 s2).1 else ([], 16)) = _
        rw [← hf, ← hg, et, ← hrest]
      cases ht : (iEq f.kind 1 && (iEq g.kind 1 && iEq g.worth w)) with
      | false => rw [ea, ht] at h0; exact absurd h0 (show ¬ (16 : Int) = 0 by decide)
      | true =>
        rw [ht] at ea
        have ea : applyF l x = if iEq (withF rest { f with place := x.place }).2 0 then ((withF rest { f with place := x.place }).1, 0) else ([], 16) := ea
        cases hz : iEq (withF rest { f with place := x.place }).2 0 with
        | false => rw [ea, hz] at h0; exact absurd h0 (show ¬ (16 : Int) = 0 by decide)
        | true =>
          obtain ⟨q1, q2, q3, q4, q5⟩ := with_zero hz
          rw [hz, q5] at ea
          obtain ⟨m1, hm1⟩ : ∃ m, m = putIn rest { f with place := x.place } := ⟨_, rfl⟩
          have hr1 := put_right q1 q2 q3 q4
          have hwo1 : (withoutF m1 x.place).1 = rest := by rw [hm1]; exact congrArg Prod.fst (without_put q1 q2 q3 q4)
          have hpl1 : placeIn m1 x.place = some (gapOf rest { f with place := x.place }) := by rw [hm1]; exact put_place q1 q3
          have hat1 : m1.getD (gapOf rest { f with place := x.place }) noField = { f with place := x.place } := by rw [hm1]; exact at_put q1 q3
          rw [← hm1] at hr1 ea
          have ea : applyF l x = (m1, 0) := ea
          simp only [Bool.and_eq_true] at ht
          obtain ⟨t1, t2, t3⟩ := ht
          -- the rest, taken the other way round
          have hra := without_right hl s2
          have hina : f ∈ (withoutF l s2).1 := by rw [without_is hl hp2]; exact notAt_mem hmem1 (by rw [hfp1]; exact hne)
          obtain ⟨i1, hi1, hg1⟩ := find_mem hra hina
          rw [hfp1] at hi1
          have hrb := without_right hl s1
          have hinb : g ∈ (withoutF l s1).1 := by rw [without_is hl hp1]; exact notAt_mem hmem2 (by rw [hfp2]; exact fun e => hne e.symm)
          obtain ⟨i2, hi2, hg2⟩ := find_mem hrb hinb
          rw [hfp2] at hi2
          have hend : rest = (withoutF (withoutF l s2).1 s1).1 := by
            rw [hrest, without_is hrb hi2, without_is hl hp1, notAt_comm, ← without_is hl hp2, ← without_is hra hi1]
          have hb1 := with_without hra hi1
          rw [hg1, ← hend] at hb1
          rw [ea]
          show applyF m1 (turnOf x) = (l, 0)
          unfold applyF
          rw [hr1, hy, hgy, hcy]
          unfold takeAll
          rw [hpl1]
          show (if (turnedOf (turnOf x) [m1.getD (gapOf rest { f with place := x.place }) noField]).2 then putAll [s1, s2] (turnedOf (turnOf x) [m1.getD (gapOf rest { f with place := x.place }) noField]).1 (withoutF m1 x.place).1 else (([] : List SField), (16 : Int))) = _
          rw [hwo1, hat1]
          have hgw : g.worth = w := iEq_t.1 t3
          rw [show turnedOf (turnOf x) [{ f with place := x.place }] = ([{ f with place := x.place }, { f with place := x.place, worth := w }], true) by
            unfold turnedOf
            rw [y2, y3, hyk, hfa]
            show ([_, { f with place := x.place, worth := wrapO .i64 (f.worth * x.factor) }], iEq f.kind 1 && iLe (wrapO .i64 (f.worth * x.factor)) 1048576) = _
            rw [← hw, t1, ← hgw, ((plain_field hok2).2.2.2 t2).2]
            rfl]
          show (if iEq (withF rest { f with place := s1 }).2 0 then putAll [s2] [{ f with place := x.place, worth := w }] (withF rest { f with place := s1 }).1 else (([] : List SField), (16 : Int))) = _
          rw [place_self f hfp1, hb1, iEq_same]
          show (if iEq (withF (withoutF l s2).1 { f with place := s2, worth := w }).2 0 then ((withF (withoutF l s2).1 { f with place := s2, worth := w }).1, (0 : Int)) else ([], 16)) = _
          have hgg : ({ f with place := s2, worth := w } : SField) = g := by
            have a1 := ((plain_field hok1).2.2.2 t1).1
            have a2 := ((plain_field hok2).2.2.2 t2).1
            have a3 := (plain_field hok1).1 (kinds 1 t1 3 (by decide))
            have a4 := (plain_field hok2).1 (kinds 1 t2 3 (by decide))
            have a5 := iEq_t.1 t1
            have a6 := iEq_t.1 t2
            clear hf hg
            cases f; cases g
            simp only at a1 a2 a3 a4 a5 a6 hgw hfp2
            subst a1 a2 a3 a4 a5 a6 hgw hfp2
            rfl
          rw [hgg, hback, iEq_same]
          rfl
theorem back_all {l : List SField} {x : SLens} (h0 : (applyF l x).2 = 0) : applyF (applyF l x).1 (turnOf x) = (l, 0) := by
  have hk := kind_range (apply_ok h0).1
  rcases hk with hk | hk | hk | hk | hk | hk | hk | hk | hk | hk
  · exact back_moved h0 1 (iEq_t.2 hk) (.inl rfl)
  · exact back_add h0 (iEq_t.2 hk)
  · exact back_rem h0 (iEq_t.2 hk)
  · exact back_moved h0 4 (iEq_t.2 hk) (.inr (.inl rfl))
  · exact back_moved h0 5 (iEq_t.2 hk) (.inr (.inr rfl))
  · exact back_spread h0 (iEq_t.2 hk)
  · exact back_cast h0 7 (iEq_t.2 hk) (.inl rfl)
  · exact back_cast h0 8 (iEq_t.2 hk) (.inr (.inr rfl))
  · exact back_gather h0 (iEq_t.2 hk)
  · exact back_cast h0 10 (iEq_t.2 hk) (.inr (.inl rfl))
end Go.Proofs.Ytoophkcicdbnfaa
