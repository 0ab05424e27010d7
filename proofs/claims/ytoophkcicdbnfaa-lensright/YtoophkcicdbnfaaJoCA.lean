import Derived.Test.YtoophkcicdbnfaaJoBH
import Derived.Test.YtoophkcicdbnfaaJoCG
/- There and back: spread and gathered; the law. -/
set_option linter.unusedVariables false
set_option linter.unusedSimpArgs false
namespace Go.Proofs.Ytoophkcicdbnfaa
open Go Go.Av
set_option maxRecDepth 100000

theorem find_at {m : List SField} (h : rightFields m = true) {j : Nat} (hj : j < m.length) {r : SRef} (hp : (m.getD j noField).place = r) : placeIn m r = some j := by
  cases q : placeIn m r with
  | none =>
    have := findUpto_none _ _ _ q j (Nat.zero_le _) (by omega)
    rw [hp, sameRef_self] at this
    cases this
  | some k =>
    obtain ⟨_, hk, hpk, _⟩ := findUpto_some _ _ _ _ q
    have := right_one h (by omega) hj ((same_ref.1 hpk).trans hp.symm)
    rw [this]
theorem find_mem {m : List SField} (h : rightFields m = true) {f : SField} (hf : f ∈ m) : ∃ j, placeIn m f.place = some j ∧ m.getD j noField = f := by
  obtain ⟨j, hj, e⟩ := getD_mem hf
  exact ⟨j, find_at h hj (by rw [e]), e⟩
theorem without_is {m : List SField} (h : rightFields m = true) {r : SRef} {j : Nat} (hp : placeIn m r = some j) : (withoutF m r).1 = notAt m r := by
  unfold withoutF; rw [h, hp]; rfl
theorem notAt_comm (m : List SField) (r s : SRef) : notAt (notAt m r) s = notAt (notAt m s) r := by
  unfold notAt
  rw [List.filter_filter, List.filter_filter]
  exact List.filter_congr fun f _ => Bool.and_comm _ _
theorem put_mem {l : List SField} {f g : SField} (h : g ∈ l ∨ g = f) : g ∈ putIn l f := by
  rw [(put_perm l f).mem_iff]
  rcases h with h | h
  · exact List.mem_append_left _ h
  · subst h; exact List.mem_append_right _ (List.mem_singleton.2 rfl)
theorem notAt_mem {l : List SField} {g : SField} {r : SRef} (h : g ∈ l) (hr : g.place ≠ r) : g ∈ notAt l r := by
  unfold notAt
  rw [List.mem_filter]
  refine ⟨h, ?_⟩
  cases q : sameRef g.place r with
  | false => rfl
  | true => exact absurd (same_ref.1 q) hr
theorem at_mem {l : List SField} {j : Nat} (h : j < l.length) : l.getD j noField ∈ l := by
  rw [List.getD_eq_getElem?_getD, List.getElem?_eq_getElem h]; exact List.getElem_mem h
theorem two_places {r : SRef} {a b : ByteArray} (h : a ≠ b) : ({ r with name := a } : SRef) ≠ { r with name := b } := fun e => h (by injection e)

theorem back_spread {l : List SField} {x : SLens} (h0 : (applyF l x).2 = 0) (hk : iEq x.kind 6 = true) : applyF (applyF l x).1 (turnOf x) = (l, 0) := by
  obtain ⟨hx, hl⟩ := apply_ok h0
  have hy := turn_ok x hx
  have k1 := kinds 6 hk 1 (by decide)
  have k2 := kinds 6 hk 2 (by decide)
  have k3 := kinds 6 hk 3 (by decide)
  have k4 := kinds 6 hk 4 (by decide)
  have k5 := kinds 6 hk 5 (by decide)
  have e : turnOf x = { x with kind := 9 } := by unfold turnOf; rw [k1, k2, k3, k4, k5, hk]; rfl
  have hyk : iEq (turnOf x).kind 9 = true := by rw [e]; exact iEq_same _
  have hp : (turnOf x).place = x.place := by rw [e]
  have ho : (turnOf x).other = x.other := by rw [e]
  have hn : (turnOf x).name = x.name := by rw [e]
  have hfa : (turnOf x).factor = x.factor := by rw [e]
  have y1 := kinds 9 hyk 1 (by decide)
  have y2 := kinds 9 hyk 2 (by decide)
  have y3 := kinds 9 hyk 3 (by decide)
  have y4 := kinds 9 hyk 4 (by decide)
  have y5 := kinds 9 hyk 5 (by decide)
  have y6 := kinds 9 hyk 6 (by decide)
  have hne := two_places (r := x.place) (two_facts hx (.inl hk))
  obtain ⟨s1, hs1⟩ : ∃ s, s = ({ x.place with name := x.name } : SRef) := ⟨_, rfl⟩
  obtain ⟨s2, hs2⟩ : ∃ s, s = ({ x.place with name := x.other } : SRef) := ⟨_, rfl⟩
  have hgx : goesOf x = [x.place] := goes_one hx k2 k3 (kinds 6 hk 9 (by decide))
  have hcx : comesOf x = [s1, s2] := by unfold comesOf; rw [hx, k3, k2, k1, k4, k5, hk, hs1, hs2]; rfl
  have hgy : goesOf (turnOf x) = [s1, s2] := by unfold goesOf twoOf; rw [hy, y2, y3, hyk, hp, hn, ho, hs1, hs2]; rfl
  have hcy : comesOf (turnOf x) = [x.place] := by unfold comesOf; rw [hy, y3, y2, y1, y4, y5, y6, hp]; rfl
  rw [← hs1, ← hs2] at hne
  cases hpl : placeIn l x.place with
  | none =>
    have : applyF l x = ([], 16) := by unfold applyF; rw [hl, hx, hgx]; unfold takeAll; rw [hpl]; rfl
    rw [this] at h0; exact absurd h0 (show ¬ (16 : Int) = 0 by decide)
  | some j =>
    obtain ⟨_, hj, hpj, _⟩ := findUpto_some _ _ _ _ hpl
    have hj : j < l.length := by omega
    have hfp := same_ref.1 hpj
    have hback := with_without hl hpl
    obtain ⟨f, hf⟩ : ∃ f, f = l.getD j noField := ⟨_, rfl⟩
    obtain ⟨rest, hrest⟩ : ∃ m, m = (withoutF l x.place).1 := ⟨_, rfl⟩
    obtain ⟨w, hw⟩ : ∃ w, w = wrapO .i64 (f.worth * x.factor) := ⟨_, rfl⟩
    have et : turnedOf x [f] = ([f, { f with worth := w }], iEq f.kind 1 && iLe w 1048576) := by unfold turnedOf; rw [k2, k3, hk, hw]; rfl
    have ea : applyF l x = if (iEq f.kind 1 && iLe w 1048576) then putAll [s1, s2] [f, { f with worth := w }] rest else ([], 16) := by
      unfold applyF
      rw [hl, hx, hgx, hcx]
      unfold takeAll
      rw [hpl]
      show (if (turnedOf x [l.getD j noField]).2 then putAll [s1, s2] (turnedOf x [l.getD j noField]).1 (withoutF l x.place).1 else ([], 16)) = _
      rw [← hf, et, ← hrest]
    rw [← hf, ← hrest] at hback
    cases ht : (iEq f.kind 1 && iLe w 1048576) with
    | false => rw [ea, ht] at h0; exact absurd h0 (show ¬ (16 : Int) = 0 by decide)
    | true =>
      rw [ht] at ea
      have ea : applyF l x = if iEq (withF rest { f with place := s1 }).2 0 then putAll [s2] [{ f with worth := w }] (withF rest { f with place := s1 }).1 else ([], 16) := ea
      cases hz : iEq (withF rest { f with place := s1 }).2 0 with
      | false => rw [ea, hz] at h0; exact absurd h0 (show ¬ (16 : Int) = 0 by decide)
      | true =>
        obtain ⟨q1, q2, q3, q4, q5⟩ := with_zero hz
        rw [hz, q5] at ea
        have ea : applyF l x = if iEq (withF (putIn rest { f with place := s1 }) { f with worth := w, place := s2 }).2 0 then ((withF (putIn rest { f with place := s1 }) { f with worth := w, place := s2 }).1, 0) else ([], 16) := ea
        obtain ⟨m1, hm1⟩ : ∃ m, m = putIn rest { f with place := s1 } := ⟨_, rfl⟩
        have hr1 := put_right q1 q2 q3 q4
        have hwo1 : (withoutF m1 s1).1 = rest := by rw [hm1]; exact congrArg Prod.fst (without_put q1 q2 q3 q4)
        have hp1 : placeIn m1 s1 = some (gapOf rest { f with place := s1 }) := by rw [hm1]; exact put_place q1 q3
        have hin1 : { f with place := s1 } ∈ m1 := by rw [hm1]; exact put_mem (.inr rfl)
        rw [← hm1] at ea hr1
        cases hz2 : iEq (withF m1 { f with worth := w, place := s2 }).2 0 with
        | false => rw [ea, hz2] at h0; exact absurd h0 (show ¬ (16 : Int) = 0 by decide)
        | true =>
          obtain ⟨p1, p2, p3, p4, p5⟩ := with_zero hz2
          rw [hz2, p5] at ea
          obtain ⟨m2, hm2⟩ : ∃ m, m = putIn m1 { f with worth := w, place := s2 } := ⟨_, rfl⟩
          have hr2 := put_right p1 p2 p3 p4
          have hwo2 : (withoutF m2 s2).1 = m1 := by rw [hm2]; exact congrArg Prod.fst (without_put p1 p2 p3 p4)
          have hp2 : placeIn m2 s2 = some (gapOf m1 { f with worth := w, place := s2 }) := by rw [hm2]; exact put_place p1 p3
          have hat2 : m2.getD (gapOf m1 { f with worth := w, place := s2 }) noField = { f with worth := w, place := s2 } := by rw [hm2]; exact at_put p1 p3
          have hin2 : { f with place := s1 } ∈ m2 := by rw [hm2]; exact put_mem (.inl hin1)
          have hin3 : ({ f with worth := w, place := s2 } : SField) ∈ m2 := by rw [hm2]; exact put_mem (.inr rfl)
          rw [← hm2] at ea hr2
          have ea : applyF l x = (m2, 0) := ea
          obtain ⟨i1, hi1, hg1⟩ := find_mem hr2 hin2
          have hi1 : placeIn m2 s1 = some i1 := hi1
          have hra := without_right hr2 s1
          have hina : ({ f with worth := w, place := s2 } : SField) ∈ (withoutF m2 s1).1 := by
            rw [without_is hr2 hi1]; exact notAt_mem hin3 (fun e => hne e.symm)
          obtain ⟨i2, hi2, hg2⟩ := find_mem hra hina
          have hi2 : placeIn (withoutF m2 s1).1 s2 = some i2 := hi2
          have hend : (withoutF (withoutF m2 s1).1 s2).1 = rest := by
            rw [without_is hra hi2, without_is hr2 hi1, notAt_comm, ← without_is hr2 hp2, hwo2, ← without_is hr1 hp1, hwo1]
          rw [ea]
          show applyF m2 (turnOf x) = (l, 0)
          unfold applyF
          rw [hr2, hy, hgy, hcy]
          unfold takeAll
          rw [hi1]
          unfold takeAll
          rw [hp2]
          show (if (turnedOf (turnOf x) [m2.getD i1 noField, m2.getD (gapOf m1 { f with worth := w, place := s2 }) noField]).2 then putAll [x.place] (turnedOf (turnOf x) [m2.getD i1 noField, m2.getD (gapOf m1 { f with worth := w, place := s2 }) noField]).1 (withoutF (withoutF m2 s1).1 s2).1 else (([] : List SField), (16 : Int))) = _
          rw [hend, hg1, hat2]
          have hk1 : iEq f.kind 1 = true := by rw [Bool.and_eq_true] at ht; exact ht.1
          rw [show turnedOf (turnOf x) [{ f with place := s1 }, { f with worth := w, place := s2 }] = ([{ f with place := s1 }], true) by
            unfold turnedOf
            rw [y2, y3, y6, hyk, hfa]
            show (_, iEq f.kind 1 && (iEq f.kind 1 && iEq w (wrapO .i64 (f.worth * x.factor)))) = _
            rw [hk1, ← hw, iEq_same]
            rfl]
          show (if iEq (withF rest { f with place := x.place }).2 0 then ((withF rest { f with place := x.place }).1, (0 : Int)) else ([], 16)) = _
          rw [place_self f (by rw [hf]; exact hfp), hback, iEq_same]
          rfl

theorem back_gather {l : List SField} {x : SLens} (h0 : (applyF l x).2 = 0) (hk : iEq x.kind 9 = true) : applyF (applyF l x).1 (turnOf x) = (l, 0) := by
  obtain ⟨hx, hl⟩ := apply_ok h0
  have hy := turn_ok x hx
  have k1 := kinds 9 hk 1 (by decide)
  have k2 := kinds 9 hk 2 (by decide)
  have k3 := kinds 9 hk 3 (by decide)
  have k4 := kinds 9 hk 4 (by decide)
  have k5 := kinds 9 hk 5 (by decide)
  have k6 := kinds 9 hk 6 (by decide)
  have e : turnOf x = { x with kind := 6 } := by unfold turnOf; rw [k1, k2, k3, k4, k5, k6, hk]; rfl
  have hyk : iEq (turnOf x).kind 6 = true := by rw [e]; exact iEq_same _
  have hp : (turnOf x).place = x.place := by rw [e]
  have ho : (turnOf x).other = x.other := by rw [e]
  have hn : (turnOf x).name = x.name := by rw [e]
  have hfa : (turnOf x).factor = x.factor := by rw [e]
  have y1 := kinds 6 hyk 1 (by decide)
  have y2 := kinds 6 hyk 2 (by decide)
  have y3 := kinds 6 hyk 3 (by decide)
  have y4 := kinds 6 hyk 4 (by decide)
  have y5 := kinds 6 hyk 5 (by decide)
  have y9 := kinds 6 hyk 9 (by decide)
  have hne := two_places (r := x.place) (two_facts hx (.inr hk))
  obtain ⟨s1, hs1⟩ : ∃ s, s = ({ x.place with name := x.name } : SRef) := ⟨_, rfl⟩
  obtain ⟨s2, hs2⟩ : ∃ s, s = ({ x.place with name := x.other } : SRef) := ⟨_, rfl⟩
  have hgx : goesOf x = [s1, s2] := by unfold goesOf twoOf; rw [hx, k2, k3, hk, hs1, hs2]; rfl
  have hcx : comesOf x = [x.place] := by unfold comesOf; rw [hx, k3, k2, k1, k4, k5, k6]; rfl
  have hgy : goesOf (turnOf x) = [x.place] := by rw [goes_one hy y2 y3 y9, hp]
  have hcy : comesOf (turnOf x) = [s1, s2] := by unfold comesOf twoOf; rw [hy, y3, y2, y1, y4, y5, hyk, hp, hn, ho, hs1, hs2]; rfl
  rw [← hs1, ← hs2] at hne
  cases hp1 : placeIn l s1 with
  | none =>
    have : applyF l x = ([], 16) := by unfold applyF; rw [hl, hx, hgx]; unfold takeAll; rw [hp1]; rfl
    rw [this] at h0; exact absurd h0 (show ¬ (16 : Int) = 0 by decide)
  | some j1 =>
    cases hp2 : placeIn l s2 with
    | none =>
      have : applyF l x = ([], 16) := by unfold applyF; rw [hl, hx, hgx]; unfold takeAll; rw [hp1]; unfold takeAll; rw [hp2]; rfl
      rw [this] at h0; exact absurd h0 (show ¬ (16 : Int) = 0 by decide)
    | some j2 =>
      obtain ⟨_, hj1, hpj1, _⟩ := findUpto_some _ _ _ _ hp1
      obtain ⟨_, hj2, hpj2, _⟩ := findUpto_some _ _ _ _ hp2
      have hj1 : j1 < l.length := by omega
      have hj2 : j2 < l.length := by omega
      have hfp1 := same_ref.1 hpj1
      have hfp2 := same_ref.1 hpj2
      have hok1 := (right_step hl hj1).1
      have hok2 := (right_step hl hj2).1
      have hmem1 := at_mem hj1
      have hmem2 := at_mem hj2
      have hback := with_without hl hp2
      obtain ⟨f, hf⟩ : ∃ f, f = l.getD j1 noField := ⟨_, rfl⟩
      obtain ⟨g, hg⟩ : ∃ f, f = l.getD j2 noField := ⟨_, rfl⟩
      rw [← hf] at hfp1 hok1 hmem1
      rw [← hg] at hfp2 hok2 hmem2 hback
      obtain ⟨rest, hrest⟩ : ∃ m, m = (withoutF (withoutF l s1).1 s2).1 := ⟨_, rfl⟩
      obtain ⟨w, hw⟩ : ∃ w, w = wrapO .i64 (f.worth * x.factor) := ⟨_, rfl⟩
      have et : turnedOf x [f, g] = ([f], iEq f.kind 1 && (iEq g.kind 1 && iEq g.worth w)) := by unfold turnedOf; rw [k2, k3, k6, hk, hw]; rfl
      have ea : applyF l x = if (iEq f.kind 1 && (iEq g.kind 1 && iEq g.worth w)) then putAll [x.place] [f] rest else ([], 16) := by
        unfold applyF
        rw [hl, hx, hgx, hcx]
        unfold takeAll
        rw [hp1]
        unfold takeAll
        rw [hp2]
        show (if (turnedOf x [l.getD j1 noField, l.getD j2 noField]).2 then putAll [x.place] (turnedOf x [l.getD j1 noField, l.getD j2 noField]).1 (withoutF (withoutF l s1).1 s2).1 else ([], 16)) = _
        rw [← hf, ← hg, et, ← hrest]
      cases ht : (iEq f.kind 1 && (iEq g.kind 1 && iEq g.worth w)) with
      | false => rw [ea, ht] at h0; exact absurd h0 (show ¬ (16 : Int) = 0 by decide)
      | true =>
        rw [ht] at ea
        have ea : applyF l x = if iEq (withF rest { f with place := x.place }).2 0 then ((withF rest { f with place := x.place }).1, 0) else ([], 16) := ea
        cases hz : iEq (withF rest { f with place := x.place }).2 0 with
        | false => rw [ea, hz] at h0; exact absurd h0 (show ¬ (16 : Int) = 0 by decide)
        | true =>
          obtain ⟨q1, q2, q3, q4, q5⟩ := with_zero hz
          rw [hz, q5] at ea
          obtain ⟨m1, hm1⟩ : ∃ m, m = putIn rest { f with place := x.place } := ⟨_, rfl⟩
          have hr1 := put_right q1 q2 q3 q4
          have hwo1 : (withoutF m1 x.place).1 = rest := by rw [hm1]; exact congrArg Prod.fst (without_put q1 q2 q3 q4)
          have hpl1 : placeIn m1 x.place = some (gapOf rest { f with place := x.place }) := by rw [hm1]; exact put_place q1 q3
          have hat1 : m1.getD (gapOf rest { f with place := x.place }) noField = { f with place := x.place } := by rw [hm1]; exact at_put q1 q3
          rw [← hm1] at hr1 ea
          have ea : applyF l x = (m1, 0) := ea
          simp only [Bool.and_eq_true] at ht
          obtain ⟨t1, t2, t3⟩ := ht
          -- the rest, taken the other way round
          have hra := without_right hl s2
          have hina : f ∈ (withoutF l s2).1 := by rw [without_is hl hp2]; exact notAt_mem hmem1 (by rw [hfp1]; exact hne)
          obtain ⟨i1, hi1, hg1⟩ := find_mem hra hina
          rw [hfp1] at hi1
          have hrb := without_right hl s1
          have hinb : g ∈ (withoutF l s1).1 := by rw [without_is hl hp1]; exact notAt_mem hmem2 (by rw [hfp2]; exact fun e => hne e.symm)
          obtain ⟨i2, hi2, hg2⟩ := find_mem hrb hinb
          rw [hfp2] at hi2
          have hend : rest = (withoutF (withoutF l s2).1 s1).1 := by
            rw [hrest, without_is hrb hi2, without_is hl hp1, notAt_comm, ← without_is hl hp2, ← without_is hra hi1]
          have hb1 := with_without hra hi1
          rw [hg1, ← hend] at hb1
          rw [ea]
          show applyF m1 (turnOf x) = (l, 0)
          unfold applyF
          rw [hr1, hy, hgy, hcy]
          unfold takeAll
          rw [hpl1]
          show (if (turnedOf (turnOf x) [m1.getD (gapOf rest { f with place := x.place }) noField]).2 then putAll [s1, s2] (turnedOf (turnOf x) [m1.getD (gapOf rest { f with place := x.place }) noField]).1 (withoutF m1 x.place).1 else (([] : List SField), (16 : Int))) = _
          rw [hwo1, hat1]
          have hgw : g.worth = w := iEq_t.1 t3
          rw [show turnedOf (turnOf x) [{ f with place := x.place }] = ([{ f with place := x.place }, { f with place := x.place, worth := w }], true) by
            unfold turnedOf
            rw [y2, y3, hyk, hfa]
            show ([_, { f with place := x.place, worth := wrapO .i64 (f.worth * x.factor) }], iEq f.kind 1 && iLe (wrapO .i64 (f.worth * x.factor)) 1048576) = _
            rw [← hw, t1, ← hgw, ((plain_field hok2).2.2.2 t2).2]
            rfl]
          show (if iEq (withF rest { f with place := s1 }).2 0 then putAll [s2] [{ f with place := x.place, worth := w }] (withF rest { f with place := s1 }).1 else (([] : List SField), (16 : Int))) = _
          rw [place_self f hfp1, hb1, iEq_same]
          show (if iEq (withF (withoutF l s2).1 { f with place := s2, worth := w }).2 0 then ((withF (withoutF l s2).1 { f with place := s2, worth := w }).1, (0 : Int)) else ([], 16)) = _
          have hgg : ({ f with place := s2, worth := w } : SField) = g := by
            have a1 := ((plain_field hok1).2.2.2 t1).1
            have a2 := ((plain_field hok2).2.2.2 t2).1
            have a3 := (plain_field hok1).1 (kinds 1 t1 3 (by decide))
            have a4 := (plain_field hok2).1 (kinds 1 t2 3 (by decide))
            have a5 := iEq_t.1 t1
            have a6 := iEq_t.1 t2
            clear hf hg
            cases f; cases g
            simp only at a1 a2 a3 a4 a5 a6 hgw hfp2
            subst a1 a2 a3 a4 a5 a6 hgw hfp2
            rfl
          rw [hgg, hback, iEq_same]
          rfl
theorem back_all {l : List SField} {x : SLens} (h0 : (applyF l x).2 = 0) : applyF (applyF l x).1 (turnOf x) = (l, 0) := by
  have hk := kind_range (apply_ok h0).1
  rcases hk with hk | hk | hk | hk | hk | hk | hk | hk | hk | hk
  · exact back_moved h0 1 (iEq_t.2 hk) (.inl rfl)
  · exact back_add h0 (iEq_t.2 hk)
  · exact back_rem h0 (iEq_t.2 hk)
  · exact back_moved h0 4 (iEq_t.2 hk) (.inr (.inl rfl))
  · exact back_moved h0 5 (iEq_t.2 hk) (.inr (.inr rfl))
  · exact back_spread h0 (iEq_t.2 hk)
  · exact back_cast h0 7 (iEq_t.2 hk) (.inl rfl)
  · exact back_cast h0 8 (iEq_t.2 hk) (.inr (.inr rfl))
  · exact back_gather h0 (iEq_t.2 hk)
  · exact back_cast h0 10 (iEq_t.2 hk) (.inr (.inl rfl))
end Go.Proofs.Ytoophkcicdbnfaa

/- The reference's way of putting comes to the same as the code's: plain law. -/
set_option linter.unusedVariables false
set_option linter.unusedSimpArgs false
namespace Go.Proofs.Ytoophkcicdbnfaa
open Go Go.Av
set_option maxRecDepth 100000

theorem place_lt {l : List SField} {r : SRef} {j : Nat} (h : placeIn l r = some j) : j < l.length := by
  obtain ⟨_, h, _, _⟩ := findUpto_some _ _ _ _ h
  omega
theorem one_len {α : Type} {c : List α} (h : c.length = 1) : ∃ a, c = [a] := by
  match c, h with
  | [a], _ => exact ⟨a, rfl⟩
theorem two_len {α : Type} {c : List α} (h : c.length = 2) : ∃ a b, c = [a, b] := by
  match c, h with
  | [a, b], _ => exact ⟨a, b, rfl⟩
section
variable {l : List SField} {x : SLens} {rest was : List SField}
theorem fin_none {b : Bool} (h1 : rightFields l = true) (h2 : lensOk x = true) (ht : takeAll l (goesOf x) l [] = some (rest, was)) (hc : comesOf x = []) (hb : (turnedOf x was).2 = b) : applyF l x = if b then (rest, 0) else ([], 16) := by
  subst hb
  unfold applyF
  rw [h1, h2, ht, hc]
  rfl
theorem fin_one {b : Bool} {f : SField} (h1 : rightFields l = true) (h2 : lensOk x = true) (ht : takeAll l (goesOf x) l [] = some (rest, was)) (hc : (comesOf x).length = 1) (hb : (turnedOf x was).2 = b)
    (hf : b = true → { (turnedOf x was).1.getD 0 noField with place := (comesOf x).getD 0 noRef } = f) : applyF l x = if b && iEq (withF rest f).2 0 then ((withF rest f).1, 0) else ([], 16) := by
  subst hb
  obtain ⟨r, hc⟩ := one_len hc
  rw [hc] at hf
  unfold applyF
  rw [h1, h2, ht, hc]
  show (if (turnedOf x was).2 = true then putAll [r] (turnedOf x was).1 rest else ([], 16)) = _
  cases q : (turnedOf x was).2 with
  | false => rfl
  | true =>
    have hf : { (turnedOf x was).1.getD 0 noField with place := r } = f := hf q
    show (if iEq (withF rest { (turnedOf x was).1.getD 0 noField with place := r }).2 0 then ((withF rest { (turnedOf x was).1.getD 0 noField with place := r }).1, (0 : Int)) else ([], 16)) = _
    rw [hf]
    rfl
theorem fin_two {b : Bool} {f g : SField} (h1 : rightFields l = true) (h2 : lensOk x = true) (ht : takeAll l (goesOf x) l [] = some (rest, was)) (hc : (comesOf x).length = 2) (hn : (turnedOf x was).1.length = 2) (hb : (turnedOf x was).2 = b)
    (hf : b = true → { (turnedOf x was).1.getD 0 noField with place := (comesOf x).getD 0 noRef } = f) (hg : b = true → { (turnedOf x was).1.getD 1 noField with place := (comesOf x).getD 1 noRef } = g) :
    applyF l x = if (b && iEq (withF rest f).2 0) && iEq (withF (withF rest f).1 g).2 0 then ((withF (withF rest f).1 g).1, 0) else ([], 16) := by
  subst hb
  obtain ⟨r, s, hc⟩ := two_len hc
  obtain ⟨u, v, hn⟩ := two_len hn
  rw [hc, hn] at hf
  rw [hc, hn] at hg
  unfold applyF
  rw [h1, h2, ht, hc]
  show (if (turnedOf x was).2 = true then putAll [r, s] (turnedOf x was).1 rest else ([], 16)) = _
  rw [hn]
  cases q : (turnedOf x was).2 with
  | false => rfl
  | true =>
    have hf : { u with place := r } = f := hf q
    have hg : { v with place := s } = g := hg q
    show (if iEq (withF rest { u with place := r }).2 0 then (if iEq (withF (withF rest { u with place := r }).1 { v with place := s }).2 0 then ((withF (withF rest { u with place := r }).1 { v with place := s }).1, (0 : Int)) else ([], 16)) else ([], 16)) = _
    rw [hf, hg]
    cases iEq (withF rest f).2 0 <;> rfl
theorem plainF {f : SField} (h : fieldOk f = true) (k : iEq f.kind 1 = true) (r : SRef) : { f with place := r } = ({ noField with place := r, kind := 1, worth := f.worth } : SField) := by
  obtain ⟨a, _, _, b⟩ := plain_field h
  have a3 := a (kinds 1 k 3 (by decide))
  have b3 := (b k).1
  have k3 := iEq_t.1 k
  clear a b h k
  obtain ⟨p, c, d, e, w⟩ := f
  simp only at a3 b3 k3
  subst a3 b3 k3
  rfl
theorem comes_one (h : lensOk x = true) (h3 : iEq x.kind 3 = false) (h6 : iEq x.kind 6 = false) : (comesOf x).length = 1 := by
  unfold comesOf
  rw [h, h3, h6]
  cases iEq x.kind 2 <;> cases iEq x.kind 1 <;> cases iEq x.kind 4 <;> cases iEq x.kind 5 <;> rfl
theorem comes_two (h : lensOk x = true) (h6 : iEq x.kind 6 = true) : (comesOf x).length = 2 := by
  unfold comesOf
  rw [h, kinds 6 h6 3 (by decide), kinds 6 h6 2 (by decide), kinds 6 h6 1 (by decide), kinds 6 h6 4 (by decide), kinds 6 h6 5 (by decide), h6]
  rfl
variable (h1 : rightFields l = true) (h2 : lensOk x = true) (ht : takeAll l (goesOf x) l [] = some (rest, was))
include h1 h2 ht
theorem fin_moved (k : Int) (hk : iEq x.kind k = true) (hkk : k = 1 ∨ k = 4 ∨ k = 5) {ok : Bool} (ho : (true && iEq (withF rest { was.getD 0 noField with place := (comesOf x).getD 0 noRef }).2 0) = ok) :
    applyF l x = if ok then ((withF rest { was.getD 0 noField with place := (comesOf x).getD 0 noRef }).1, 0) else ([], 16) := by
  subst ho
  have e := was_moved was k hk hkk
  refine fin_one (b := true) h1 h2 ht (comes_one h2 ?_ ?_) (by rw [e]) (fun _ => by rw [e])
  · rcases hkk with rfl | rfl | rfl
    · exact kinds 1 hk 3 (by decide)
    · exact kinds 4 hk 3 (by decide)
    · exact kinds 5 hk 3 (by decide)
  · rcases hkk with rfl | rfl | rfl
    · exact kinds 1 hk 6 (by decide)
    · exact kinds 4 hk 6 (by decide)
    · exact kinds 5 hk 6 (by decide)
theorem fin_added (hk : iEq x.kind 2 = true) {ok : Bool} (ho : (true && iEq (withF rest x.field).2 0) = ok) : applyF l x = if ok then ((withF rest x.field).1, 0) else ([], 16) := by
  subst ho
  have e : turnedOf x was = ([x.field], true) := by unfold turnedOf; rw [hk]; rfl
  have c : comesOf x = [x.field.place] := by unfold comesOf; rw [h2, kinds 2 hk 3 (by decide), hk]; rfl
  exact fin_one (b := true) h1 h2 ht (by rw [c]; rfl) (by rw [e]) (fun _ => by rw [e, c]; rfl)
theorem fin_gone (hk : iEq x.kind 3 = true) {ok : Bool} (ho : sameField (was.getD 0 noField) x.field = ok) : applyF l x = if ok then (rest, 0) else ([], 16) := by
  subst ho
  exact fin_none h1 h2 ht (comes_nil hk) (by unfold turnedOf; rw [kinds 3 hk 2 (by decide), hk]; rfl)
theorem fin_spread (hk : iEq x.kind 6 = true) (hw : fieldOk (was.getD 0 noField) = true) {b ok : Bool} {f g : SField} (hb : (iEq (was.getD 0 noField).kind 1 && iLt (wrapO .i64 ((was.getD 0 noField).worth * x.factor)) 1048577) = b)
    (hf : f = { noField with place := (comesOf x).getD 0 noRef, kind := 1, worth := (was.getD 0 noField).worth }) (hg : g = { noField with place := (comesOf x).getD 1 noRef, kind := 1, worth := wrapO .i64 ((was.getD 0 noField).worth * x.factor) })
    (ho : ((b && iEq (withF rest f).2 0) && iEq (withF (withF rest f).1 g).2 0) = ok) : applyF l x = if ok then ((withF (withF rest f).1 g).1, 0) else ([], 16) := by
  subst ho
  have e : turnedOf x was = ([w0 was, { w0 was with worth := wrapO .i64 ((w0 was).worth * x.factor) }], iEq (w0 was).kind 1 && iLe (wrapO .i64 ((w0 was).worth * x.factor)) 1048576) := by
    unfold turnedOf; rw [kinds 6 hk 2 (by decide), kinds 6 hk 3 (by decide), hk]; rfl
  have e2 : iLe (wrapO .i64 ((w0 was).worth * x.factor)) 1048576 = iLt (wrapO .i64 ((w0 was).worth * x.factor)) 1048577 := by
    rw [Bool.eq_iff_iff, iLe_t, iLt_t]; omega
  rw [e2] at e
  have hk1 : b = true → iEq (was.getD 0 noField).kind 1 = true := fun h => by rw [← hb, Bool.and_eq_true] at h; exact h.1
  refine fin_two h1 h2 ht (comes_two h2 hk) (by rw [e]; rfl) (by rw [e]; exact hb) (fun h => ?_) (fun h => ?_)
  · rw [e, hf]; exact plainF hw (hk1 h) _
  · rw [e, hg]
    have := plainF hw (hk1 h) ((comesOf x).getD 1 noRef)
    show ({ { was.getD 0 noField with place := (comesOf x).getD 1 noRef } with worth := wrapO .i64 ((was.getD 0 noField).worth * x.factor) } : SField) = _
    rw [this]
theorem fin_gathered (hk : iEq x.kind 9 = true) (hw : fieldOk (was.getD 0 noField) = true) {b ok : Bool} {f : SField} (hb : (iEq (was.getD 0 noField).kind 1 && (iEq (was.getD 1 noField).kind 1 && iEq (was.getD 1 noField).worth (wrapO .i64 ((was.getD 0 noField).worth * x.factor)))) = b)
    (hf : f = { noField with place := (comesOf x).getD 0 noRef, kind := 1, worth := (was.getD 0 noField).worth })
    (ho : (b && iEq (withF rest f).2 0) = ok) : applyF l x = if ok then ((withF rest f).1, 0) else ([], 16) := by
  subst ho
  have e : turnedOf x was = ([w0 was], iEq (w0 was).kind 1 && (iEq (w1 was).kind 1 && iEq (w1 was).worth (wrapO .i64 ((w0 was).worth * x.factor)))) := by
    unfold turnedOf; rw [kinds 9 hk 2 (by decide), kinds 9 hk 3 (by decide), kinds 9 hk 6 (by decide), hk]; rfl
  have hk1 : b = true → iEq (was.getD 0 noField).kind 1 = true := fun h => by rw [← hb, Bool.and_eq_true] at h; exact h.1
  refine fin_one h1 h2 ht (comes_one h2 (kinds 9 hk 3 (by decide)) (kinds 9 hk 6 (by decide))) (by rw [e]; exact hb) (fun h => ?_)
  rw [e, hf]; exact plainF hw (hk1 h) _
theorem fin_opened (hk : iEq x.kind 7 = true) {b ok : Bool} {f : SField} (hb : (iEq (was.getD 0 noField).kind 2 && sEq (was.getD 0 noField).dflt x.other) = b)
    (hf : f = { noField with place := (comesOf x).getD 0 noRef, kind := 4 })
    (ho : (b && iEq (withF rest f).2 0) = ok) : applyF l x = if ok then ((withF rest f).1, 0) else ([], 16) := by
  subst ho
  have e : turnedOf x was = ([{ noField with kind := 4 }], iEq (w0 was).kind 2 && sEq (w0 was).dflt x.other) := by
    unfold turnedOf; rw [kinds 7 hk 2 (by decide), kinds 7 hk 3 (by decide), kinds 7 hk 6 (by decide), kinds 7 hk 9 (by decide), hk]; rfl
  exact fin_one h1 h2 ht (comes_one h2 (kinds 7 hk 3 (by decide)) (kinds 7 hk 6 (by decide))) (by rw [e]; exact hb) (fun h => by rw [e, hf]; rfl)
theorem fin_closed (hk : iEq x.kind 10 = true) {b ok : Bool} {f : SField} (hb : iEq (was.getD 0 noField).kind 4 = b)
    (hf : f = { noField with place := (comesOf x).getD 0 noRef, kind := 2, dflt := x.other })
    (ho : (b && iEq (withF rest f).2 0) = ok) : applyF l x = if ok then ((withF rest f).1, 0) else ([], 16) := by
  subst ho
  have e : turnedOf x was = ([{ noField with kind := 2, dflt := x.other }], iEq (w0 was).kind 4) := by
    unfold turnedOf; rw [kinds 10 hk 2 (by decide), kinds 10 hk 3 (by decide), kinds 10 hk 6 (by decide), kinds 10 hk 9 (by decide), kinds 10 hk 7 (by decide), hk]; rfl
  exact fin_one h1 h2 ht (comes_one h2 (kinds 10 hk 3 (by decide)) (kinds 10 hk 6 (by decide))) (by rw [e]; exact hb) (fun h => by rw [e, hf]; rfl)
theorem fin_cased (hk : iEq x.kind 8 = true) {b ok : Bool} {f : SField} (hb : (iEq (was.getD 0 noField).kind 3 && (sEq (was.getD 0 noField).dflt x.name && sameStrs (was.getD 0 noField).cases (fromsOf x.forth))) = b)
    (hf : f = { noField with place := (comesOf x).getD 0 noRef, kind := 3, dflt := x.other, cases := fromsOf x.back })
    (ho : (b && iEq (withF rest f).2 0) = ok) : applyF l x = if ok then ((withF rest f).1, 0) else ([], 16) := by
  subst ho
  have e : turnedOf x was = ([{ noField with kind := 3, dflt := x.other, cases := fromsOf x.back }], iEq (w0 was).kind 3 && (sEq (w0 was).dflt x.name && sameStrs (w0 was).cases (fromsOf x.forth))) := by
    unfold turnedOf; rw [kinds 8 hk 2 (by decide), kinds 8 hk 3 (by decide), kinds 8 hk 6 (by decide), kinds 8 hk 9 (by decide), kinds 8 hk 7 (by decide), kinds 8 hk 10 (by decide), hk]; rfl
  exact fin_one h1 h2 ht (comes_one h2 (kinds 8 hk 3 (by decide)) (kinds 8 hk 6 (by decide))) (by rw [e]; exact hb) (fun h => by rw [e, hf]; rfl)
end
end Go.Proofs.Ytoophkcicdbnfaa

/- The reference: where a lens leads. -/
set_option linter.unusedVariables false
set_option linter.unusedSimpArgs false
namespace Go.Proofs.Ytoophkcicdbnfaa
open Go Go.Av
set_option maxRecDepth 100000
set_option maxHeartbeats 4000000

theorem nott {b : Bool} (h : (!b) = true) : b = false := by cases b; rfl; cases h
theorem notf {b : Bool} (h : (!b) = false) : b = true := by cases b; cases h; rfl
theorem allLe3 {a b c d e f : AV} (h1 : RepLe a d) (h2 : RepLe b e) (h3 : RepLe c f) : allLe [a, b, c] [d, e, f] := ⟨h1, h2, h3, trivial⟩
def rp (l : List SField) (x : SLens) (p : Nat × List SField × List SField) : St :=
  told 283 [(0, .p (encFields l)), (3, .pt 0 0), (6, .p (encFields p.2.1)), (7, .sl 16384), (8, .p (encRefs (goesOf x))), (9, vI .i64 (p.1 : Int))] [(0, some (.box 33 ((lensCells x).map .p))), (16384, rowFields p.2.2)] [0, 16384]
theorem f50 (l : List SField) (x : SLens) (hl : fitFields l) (hx : fitLens x) : PCall Try.prog 50 [encFields l, encLens x] (encTake (applyF l x)) [] := by
  have hlen := hl.1
  refine gcode hT hM Try.func50 rfl rfl (rv := [(4, none), (5, none)]) rfl rfl rfl fun G hG => ?_
  conv => whnf
  refine CallK.lent (f34 l hl.ok) rfl ?_
  conv => whnf
  refine ⟨fun h1 => ?_, fun h1 => ?_⟩
  · have h1 : rightFields l = false := by simpa using h1
    conv => whnf
    exact ⟨[], _, _, _, rfl, rfl, rfl, by unfold applyF; rw [h1]; exact nil_take, trivial⟩
  have h1 : rightFields l = true := by simpa using h1
  conv => whnf
  refine CallK.lent (f56 x hx) rfl ?_
  conv => whnf
  refine ⟨fun h2 => ?_, fun h2 => ?_⟩
  · have h2 : lensOk x = false := by simpa using h2
    conv => whnf
    exact ⟨[], _, _, _, rfl, rfl, rfl, by unfold applyF; rw [h1, h2]; exact nil_take, trivial⟩
  have h2 : lensOk x = true := by simpa using h2
  conv => whnf
  have c59 := f59 x
  rw [goes2_eq h2] at c59
  refine CallK.go [] (c59) rfl rfl rfl rfl rfl ?_
  conv => whnf
  have hgl : (goesOf x).length ≤ 2 := by rw [goes_len h2]; cases iEq x.kind 2 <;> cases iEq x.kind 3 <;> cases iEq x.kind 9 <;> decide
  refine AW.loop (X := Nat × List SField × List SField) (rp l x) (fun p => p.1 ≤ (goesOf x).length ∧ p.2.2.length = p.1 ∧ fitFields p.2.1 ∧ (∀ y ∈ p.2.2, y ∈ l) ∧ takeAll l (goesOf x) l [] = takeAll l ((goesOf x).drop p.1) p.2.1 p.2.2) (fun p => (goesOf x).length - p.1) (used0 hG _) (0, l, []) ⟨Nat.zero_le _, rfl, hl, fun y hy => by simp at hy, rfl⟩
    (show StLe _ (rp l x (0, l, [])) from stle ⟨RepLe.refl _, RepLe.refl _, RepLe.refl _, RepLe.refl _, RepLe.refl _, RepLe.refl _, trivial⟩ ⟨⟨_, rfl, BlkLe.refl _⟩, ⟨_, rfl, BlkLe.rowLe rfl fun a b ha hb => absurd ha (Nat.not_lt_zero _)⟩, trivial⟩ rfl) ?_
  rintro ⟨i, rest, was⟩ ⟨hi, hwl, hfr, hwf, hr⟩
  have hi : i ≤ (goesOf x).length := hi
  have hwl : was.length = i := hwl
  have hfr : fitFields rest := hfr
  have hwf : ∀ y ∈ was, y ∈ l := hwf
  have hr : takeAll l (goesOf x) l [] = takeAll l ((goesOf x).drop i) rest was := hr
  refine codeK_aw hT hM _ _ _ ?_
  conv => whnf
  refine ⟨fun h4 => ?_, fun h4 => ?_⟩
  · have hlt : i < (goesOf x).length := by rw [iLt_t] at h4; omega
    rw [take_step l (goesOf x) rest was hlt] at hr
    have c31 := f31 l ((goesOf x).getD i noRef) hl.ok
    conv => whnf
    refine ⟨by omega, ?_⟩
    conv => whnf
    cases q : placeIn l ((goesOf x).getD i noRef) with
    | none =>
      rw [q] at hr c31
      have ha : applyF l x = ([], 16) := by unfold applyF; rw [h1, h2, hr]; rfl
      refine CallK.go [] (c31) rfl rfl rfl rfl rfl ?_
      conv => whnf
      refine ⟨fun e1 => ?_, fun e1 => ?_⟩
      · conv => whnf
        exact ⟨[], _, _, _, rfl, rfl, rfl, by rw [ha]; exact nil_take, trivial⟩
      · rw [iLt_f] at e1
        exact absurd e1 (show ¬ (0 : Int) ≤ -1 by decide)
    | some j =>
      rw [q] at hr c31
      have hr : takeAll l (goesOf x) l [] = takeAll l ((goesOf x).drop (i + 1)) (withoutF rest ((goesOf x).getD i noRef)).1 (was ++ [l.getD j noField]) := hr
      have hj := place_lt q
      refine CallK.go [] (c31) rfl rfl rfl rfl rfl ?_
      conv => whnf
      refine ⟨fun e1 => ?_, fun e1 => ?_⟩
      · rw [iLt_t] at e1
        exact absurd e1 (show ¬ ((j : Nat) : Int) < 0 by omega)
      conv => whnf
      refine ⟨⟨Int.natCast_nonneg _, Int.ofNat_lt.2 hj⟩, ?_⟩
      conv => whnf
      refine ⟨⟨show was.length + 1 ≤ 9223372036854775807 by omega, show (was.length + 1) * 96 ≤ 140737488355328 by omega⟩, ?_⟩
      conv => whnf
      refine ⟨by omega, ?_⟩
      conv => whnf
      refine CallK.go [] (f47 rest ((goesOf x).getD i noRef) hfr) rfl rfl rfl rfl rfl ?_
      conv => whnf
      intro z hz
      have hy := wrap64_eq hz (by omega) (by omega)
      clear hz
      subst hy
      conv => whnf
      refine ⟨(i + 1, (withoutF rest ((goesOf x).getD i noRef)).1, was ++ [l.getD j noField]), ⟨by omega, by simp [hwl], without_fit hfr, fun y hy => by
          rcases List.mem_append.1 hy with h | h
          · exact hwf y h
          · rw [List.mem_singleton.1 h]; exact at_mem hj, hr⟩, by show (goesOf x).length - (i + 1) < (goesOf x).length - i; omega,
        (show StLe _ (rp l x (i + 1, (withoutF rest ((goesOf x).getD i noRef)).1, was ++ [l.getD j noField])) from stleR [(16384, 49200)] ⟨RepLe.refl _, RepLe.refl _, RepLe.refl _, RepLe.refl _, RepLe.refl _, RepLe.of rfl, trivial⟩ ⟨⟨_, rfl, BlkLe.refl _⟩, ⟨_, rfl, rowSnoc _ _ (seven (PLe.refl _) (PLe.refl _) (PLe.refl _) (PLe.refl _) (PLe.refl _) (PLe.refl _) (PLe.refl _))⟩, trivial⟩ rfl)⟩
  have hge : i = (goesOf x).length := by rw [iLt_f] at h4; omega
  rw [hge, List.drop_length] at hr
  have ht : takeAll l (goesOf x) l [] = some (rest, was) := hr
  have hwn : was.length = (goesOf x).length := hwl.trans hge
  have hwl2 : was.length ≤ 2 := by omega
  have hwp : iEq x.kind 2 = false → 0 < was.length := fun h => by rw [hwn, goes_len h2, h]; cases iEq x.kind 3 <;> cases iEq x.kind 9 <;> decide
  have hwo : 0 < was.length → fieldOk (was.getD 0 noField) = true := fun h => by
    obtain ⟨j, hj, e⟩ := getD_mem (hwf _ (at_mem h))
    rw [← e]; exact (right_step h1 hj).1
  have hwa : ∀ k, fitField (was.getD k noField) := was_at fun y hy => hl.2 y (hwf y hy)
  have c60 := f60 x
  rw [comes2_eq h2] at c60
  clear h4 hr hi hwl hge c59
  conv => whnf
  refine CallK.go [] (c60) rfl rfl rfl rfl rfl ?_
  conv => whnf
  rcases kind_range h2 with k | k | k | k | k | k | k | k | k | k
  · have kk : iEq x.kind 1 = true := iEq_t.2 k
    have q1 : iEq x.kind 1 = true := kk
    have q2 : iEq x.kind 2 = false := kinds 1 kk 2 (by decide)
    have q3 : iEq x.kind 3 = false := kinds 1 kk 3 (by decide)
    have q4 : iEq x.kind 4 = false := kinds 1 kk 4 (by decide)
    have q5 : iEq x.kind 5 = false := kinds 1 kk 5 (by decide)
    have q6 : iEq x.kind 6 = false := kinds 1 kk 6 (by decide)
    have q7 : iEq x.kind 7 = false := kinds 1 kk 7 (by decide)
    have q8 : iEq x.kind 8 = false := kinds 1 kk 8 (by decide)
    have q9 : iEq x.kind 9 = false := kinds 1 kk 9 (by decide)
    have q10 : iEq x.kind 10 = false := kinds 1 kk 10 (by decide)
    have hw := hwp q2
    have hc := comes_one h2 q3 q6
    refine ⟨fun _ => ?_, fun h => Bool.noConfusion (q1.symm.trans h)⟩
    conv => whnf
    refine ⟨(show (0 : Int) ≤ 0 ∧ (0 : Int) < (was.length : Int) by omega), ?_⟩
    conv => whnf
    refine ⟨(show 0 < was.length by omega), ?_⟩
    conv => whnf
    refine ⟨by omega, ?_⟩
    conv => whnf
    refine CallK.go [] (f101 (was.getD 0 noField) ((comesOf x).getD 0 noRef)) rfl rfl rfl rfl rfl ?_
    conv => whnf
    refine CallK.go [] (GCall.args (f100 rest { was.getD 0 noField with place := (comesOf x).getD 0 noRef } true hfr (hwa 0)) ?hh) rfl rfl rfl rfl rfl ?_
    case hh => exact allLe3 (RepLe.refl _) (PLe.rep (PLe.agg (by repeat' (first | refine PLes.cons ?_ ?_ | exact PLe.refl _ | exact PLe.nil | exact PLes.end)))) (by first | exact RepLe.bl rfl | exact RepLe.refl _)
    conv => whnf
    refine ⟨rfl, ?_⟩
    conv => whnf
    refine ⟨fun h => Bool.noConfusion (q2.symm.trans h), fun _ => ?_⟩
    conv => whnf
    refine ⟨fun h => Bool.noConfusion (q3.symm.trans h), fun _ => ?_⟩
    conv => whnf
    refine ⟨fun h => Bool.noConfusion (q6.symm.trans h), fun _ => ?_⟩
    conv => whnf
    refine ⟨fun h => Bool.noConfusion (q7.symm.trans h), fun _ => ?_⟩
    conv => whnf
    refine ⟨fun h => Bool.noConfusion (q8.symm.trans h), fun _ => ?_⟩
    conv => whnf
    refine ⟨fun h => Bool.noConfusion (q9.symm.trans h), fun _ => ?_⟩
    conv => whnf
    refine ⟨fun h => Bool.noConfusion (q10.symm.trans h), fun _ => ?_⟩
    conv => whnf
    refine ⟨fun e1 => ?_, fun e1 => ?_⟩
    · have e1 : (true && iEq (withF rest { was.getD 0 noField with place := (comesOf x).getD 0 noRef }).2 0) = false := nott e1
      have ha := fin_moved h1 h2 ht 1 kk (by omega) rfl
      rw [e1] at ha
      conv => whnf
      exact ⟨[], _, _, _, rfl, rfl, rfl, by rw [ha]; exact nil_take, trivial⟩
    have e1 : (true && iEq (withF rest { was.getD 0 noField with place := (comesOf x).getD 0 noRef }).2 0) = true := notf e1
    have ha := fin_moved h1 h2 ht 1 kk (by omega) rfl
    rw [e1] at ha
    conv => whnf
    exact ⟨[], _, _, _, rfl, rfl, rfl, by rw [ha]; exact RepLe.refl _, trivial⟩
  · have kk : iEq x.kind 2 = true := iEq_t.2 k
    have q1 : iEq x.kind 1 = false := kinds 2 kk 1 (by decide)
    have q2 : iEq x.kind 2 = true := kk
    have q3 : iEq x.kind 3 = false := kinds 2 kk 3 (by decide)
    have q4 : iEq x.kind 4 = false := kinds 2 kk 4 (by decide)
    have q5 : iEq x.kind 5 = false := kinds 2 kk 5 (by decide)
    have q6 : iEq x.kind 6 = false := kinds 2 kk 6 (by decide)
    have q7 : iEq x.kind 7 = false := kinds 2 kk 7 (by decide)
    have q8 : iEq x.kind 8 = false := kinds 2 kk 8 (by decide)
    have q9 : iEq x.kind 9 = false := kinds 2 kk 9 (by decide)
    have q10 : iEq x.kind 10 = false := kinds 2 kk 10 (by decide)
    have hc := comes_one h2 q3 q6
    refine ⟨fun h => Bool.noConfusion (q1.symm.trans h), fun _ => ?_⟩
    conv => whnf
    refine ⟨fun h => Bool.noConfusion (q4.symm.trans h), fun _ => ?_⟩
    conv => whnf
    refine ⟨fun h => Bool.noConfusion (q5.symm.trans h), fun _ => ?_⟩
    conv => whnf
    refine ⟨fun _ => ?_, fun h => Bool.noConfusion (q2.symm.trans h)⟩
    conv => whnf
    refine CallK.go [] (GCall.args (f100 rest x.field true hfr hx.1) ?hh) rfl rfl rfl rfl rfl ?_
    case hh => exact allLe3 (RepLe.refl _) (PLe.rep (PLe.agg (by repeat' (first | refine PLes.cons ?_ ?_ | exact PLe.refl _ | exact PLe.nil | exact PLes.end)))) (by first | exact RepLe.bl rfl | exact RepLe.refl _)
    conv => whnf
    refine ⟨fun h => Bool.noConfusion (q3.symm.trans h), fun _ => ?_⟩
    conv => whnf
    refine ⟨fun h => Bool.noConfusion (q6.symm.trans h), fun _ => ?_⟩
    conv => whnf
    refine ⟨fun h => Bool.noConfusion (q7.symm.trans h), fun _ => ?_⟩
    conv => whnf
    refine ⟨fun h => Bool.noConfusion (q8.symm.trans h), fun _ => ?_⟩
    conv => whnf
    refine ⟨fun h => Bool.noConfusion (q9.symm.trans h), fun _ => ?_⟩
    conv => whnf
    refine ⟨fun h => Bool.noConfusion (q10.symm.trans h), fun _ => ?_⟩
    conv => whnf
    refine ⟨fun e1 => ?_, fun e1 => ?_⟩
    · have e1 : (true && iEq (withF rest x.field).2 0) = false := nott e1
      have ha := fin_added h1 h2 ht kk rfl
      rw [e1] at ha
      conv => whnf
      exact ⟨[], _, _, _, rfl, rfl, rfl, by rw [ha]; exact nil_take, trivial⟩
    have e1 : (true && iEq (withF rest x.field).2 0) = true := notf e1
    have ha := fin_added h1 h2 ht kk rfl
    rw [e1] at ha
    conv => whnf
    exact ⟨[], _, _, _, rfl, rfl, rfl, by rw [ha]; exact RepLe.refl _, trivial⟩
  · have kk : iEq x.kind 3 = true := iEq_t.2 k
    have q1 : iEq x.kind 1 = false := kinds 3 kk 1 (by decide)
    have q2 : iEq x.kind 2 = false := kinds 3 kk 2 (by decide)
    have q3 : iEq x.kind 3 = true := kk
    have q4 : iEq x.kind 4 = false := kinds 3 kk 4 (by decide)
    have q5 : iEq x.kind 5 = false := kinds 3 kk 5 (by decide)
    have q6 : iEq x.kind 6 = false := kinds 3 kk 6 (by decide)
    have q7 : iEq x.kind 7 = false := kinds 3 kk 7 (by decide)
    have q8 : iEq x.kind 8 = false := kinds 3 kk 8 (by decide)
    have q9 : iEq x.kind 9 = false := kinds 3 kk 9 (by decide)
    have q10 : iEq x.kind 10 = false := kinds 3 kk 10 (by decide)
    have hw := hwp q2
    refine ⟨fun h => Bool.noConfusion (q1.symm.trans h), fun _ => ?_⟩
    conv => whnf
    refine ⟨fun h => Bool.noConfusion (q4.symm.trans h), fun _ => ?_⟩
    conv => whnf
    refine ⟨fun h => Bool.noConfusion (q5.symm.trans h), fun _ => ?_⟩
    conv => whnf
    refine ⟨fun h => Bool.noConfusion (q2.symm.trans h), fun _ => ?_⟩
    conv => whnf
    refine ⟨fun _ => ?_, fun h => Bool.noConfusion (q3.symm.trans h)⟩
    conv => whnf
    refine ⟨(show (0 : Int) ≤ 0 ∧ (0 : Int) < (was.length : Int) by omega), ?_⟩
    conv => whnf
    refine ⟨(show 0 < was.length by omega), ?_⟩
    conv => whnf
    refine CallK.lent (f32 (was.getD 0 noField) x.field (hwa 0).ok) rfl ?_
    conv => whnf
    refine ⟨rfl, ?_⟩
    conv => whnf
    refine ⟨fun h => Bool.noConfusion (q6.symm.trans h), fun _ => ?_⟩
    conv => whnf
    refine ⟨fun h => Bool.noConfusion (q7.symm.trans h), fun _ => ?_⟩
    conv => whnf
    refine ⟨fun h => Bool.noConfusion (q8.symm.trans h), fun _ => ?_⟩
    conv => whnf
    refine ⟨fun h => Bool.noConfusion (q9.symm.trans h), fun _ => ?_⟩
    conv => whnf
    refine ⟨fun h => Bool.noConfusion (q10.symm.trans h), fun _ => ?_⟩
    conv => whnf
    refine ⟨fun e1 => ?_, fun e1 => ?_⟩
    · have e1 : sameField (was.getD 0 noField) x.field = false := nott e1
      have ha := fin_gone h1 h2 ht kk rfl
      rw [e1] at ha
      conv => whnf
      exact ⟨[], _, _, _, rfl, rfl, rfl, by rw [ha]; exact nil_take, trivial⟩
    have e1 : sameField (was.getD 0 noField) x.field = true := notf e1
    have ha := fin_gone h1 h2 ht kk rfl
    rw [e1] at ha
    conv => whnf
    exact ⟨[], _, _, _, rfl, rfl, rfl, by rw [ha]; exact RepLe.refl _, trivial⟩
  · have kk : iEq x.kind 4 = true := iEq_t.2 k
    have q1 : iEq x.kind 1 = false := kinds 4 kk 1 (by decide)
    have q2 : iEq x.kind 2 = false := kinds 4 kk 2 (by decide)
    have q3 : iEq x.kind 3 = false := kinds 4 kk 3 (by decide)
    have q4 : iEq x.kind 4 = true := kk
    have q5 : iEq x.kind 5 = false := kinds 4 kk 5 (by decide)
    have q6 : iEq x.kind 6 = false := kinds 4 kk 6 (by decide)
    have q7 : iEq x.kind 7 = false := kinds 4 kk 7 (by decide)
    have q8 : iEq x.kind 8 = false := kinds 4 kk 8 (by decide)
    have q9 : iEq x.kind 9 = false := kinds 4 kk 9 (by decide)
    have q10 : iEq x.kind 10 = false := kinds 4 kk 10 (by decide)
    have hw := hwp q2
    have hc := comes_one h2 q3 q6
    refine ⟨fun h => Bool.noConfusion (q1.symm.trans h), fun _ => ?_⟩
    conv => whnf
    refine ⟨fun _ => ?_, fun h => Bool.noConfusion (q4.symm.trans h)⟩
    conv => whnf
    refine ⟨(show (0 : Int) ≤ 0 ∧ (0 : Int) < (was.length : Int) by omega), ?_⟩
    conv => whnf
    refine ⟨(show 0 < was.length by omega), ?_⟩
    conv => whnf
    refine ⟨by omega, ?_⟩
    conv => whnf
    refine CallK.go [] (f101 (was.getD 0 noField) ((comesOf x).getD 0 noRef)) rfl rfl rfl rfl rfl ?_
    conv => whnf
    refine CallK.go [] (GCall.args (f100 rest { was.getD 0 noField with place := (comesOf x).getD 0 noRef } true hfr (hwa 0)) ?hh) rfl rfl rfl rfl rfl ?_
    case hh => exact allLe3 (RepLe.refl _) (PLe.rep (PLe.agg (by repeat' (first | refine PLes.cons ?_ ?_ | exact PLe.refl _ | exact PLe.nil | exact PLes.end)))) (by first | exact RepLe.bl rfl | exact RepLe.refl _)
    conv => whnf
    refine ⟨rfl, ?_⟩
    conv => whnf
    refine ⟨fun h => Bool.noConfusion (q2.symm.trans h), fun _ => ?_⟩
    conv => whnf
    refine ⟨fun h => Bool.noConfusion (q3.symm.trans h), fun _ => ?_⟩
    conv => whnf
    refine ⟨fun h => Bool.noConfusion (q6.symm.trans h), fun _ => ?_⟩
    conv => whnf
    refine ⟨fun h => Bool.noConfusion (q7.symm.trans h), fun _ => ?_⟩
    conv => whnf
    refine ⟨fun h => Bool.noConfusion (q8.symm.trans h), fun _ => ?_⟩
    conv => whnf
    refine ⟨fun h => Bool.noConfusion (q9.symm.trans h), fun _ => ?_⟩
    conv => whnf
    refine ⟨fun h => Bool.noConfusion (q10.symm.trans h), fun _ => ?_⟩
    conv => whnf
    refine ⟨fun e1 => ?_, fun e1 => ?_⟩
    · have e1 : (true && iEq (withF rest { was.getD 0 noField with place := (comesOf x).getD 0 noRef }).2 0) = false := nott e1
      have ha := fin_moved h1 h2 ht 4 kk (by omega) rfl
      rw [e1] at ha
      conv => whnf
      exact ⟨[], _, _, _, rfl, rfl, rfl, by rw [ha]; exact nil_take, trivial⟩
    have e1 : (true && iEq (withF rest { was.getD 0 noField with place := (comesOf x).getD 0 noRef }).2 0) = true := notf e1
    have ha := fin_moved h1 h2 ht 4 kk (by omega) rfl
    rw [e1] at ha
    conv => whnf
    exact ⟨[], _, _, _, rfl, rfl, rfl, by rw [ha]; exact RepLe.refl _, trivial⟩
  · have kk : iEq x.kind 5 = true := iEq_t.2 k
    have q1 : iEq x.kind 1 = false := kinds 5 kk 1 (by decide)
    have q2 : iEq x.kind 2 = false := kinds 5 kk 2 (by decide)
    have q3 : iEq x.kind 3 = false := kinds 5 kk 3 (by decide)
    have q4 : iEq x.kind 4 = false := kinds 5 kk 4 (by decide)
    have q5 : iEq x.kind 5 = true := kk
    have q6 : iEq x.kind 6 = false := kinds 5 kk 6 (by decide)
    have q7 : iEq x.kind 7 = false := kinds 5 kk 7 (by decide)
    have q8 : iEq x.kind 8 = false := kinds 5 kk 8 (by decide)
    have q9 : iEq x.kind 9 = false := kinds 5 kk 9 (by decide)
    have q10 : iEq x.kind 10 = false := kinds 5 kk 10 (by decide)
    have hw := hwp q2
    have hc := comes_one h2 q3 q6
    refine ⟨fun h => Bool.noConfusion (q1.symm.trans h), fun _ => ?_⟩
    conv => whnf
    refine ⟨fun h => Bool.noConfusion (q4.symm.trans h), fun _ => ?_⟩
    conv => whnf
    refine ⟨fun _ => ?_, fun h => Bool.noConfusion (q5.symm.trans h)⟩
    conv => whnf
    refine ⟨(show (0 : Int) ≤ 0 ∧ (0 : Int) < (was.length : Int) by omega), ?_⟩
    conv => whnf
    refine ⟨(show 0 < was.length by omega), ?_⟩
    conv => whnf
    refine ⟨by omega, ?_⟩
    conv => whnf
    refine CallK.go [] (f101 (was.getD 0 noField) ((comesOf x).getD 0 noRef)) rfl rfl rfl rfl rfl ?_
    conv => whnf
    refine CallK.go [] (GCall.args (f100 rest { was.getD 0 noField with place := (comesOf x).getD 0 noRef } true hfr (hwa 0)) ?hh) rfl rfl rfl rfl rfl ?_
    case hh => exact allLe3 (RepLe.refl _) (PLe.rep (PLe.agg (by repeat' (first | refine PLes.cons ?_ ?_ | exact PLe.refl _ | exact PLe.nil | exact PLes.end)))) (by first | exact RepLe.bl rfl | exact RepLe.refl _)
    conv => whnf
    refine ⟨rfl, ?_⟩
    conv => whnf
    refine ⟨fun h => Bool.noConfusion (q2.symm.trans h), fun _ => ?_⟩
    conv => whnf
    refine ⟨fun h => Bool.noConfusion (q3.symm.trans h), fun _ => ?_⟩
    conv => whnf
    refine ⟨fun h => Bool.noConfusion (q6.symm.trans h), fun _ => ?_⟩
    conv => whnf
    refine ⟨fun h => Bool.noConfusion (q7.symm.trans h), fun _ => ?_⟩
    conv => whnf
    refine ⟨fun h => Bool.noConfusion (q8.symm.trans h), fun _ => ?_⟩
    conv => whnf
    refine ⟨fun h => Bool.noConfusion (q9.symm.trans h), fun _ => ?_⟩
    conv => whnf
    refine ⟨fun h => Bool.noConfusion (q10.symm.trans h), fun _ => ?_⟩
    conv => whnf
    refine ⟨fun e1 => ?_, fun e1 => ?_⟩
    · have e1 : (true && iEq (withF rest { was.getD 0 noField with place := (comesOf x).getD 0 noRef }).2 0) = false := nott e1
      have ha := fin_moved h1 h2 ht 5 kk (by omega) rfl
      rw [e1] at ha
      conv => whnf
      exact ⟨[], _, _, _, rfl, rfl, rfl, by rw [ha]; exact nil_take, trivial⟩
    have e1 : (true && iEq (withF rest { was.getD 0 noField with place := (comesOf x).getD 0 noRef }).2 0) = true := notf e1
    have ha := fin_moved h1 h2 ht 5 kk (by omega) rfl
    rw [e1] at ha
    conv => whnf
    exact ⟨[], _, _, _, rfl, rfl, rfl, by rw [ha]; exact RepLe.refl _, trivial⟩
  · have kk : iEq x.kind 6 = true := iEq_t.2 k
    have q1 : iEq x.kind 1 = false := kinds 6 kk 1 (by decide)
    have q2 : iEq x.kind 2 = false := kinds 6 kk 2 (by decide)
    have q3 : iEq x.kind 3 = false := kinds 6 kk 3 (by decide)
    have q4 : iEq x.kind 4 = false := kinds 6 kk 4 (by decide)
    have q5 : iEq x.kind 5 = false := kinds 6 kk 5 (by decide)
    have q6 : iEq x.kind 6 = true := kk
    have q7 : iEq x.kind 7 = false := kinds 6 kk 7 (by decide)
    have q8 : iEq x.kind 8 = false := kinds 6 kk 8 (by decide)
    have q9 : iEq x.kind 9 = false := kinds 6 kk 9 (by decide)
    have q10 : iEq x.kind 10 = false := kinds 6 kk 10 (by decide)
    have hw := hwp q2
    have hc := comes_two h2 q6
    refine ⟨fun h => Bool.noConfusion (q1.symm.trans h), fun _ => ?_⟩
    conv => whnf
    refine ⟨fun h => Bool.noConfusion (q4.symm.trans h), fun _ => ?_⟩
    conv => whnf
    refine ⟨fun h => Bool.noConfusion (q5.symm.trans h), fun _ => ?_⟩
    conv => whnf
    refine ⟨fun h => Bool.noConfusion (q2.symm.trans h), fun _ => ?_⟩
    conv => whnf
    refine ⟨fun h => Bool.noConfusion (q3.symm.trans h), fun _ => ?_⟩
    conv => whnf
    refine ⟨fun _ => ?_, fun h => Bool.noConfusion (q6.symm.trans h)⟩
    conv => whnf
    refine ⟨(show (0 : Int) ≤ 0 ∧ (0 : Int) < (was.length : Int) by omega), ?_⟩
    conv => whnf
    refine ⟨(show 0 < was.length by omega), ?_⟩
    conv => whnf
    intro z hz
    subst hz
    conv => whnf
    refine ⟨rfl, ?_⟩
    conv => whnf
    refine ⟨(show (0 : Int) ≤ 0 ∧ (0 : Int) < (was.length : Int) by omega), ?_⟩
    conv => whnf
    refine ⟨(show 0 < was.length by omega), ?_⟩
    conv => whnf
    refine ⟨fun g1 => ?_, fun g1 => ?_⟩
    · have g1 : iEq (was.getD 0 noField).kind 1 = true := g1
      conv => whnf
      refine ⟨by omega, ?_⟩
      conv => whnf
      refine ⟨(show (0 : Int) ≤ 0 ∧ (0 : Int) < (was.length : Int) by omega), ?_⟩
      conv => whnf
      refine ⟨(show 0 < was.length by omega), ?_⟩
      conv => whnf
      refine CallK.go [] (GCall.args (f100 rest { noField with place := (comesOf x).getD 0 noRef, kind := 1, worth := (was.getD 0 noField).worth } (iLt (wrapO .i64 ((was.getD 0 noField).worth * x.factor)) 1048577) hfr (show fitField _ from Nat.zero_le _)) ?hh) rfl rfl rfl rfl rfl ?_
      case hh => exact allLe3 (RepLe.refl _) (PLe.rep (PLe.agg (by repeat' (first | refine PLes.cons ?_ ?_ | exact PLe.refl _ | exact PLe.nil | exact PLes.end)))) (by first | exact RepLe.bl rfl | exact RepLe.refl _)
      conv => whnf
      refine ⟨rfl, ?_⟩
      conv => whnf
      refine ⟨by omega, ?_⟩
      conv => whnf
      refine CallK.go [] (GCall.args (f100 (withF rest { noField with place := (comesOf x).getD 0 noRef, kind := 1, worth := (was.getD 0 noField).worth }).1 { noField with place := (comesOf x).getD 1 noRef, kind := 1, worth := (wrapO .i64 ((was.getD 0 noField).worth * x.factor)) } ((iLt (wrapO .i64 ((was.getD 0 noField).worth * x.factor)) 1048577) && iEq (withF rest { noField with place := (comesOf x).getD 0 noRef, kind := 1, worth := (was.getD 0 noField).worth }).2 0) (with_fit hfr (show fitField _ from Nat.zero_le _)) (show fitField _ from Nat.zero_le _)) ?hh) rfl rfl rfl rfl rfl ?_
      case hh => exact allLe3 (RepLe.refl _) (PLe.rep (PLe.agg (by repeat' (first | refine PLes.cons ?_ ?_ | exact PLe.refl _ | exact PLe.nil | exact PLes.end)))) (by first | exact RepLe.bl rfl | exact RepLe.refl _)
      conv => whnf
      refine ⟨fun h => Bool.noConfusion (q7.symm.trans h), fun _ => ?_⟩
      conv => whnf
      refine ⟨fun h => Bool.noConfusion (q8.symm.trans h), fun _ => ?_⟩
      conv => whnf
      refine ⟨fun h => Bool.noConfusion (q9.symm.trans h), fun _ => ?_⟩
      conv => whnf
      refine ⟨fun h => Bool.noConfusion (q10.symm.trans h), fun _ => ?_⟩
      conv => whnf
      refine ⟨fun e1 => ?_, fun e1 => ?_⟩
      · have e1 : (((iLt (wrapO .i64 ((was.getD 0 noField).worth * x.factor)) 1048577) && iEq (withF rest { noField with place := (comesOf x).getD 0 noRef, kind := 1, worth := (was.getD 0 noField).worth }).2 0) && iEq (withF (withF rest { noField with place := (comesOf x).getD 0 noRef, kind := 1, worth := (was.getD 0 noField).worth }).1 { noField with place := (comesOf x).getD 1 noRef, kind := 1, worth := (wrapO .i64 ((was.getD 0 noField).worth * x.factor)) }).2 0) = false := nott e1
        have ha := fin_spread h1 h2 ht kk (hwo hw) (b := iLt (wrapO .i64 ((was.getD 0 noField).worth * x.factor)) 1048577) (by rw [g1]; rfl) rfl rfl rfl
        rw [e1] at ha
        conv => whnf
        exact ⟨[], _, _, _, rfl, rfl, rfl, by rw [ha]; exact nil_take, trivial⟩
      have e1 : (((iLt (wrapO .i64 ((was.getD 0 noField).worth * x.factor)) 1048577) && iEq (withF rest { noField with place := (comesOf x).getD 0 noRef, kind := 1, worth := (was.getD 0 noField).worth }).2 0) && iEq (withF (withF rest { noField with place := (comesOf x).getD 0 noRef, kind := 1, worth := (was.getD 0 noField).worth }).1 { noField with place := (comesOf x).getD 1 noRef, kind := 1, worth := (wrapO .i64 ((was.getD 0 noField).worth * x.factor)) }).2 0) = true := notf e1
      have ha := fin_spread h1 h2 ht kk (hwo hw) (b := iLt (wrapO .i64 ((was.getD 0 noField).worth * x.factor)) 1048577) (by rw [g1]; rfl) rfl rfl rfl
      rw [e1] at ha
      conv => whnf
      exact ⟨[], _, _, _, rfl, rfl, rfl, by rw [ha]; exact RepLe.refl _, trivial⟩
    · have g1 : iEq (was.getD 0 noField).kind 1 = false := g1
      conv => whnf
      refine ⟨by omega, ?_⟩
      conv => whnf
      refine ⟨(show (0 : Int) ≤ 0 ∧ (0 : Int) < (was.length : Int) by omega), ?_⟩
      conv => whnf
      refine ⟨(show 0 < was.length by omega), ?_⟩
      conv => whnf
      refine CallK.go [] (GCall.args (f100 rest { noField with place := (comesOf x).getD 0 noRef, kind := 1, worth := (was.getD 0 noField).worth } false hfr (show fitField _ from Nat.zero_le _)) ?hh) rfl rfl rfl rfl rfl ?_
      case hh => exact allLe3 (RepLe.refl _) (PLe.rep (PLe.agg (by repeat' (first | refine PLes.cons ?_ ?_ | exact PLe.refl _ | exact PLe.nil | exact PLes.end)))) (by first | exact RepLe.bl rfl | exact RepLe.refl _)
      conv => whnf
      refine ⟨rfl, ?_⟩
      conv => whnf
      refine ⟨by omega, ?_⟩
      conv => whnf
      refine CallK.go [] (GCall.args (f100 (withF rest { noField with place := (comesOf x).getD 0 noRef, kind := 1, worth := (was.getD 0 noField).worth }).1 { noField with place := (comesOf x).getD 1 noRef, kind := 1, worth := (wrapO .i64 ((was.getD 0 noField).worth * x.factor)) } (false && iEq (withF rest { noField with place := (comesOf x).getD 0 noRef, kind := 1, worth := (was.getD 0 noField).worth }).2 0) (with_fit hfr (show fitField _ from Nat.zero_le _)) (show fitField _ from Nat.zero_le _)) ?hh) rfl rfl rfl rfl rfl ?_
      case hh => exact allLe3 (RepLe.refl _) (PLe.rep (PLe.agg (by repeat' (first | refine PLes.cons ?_ ?_ | exact PLe.refl _ | exact PLe.nil | exact PLes.end)))) (by first | exact RepLe.bl rfl | exact RepLe.refl _)
      conv => whnf
      refine ⟨fun h => Bool.noConfusion (q7.symm.trans h), fun _ => ?_⟩
      conv => whnf
      refine ⟨fun h => Bool.noConfusion (q8.symm.trans h), fun _ => ?_⟩
      conv => whnf
      refine ⟨fun h => Bool.noConfusion (q9.symm.trans h), fun _ => ?_⟩
      conv => whnf
      refine ⟨fun h => Bool.noConfusion (q10.symm.trans h), fun _ => ?_⟩
      conv => whnf
      refine ⟨fun e1 => ?_, fun e1 => ?_⟩
      · have e1 : ((false && iEq (withF rest { noField with place := (comesOf x).getD 0 noRef, kind := 1, worth := (was.getD 0 noField).worth }).2 0) && iEq (withF (withF rest { noField with place := (comesOf x).getD 0 noRef, kind := 1, worth := (was.getD 0 noField).worth }).1 { noField with place := (comesOf x).getD 1 noRef, kind := 1, worth := (wrapO .i64 ((was.getD 0 noField).worth * x.factor)) }).2 0) = false := nott e1
        have ha := fin_spread h1 h2 ht kk (hwo hw) (b := false) (by rw [g1]; rfl) rfl rfl rfl
        rw [e1] at ha
        conv => whnf
        exact ⟨[], _, _, _, rfl, rfl, rfl, by rw [ha]; exact nil_take, trivial⟩
      have e1 : ((false && iEq (withF rest { noField with place := (comesOf x).getD 0 noRef, kind := 1, worth := (was.getD 0 noField).worth }).2 0) && iEq (withF (withF rest { noField with place := (comesOf x).getD 0 noRef, kind := 1, worth := (was.getD 0 noField).worth }).1 { noField with place := (comesOf x).getD 1 noRef, kind := 1, worth := (wrapO .i64 ((was.getD 0 noField).worth * x.factor)) }).2 0) = true := notf e1
      have ha := fin_spread h1 h2 ht kk (hwo hw) (b := false) (by rw [g1]; rfl) rfl rfl rfl
      rw [e1] at ha
      conv => whnf
      exact ⟨[], _, _, _, rfl, rfl, rfl, by rw [ha]; exact RepLe.refl _, trivial⟩
  · have kk : iEq x.kind 7 = true := iEq_t.2 k
    have q1 : iEq x.kind 1 = false := kinds 7 kk 1 (by decide)
    have q2 : iEq x.kind 2 = false := kinds 7 kk 2 (by decide)
    have q3 : iEq x.kind 3 = false := kinds 7 kk 3 (by decide)
    have q4 : iEq x.kind 4 = false := kinds 7 kk 4 (by decide)
    have q5 : iEq x.kind 5 = false := kinds 7 kk 5 (by decide)
    have q6 : iEq x.kind 6 = false := kinds 7 kk 6 (by decide)
    have q7 : iEq x.kind 7 = true := kk
    have q8 : iEq x.kind 8 = false := kinds 7 kk 8 (by decide)
    have q9 : iEq x.kind 9 = false := kinds 7 kk 9 (by decide)
    have q10 : iEq x.kind 10 = false := kinds 7 kk 10 (by decide)
    have hw := hwp q2
    have hc := comes_one h2 q3 q6
    refine ⟨fun h => Bool.noConfusion (q1.symm.trans h), fun _ => ?_⟩
    conv => whnf
    refine ⟨fun h => Bool.noConfusion (q4.symm.trans h), fun _ => ?_⟩
    conv => whnf
    refine ⟨fun h => Bool.noConfusion (q5.symm.trans h), fun _ => ?_⟩
    conv => whnf
    refine ⟨fun h => Bool.noConfusion (q2.symm.trans h), fun _ => ?_⟩
    conv => whnf
    refine ⟨fun h => Bool.noConfusion (q3.symm.trans h), fun _ => ?_⟩
    conv => whnf
    refine ⟨fun h => Bool.noConfusion (q6.symm.trans h), fun _ => ?_⟩
    conv => whnf
    refine ⟨fun _ => ?_, fun h => Bool.noConfusion (q7.symm.trans h)⟩
    conv => whnf
    refine ⟨(show (0 : Int) ≤ 0 ∧ (0 : Int) < (was.length : Int) by omega), ?_⟩
    conv => whnf
    refine ⟨(show 0 < was.length by omega), ?_⟩
    conv => whnf
    refine ⟨fun g1 => ?_, fun g1 => ?_⟩
    · have g1 : iEq (was.getD 0 noField).kind 2 = true := g1
      conv => whnf
      refine ⟨(show (0 : Int) ≤ 0 ∧ (0 : Int) < (was.length : Int) by omega), ?_⟩
      conv => whnf
      refine ⟨(show 0 < was.length by omega), ?_⟩
      conv => whnf
      refine ⟨rfl, ?_⟩
      conv => whnf
      refine ⟨by omega, ?_⟩
      conv => whnf
      refine CallK.go [] (GCall.args (f100 rest { noField with place := (comesOf x).getD 0 noRef, kind := 4 } (sEq (was.getD 0 noField).dflt x.other) hfr (show fitField _ from Nat.zero_le _)) ?hh) rfl rfl rfl rfl rfl ?_
      case hh => exact allLe3 (RepLe.refl _) (PLe.rep (PLe.agg (by repeat' (first | refine PLes.cons ?_ ?_ | exact PLe.refl _ | exact PLe.nil | exact PLes.end)))) (by first | exact RepLe.bl rfl | exact RepLe.refl _)
      conv => whnf
      refine ⟨fun h => Bool.noConfusion (q8.symm.trans h), fun _ => ?_⟩
      conv => whnf
      refine ⟨fun h => Bool.noConfusion (q9.symm.trans h), fun _ => ?_⟩
      conv => whnf
      refine ⟨fun h => Bool.noConfusion (q10.symm.trans h), fun _ => ?_⟩
      conv => whnf
      refine ⟨fun e1 => ?_, fun e1 => ?_⟩
      · have e1 : ((sEq (was.getD 0 noField).dflt x.other) && iEq (withF rest { noField with place := (comesOf x).getD 0 noRef, kind := 4 }).2 0) = false := nott e1
        have ha := fin_opened h1 h2 ht kk (b := sEq (was.getD 0 noField).dflt x.other) (by rw [g1]; rfl) rfl rfl
        rw [e1] at ha
        conv => whnf
        exact ⟨[], _, _, _, rfl, rfl, rfl, by rw [ha]; exact nil_take, trivial⟩
      have e1 : ((sEq (was.getD 0 noField).dflt x.other) && iEq (withF rest { noField with place := (comesOf x).getD 0 noRef, kind := 4 }).2 0) = true := notf e1
      have ha := fin_opened h1 h2 ht kk (b := sEq (was.getD 0 noField).dflt x.other) (by rw [g1]; rfl) rfl rfl
      rw [e1] at ha
      conv => whnf
      exact ⟨[], _, _, _, rfl, rfl, rfl, by rw [ha]; exact RepLe.refl _, trivial⟩
    · have g1 : iEq (was.getD 0 noField).kind 2 = false := g1
      conv => whnf
      refine ⟨rfl, ?_⟩
      conv => whnf
      refine ⟨by omega, ?_⟩
      conv => whnf
      refine CallK.go [] (GCall.args (f100 rest { noField with place := (comesOf x).getD 0 noRef, kind := 4 } false hfr (show fitField _ from Nat.zero_le _)) ?hh) rfl rfl rfl rfl rfl ?_
      case hh => exact allLe3 (RepLe.refl _) (PLe.rep (PLe.agg (by repeat' (first | refine PLes.cons ?_ ?_ | exact PLe.refl _ | exact PLe.nil | exact PLes.end)))) (by first | exact RepLe.bl rfl | exact RepLe.refl _)
      conv => whnf
      refine ⟨fun h => Bool.noConfusion (q8.symm.trans h), fun _ => ?_⟩
      conv => whnf
      refine ⟨fun h => Bool.noConfusion (q9.symm.trans h), fun _ => ?_⟩
      conv => whnf
      refine ⟨fun h => Bool.noConfusion (q10.symm.trans h), fun _ => ?_⟩
      conv => whnf
      refine ⟨fun e1 => ?_, fun e1 => ?_⟩
      · have e1 : (false && iEq (withF rest { noField with place := (comesOf x).getD 0 noRef, kind := 4 }).2 0) = false := nott e1
        have ha := fin_opened h1 h2 ht kk (b := false) (by rw [g1]; rfl) rfl rfl
        rw [e1] at ha
        conv => whnf
        exact ⟨[], _, _, _, rfl, rfl, rfl, by rw [ha]; exact nil_take, trivial⟩
      have e1 : (false && iEq (withF rest { noField with place := (comesOf x).getD 0 noRef, kind := 4 }).2 0) = true := notf e1
      have ha := fin_opened h1 h2 ht kk (b := false) (by rw [g1]; rfl) rfl rfl
      rw [e1] at ha
      conv => whnf
      exact ⟨[], _, _, _, rfl, rfl, rfl, by rw [ha]; exact RepLe.refl _, trivial⟩
  · have kk : iEq x.kind 8 = true := iEq_t.2 k
    have q1 : iEq x.kind 1 = false := kinds 8 kk 1 (by decide)
    have q2 : iEq x.kind 2 = false := kinds 8 kk 2 (by decide)
    have q3 : iEq x.kind 3 = false := kinds 8 kk 3 (by decide)
    have q4 : iEq x.kind 4 = false := kinds 8 kk 4 (by decide)
    have q5 : iEq x.kind 5 = false := kinds 8 kk 5 (by decide)
    have q6 : iEq x.kind 6 = false := kinds 8 kk 6 (by decide)
    have q7 : iEq x.kind 7 = false := kinds 8 kk 7 (by decide)
    have q8 : iEq x.kind 8 = true := kk
    have q9 : iEq x.kind 9 = false := kinds 8 kk 9 (by decide)
    have q10 : iEq x.kind 10 = false := kinds 8 kk 10 (by decide)
    have hw := hwp q2
    have hc := comes_one h2 q3 q6
    refine ⟨fun h => Bool.noConfusion (q1.symm.trans h), fun _ => ?_⟩
    conv => whnf
    refine ⟨fun h => Bool.noConfusion (q4.symm.trans h), fun _ => ?_⟩
    conv => whnf
    refine ⟨fun h => Bool.noConfusion (q5.symm.trans h), fun _ => ?_⟩
    conv => whnf
    refine ⟨fun h => Bool.noConfusion (q2.symm.trans h), fun _ => ?_⟩
    conv => whnf
    refine ⟨fun h => Bool.noConfusion (q3.symm.trans h), fun _ => ?_⟩
    conv => whnf
    refine ⟨fun h => Bool.noConfusion (q6.symm.trans h), fun _ => ?_⟩
    conv => whnf
    refine ⟨fun h => Bool.noConfusion (q7.symm.trans h), fun _ => ?_⟩
    conv => whnf
    refine ⟨fun _ => ?_, fun h => Bool.noConfusion (q8.symm.trans h)⟩
    conv => whnf
    refine ⟨(show (0 : Int) ≤ 0 ∧ (0 : Int) < (was.length : Int) by omega), ?_⟩
    conv => whnf
    refine ⟨(show 0 < was.length by omega), ?_⟩
    conv => whnf
    refine ⟨fun g1 => ?_, fun g1 => ?_⟩
    · have g1 : iEq (was.getD 0 noField).kind 3 = true := g1
      conv => whnf
      refine ⟨(show (0 : Int) ≤ 0 ∧ (0 : Int) < (was.length : Int) by omega), ?_⟩
      conv => whnf
      refine ⟨(show 0 < was.length by omega), ?_⟩
      conv => whnf
      refine ⟨fun g2 => ?_, fun g2 => ?_⟩
      · have g2 : sEq (was.getD 0 noField).dflt x.name = true := g2
        conv => whnf
        refine ⟨(show (0 : Int) ≤ 0 ∧ (0 : Int) < (was.length : Int) by omega), ?_⟩
        conv => whnf
        refine ⟨(show 0 < was.length by omega), ?_⟩
        conv => whnf
        refine CallK.go [] (f103 x.forth hx.2.1) rfl rfl rfl rfl rfl ?_
        conv => whnf
        refine CallK.lent (f102 (was.getD 0 noField).cases (fromsOf x.forth) (hwa 0).ok) rfl ?_
        conv => whnf
        refine ⟨rfl, ?_⟩
        conv => whnf
        refine ⟨by omega, ?_⟩
        conv => whnf
        refine CallK.go [] (f103 x.back hx.2.2) rfl rfl rfl rfl rfl ?_
        conv => whnf
        refine CallK.go [] (GCall.args (f100 rest { noField with place := (comesOf x).getD 0 noRef, kind := 3, dflt := x.other, cases := fromsOf x.back } (sameStrs (was.getD 0 noField).cases (fromsOf x.forth)) hfr (show fitField _ from (by show (fromsOf x.back).length ≤ 8796093022208; rw [froms_len]; exact Nat.le_trans hx.2.2 (by decide)))) ?hh) rfl rfl rfl rfl rfl ?_
        case hh => exact allLe3 (RepLe.refl _) (PLe.rep (PLe.agg (by repeat' (first | refine PLes.cons ?_ ?_ | exact PLe.refl _ | exact PLe.nil | exact PLes.end)))) (by first | exact RepLe.bl rfl | exact RepLe.refl _)
        conv => whnf
        refine ⟨rfl, ?_⟩
        conv => whnf
        refine ⟨fun h => Bool.noConfusion (q9.symm.trans h), fun _ => ?_⟩
        conv => whnf
        refine ⟨fun h => Bool.noConfusion (q10.symm.trans h), fun _ => ?_⟩
        conv => whnf
        refine ⟨fun e1 => ?_, fun e1 => ?_⟩
        · have e1 : ((sameStrs (was.getD 0 noField).cases (fromsOf x.forth)) && iEq (withF rest { noField with place := (comesOf x).getD 0 noRef, kind := 3, dflt := x.other, cases := fromsOf x.back }).2 0) = false := nott e1
          have ha := fin_cased h1 h2 ht kk (b := sameStrs (was.getD 0 noField).cases (fromsOf x.forth)) (by rw [g1, g2]; rfl) rfl rfl
          rw [e1] at ha
          conv => whnf
          exact ⟨[], _, _, _, rfl, rfl, rfl, by rw [ha]; exact nil_take, trivial⟩
        have e1 : ((sameStrs (was.getD 0 noField).cases (fromsOf x.forth)) && iEq (withF rest { noField with place := (comesOf x).getD 0 noRef, kind := 3, dflt := x.other, cases := fromsOf x.back }).2 0) = true := notf e1
        have ha := fin_cased h1 h2 ht kk (b := sameStrs (was.getD 0 noField).cases (fromsOf x.forth)) (by rw [g1, g2]; rfl) rfl rfl
        rw [e1] at ha
        conv => whnf
        exact ⟨[], _, _, _, rfl, rfl, rfl, by rw [ha]; exact RepLe.refl _, trivial⟩
      · have g2 : sEq (was.getD 0 noField).dflt x.name = false := g2
        conv => whnf
        refine ⟨rfl, ?_⟩
        conv => whnf
        refine ⟨by omega, ?_⟩
        conv => whnf
        refine CallK.go [] (f103 x.back hx.2.2) rfl rfl rfl rfl rfl ?_
        conv => whnf
        refine CallK.go [] (GCall.args (f100 rest { noField with place := (comesOf x).getD 0 noRef, kind := 3, dflt := x.other, cases := fromsOf x.back } false hfr (show fitField _ from (by show (fromsOf x.back).length ≤ 8796093022208; rw [froms_len]; exact Nat.le_trans hx.2.2 (by decide)))) ?hh) rfl rfl rfl rfl rfl ?_
        case hh => exact allLe3 (RepLe.refl _) (PLe.rep (PLe.agg (by repeat' (first | refine PLes.cons ?_ ?_ | exact PLe.refl _ | exact PLe.nil | exact PLes.end)))) (by first | exact RepLe.bl rfl | exact RepLe.refl _)
        conv => whnf
        refine ⟨rfl, ?_⟩
        conv => whnf
        refine ⟨fun h => Bool.noConfusion (q9.symm.trans h), fun _ => ?_⟩
        conv => whnf
        refine ⟨fun h => Bool.noConfusion (q10.symm.trans h), fun _ => ?_⟩
        conv => whnf
        refine ⟨fun e1 => ?_, fun e1 => ?_⟩
        · have e1 : (false && iEq (withF rest { noField with place := (comesOf x).getD 0 noRef, kind := 3, dflt := x.other, cases := fromsOf x.back }).2 0) = false := nott e1
          have ha := fin_cased h1 h2 ht kk (b := false) (by rw [g1, g2]; rfl) rfl rfl
          rw [e1] at ha
          conv => whnf
          exact ⟨[], _, _, _, rfl, rfl, rfl, by rw [ha]; exact nil_take, trivial⟩
        have e1 : (false && iEq (withF rest { noField with place := (comesOf x).getD 0 noRef, kind := 3, dflt := x.other, cases := fromsOf x.back }).2 0) = true := notf e1
        have ha := fin_cased h1 h2 ht kk (b := false) (by rw [g1, g2]; rfl) rfl rfl
        rw [e1] at ha
        conv => whnf
        exact ⟨[], _, _, _, rfl, rfl, rfl, by rw [ha]; exact RepLe.refl _, trivial⟩
    · have g1 : iEq (was.getD 0 noField).kind 3 = false := g1
      conv => whnf
      refine ⟨rfl, ?_⟩
      conv => whnf
      refine ⟨by omega, ?_⟩
      conv => whnf
      refine CallK.go [] (f103 x.back hx.2.2) rfl rfl rfl rfl rfl ?_
      conv => whnf
      refine CallK.go [] (GCall.args (f100 rest { noField with place := (comesOf x).getD 0 noRef, kind := 3, dflt := x.other, cases := fromsOf x.back } false hfr (show fitField _ from (by show (fromsOf x.back).length ≤ 8796093022208; rw [froms_len]; exact Nat.le_trans hx.2.2 (by decide)))) ?hh) rfl rfl rfl rfl rfl ?_
      case hh => exact allLe3 (RepLe.refl _) (PLe.rep (PLe.agg (by repeat' (first | refine PLes.cons ?_ ?_ | exact PLe.refl _ | exact PLe.nil | exact PLes.end)))) (by first | exact RepLe.bl rfl | exact RepLe.refl _)
      conv => whnf
      refine ⟨rfl, ?_⟩
      conv => whnf
      refine ⟨fun h => Bool.noConfusion (q9.symm.trans h), fun _ => ?_⟩
      conv => whnf
      refine ⟨fun h => Bool.noConfusion (q10.symm.trans h), fun _ => ?_⟩
      conv => whnf
      refine ⟨fun e1 => ?_, fun e1 => ?_⟩
      · have e1 : (false && iEq (withF rest { noField with place := (comesOf x).getD 0 noRef, kind := 3, dflt := x.other, cases := fromsOf x.back }).2 0) = false := nott e1
        have ha := fin_cased h1 h2 ht kk (b := false) (by rw [g1]; rfl) rfl rfl
        rw [e1] at ha
        conv => whnf
        exact ⟨[], _, _, _, rfl, rfl, rfl, by rw [ha]; exact nil_take, trivial⟩
      have e1 : (false && iEq (withF rest { noField with place := (comesOf x).getD 0 noRef, kind := 3, dflt := x.other, cases := fromsOf x.back }).2 0) = true := notf e1
      have ha := fin_cased h1 h2 ht kk (b := false) (by rw [g1]; rfl) rfl rfl
      rw [e1] at ha
      conv => whnf
      exact ⟨[], _, _, _, rfl, rfl, rfl, by rw [ha]; exact RepLe.refl _, trivial⟩
  · have kk : iEq x.kind 9 = true := iEq_t.2 k
    have q1 : iEq x.kind 1 = false := kinds 9 kk 1 (by decide)
    have q2 : iEq x.kind 2 = false := kinds 9 kk 2 (by decide)
    have q3 : iEq x.kind 3 = false := kinds 9 kk 3 (by decide)
    have q4 : iEq x.kind 4 = false := kinds 9 kk 4 (by decide)
    have q5 : iEq x.kind 5 = false := kinds 9 kk 5 (by decide)
    have q6 : iEq x.kind 6 = false := kinds 9 kk 6 (by decide)
    have q7 : iEq x.kind 7 = false := kinds 9 kk 7 (by decide)
    have q8 : iEq x.kind 8 = false := kinds 9 kk 8 (by decide)
    have q9 : iEq x.kind 9 = true := kk
    have q10 : iEq x.kind 10 = false := kinds 9 kk 10 (by decide)
    have hw := hwp q2
    have hw2 : 1 < was.length := by rw [hwn, goes_len h2, q2, q3, q9]; decide
    have hc := comes_one h2 q3 q6
    refine ⟨fun h => Bool.noConfusion (q1.symm.trans h), fun _ => ?_⟩
    conv => whnf
    refine ⟨fun h => Bool.noConfusion (q4.symm.trans h), fun _ => ?_⟩
    conv => whnf
    refine ⟨fun h => Bool.noConfusion (q5.symm.trans h), fun _ => ?_⟩
    conv => whnf
    refine ⟨fun h => Bool.noConfusion (q2.symm.trans h), fun _ => ?_⟩
    conv => whnf
    refine ⟨fun h => Bool.noConfusion (q3.symm.trans h), fun _ => ?_⟩
    conv => whnf
    refine ⟨fun h => Bool.noConfusion (q6.symm.trans h), fun _ => ?_⟩
    conv => whnf
    refine ⟨fun h => Bool.noConfusion (q7.symm.trans h), fun _ => ?_⟩
    conv => whnf
    refine ⟨fun h => Bool.noConfusion (q8.symm.trans h), fun _ => ?_⟩
    conv => whnf
    refine ⟨fun _ => ?_, fun h => Bool.noConfusion (q9.symm.trans h)⟩
    conv => whnf
    refine ⟨(show (0 : Int) ≤ 0 ∧ (0 : Int) < (was.length : Int) by omega), ?_⟩
    conv => whnf
    refine ⟨(show 0 < was.length by omega), ?_⟩
    conv => whnf
    refine ⟨fun g1 => ?_, fun g1 => ?_⟩
    · have g1 : iEq (was.getD 0 noField).kind 1 = true := g1
      conv => whnf
      refine ⟨(show (0 : Int) ≤ 1 ∧ (1 : Int) < (was.length : Int) by omega), ?_⟩
      conv => whnf
      refine ⟨(show 1 < was.length by omega), ?_⟩
      conv => whnf
      refine ⟨fun g2 => ?_, fun g2 => ?_⟩
      · have g2 : iEq (was.getD 1 noField).kind 1 = true := g2
        conv => whnf
        refine ⟨(show (0 : Int) ≤ 1 ∧ (1 : Int) < (was.length : Int) by omega), ?_⟩
        conv => whnf
        refine ⟨(show 1 < was.length by omega), ?_⟩
        conv => whnf
        refine ⟨(show (0 : Int) ≤ 0 ∧ (0 : Int) < (was.length : Int) by omega), ?_⟩
        conv => whnf
        refine ⟨(show 0 < was.length by omega), ?_⟩
        conv => whnf
        intro z hz
        subst hz
        conv => whnf
        refine ⟨rfl, ?_⟩
        conv => whnf
        refine ⟨by omega, ?_⟩
        conv => whnf
        refine ⟨(show (0 : Int) ≤ 0 ∧ (0 : Int) < (was.length : Int) by omega), ?_⟩
        conv => whnf
        refine ⟨(show 0 < was.length by omega), ?_⟩
        conv => whnf
        refine CallK.go [] (GCall.args (f100 rest { noField with place := (comesOf x).getD 0 noRef, kind := 1, worth := (was.getD 0 noField).worth } (iEq (was.getD 1 noField).worth (wrapO .i64 ((was.getD 0 noField).worth * x.factor))) hfr (show fitField _ from Nat.zero_le _)) ?hh) rfl rfl rfl rfl rfl ?_
        case hh => exact allLe3 (RepLe.refl _) (PLe.rep (PLe.agg (by repeat' (first | refine PLes.cons ?_ ?_ | exact PLe.refl _ | exact PLe.nil | exact PLes.end)))) (by first | exact RepLe.bl rfl | exact RepLe.refl _)
        conv => whnf
        refine ⟨rfl, ?_⟩
        conv => whnf
        refine ⟨fun h => Bool.noConfusion (q10.symm.trans h), fun _ => ?_⟩
        conv => whnf
        refine ⟨fun e1 => ?_, fun e1 => ?_⟩
        · have e1 : ((iEq (was.getD 1 noField).worth (wrapO .i64 ((was.getD 0 noField).worth * x.factor))) && iEq (withF rest { noField with place := (comesOf x).getD 0 noRef, kind := 1, worth := (was.getD 0 noField).worth }).2 0) = false := nott e1
          have ha := fin_gathered h1 h2 ht kk (hwo hw) (b := iEq (was.getD 1 noField).worth (wrapO .i64 ((was.getD 0 noField).worth * x.factor))) (by rw [g1, g2]; rfl) rfl rfl
          rw [e1] at ha
          conv => whnf
          exact ⟨[], _, _, _, rfl, rfl, rfl, by rw [ha]; exact nil_take, trivial⟩
        have e1 : ((iEq (was.getD 1 noField).worth (wrapO .i64 ((was.getD 0 noField).worth * x.factor))) && iEq (withF rest { noField with place := (comesOf x).getD 0 noRef, kind := 1, worth := (was.getD 0 noField).worth }).2 0) = true := notf e1
        have ha := fin_gathered h1 h2 ht kk (hwo hw) (b := iEq (was.getD 1 noField).worth (wrapO .i64 ((was.getD 0 noField).worth * x.factor))) (by rw [g1, g2]; rfl) rfl rfl
        rw [e1] at ha
        conv => whnf
        exact ⟨[], _, _, _, rfl, rfl, rfl, by rw [ha]; exact RepLe.refl _, trivial⟩
      · have g2 : iEq (was.getD 1 noField).kind 1 = false := g2
        conv => whnf
        refine ⟨rfl, ?_⟩
        conv => whnf
        refine ⟨by omega, ?_⟩
        conv => whnf
        refine ⟨(show (0 : Int) ≤ 0 ∧ (0 : Int) < (was.length : Int) by omega), ?_⟩
        conv => whnf
        refine ⟨(show 0 < was.length by omega), ?_⟩
        conv => whnf
        refine CallK.go [] (GCall.args (f100 rest { noField with place := (comesOf x).getD 0 noRef, kind := 1, worth := (was.getD 0 noField).worth } false hfr (show fitField _ from Nat.zero_le _)) ?hh) rfl rfl rfl rfl rfl ?_
        case hh => exact allLe3 (RepLe.refl _) (PLe.rep (PLe.agg (by repeat' (first | refine PLes.cons ?_ ?_ | exact PLe.refl _ | exact PLe.nil | exact PLes.end)))) (by first | exact RepLe.bl rfl | exact RepLe.refl _)
        conv => whnf
        refine ⟨rfl, ?_⟩
        conv => whnf
        refine ⟨fun h => Bool.noConfusion (q10.symm.trans h), fun _ => ?_⟩
        conv => whnf
        refine ⟨fun e1 => ?_, fun e1 => ?_⟩
        · have e1 : (false && iEq (withF rest { noField with place := (comesOf x).getD 0 noRef, kind := 1, worth := (was.getD 0 noField).worth }).2 0) = false := nott e1
          have ha := fin_gathered h1 h2 ht kk (hwo hw) (b := false) (by rw [g1, g2]; rfl) rfl rfl
          rw [e1] at ha
          conv => whnf
          exact ⟨[], _, _, _, rfl, rfl, rfl, by rw [ha]; exact nil_take, trivial⟩
        have e1 : (false && iEq (withF rest { noField with place := (comesOf x).getD 0 noRef, kind := 1, worth := (was.getD 0 noField).worth }).2 0) = true := notf e1
        have ha := fin_gathered h1 h2 ht kk (hwo hw) (b := false) (by rw [g1, g2]; rfl) rfl rfl
        rw [e1] at ha
        conv => whnf
        exact ⟨[], _, _, _, rfl, rfl, rfl, by rw [ha]; exact RepLe.refl _, trivial⟩
    · have g1 : iEq (was.getD 0 noField).kind 1 = false := g1
      conv => whnf
      refine ⟨rfl, ?_⟩
      conv => whnf
      refine ⟨by omega, ?_⟩
      conv => whnf
      refine ⟨(show (0 : Int) ≤ 0 ∧ (0 : Int) < (was.length : Int) by omega), ?_⟩
      conv => whnf
      refine ⟨(show 0 < was.length by omega), ?_⟩
      conv => whnf
      refine CallK.go [] (GCall.args (f100 rest { noField with place := (comesOf x).getD 0 noRef, kind := 1, worth := (was.getD 0 noField).worth } false hfr (show fitField _ from Nat.zero_le _)) ?hh) rfl rfl rfl rfl rfl ?_
      case hh => exact allLe3 (RepLe.refl _) (PLe.rep (PLe.agg (by repeat' (first | refine PLes.cons ?_ ?_ | exact PLe.refl _ | exact PLe.nil | exact PLes.end)))) (by first | exact RepLe.bl rfl | exact RepLe.refl _)
      conv => whnf
      refine ⟨rfl, ?_⟩
      conv => whnf
      refine ⟨fun h => Bool.noConfusion (q10.symm.trans h), fun _ => ?_⟩
      conv => whnf
      refine ⟨fun e1 => ?_, fun e1 => ?_⟩
      · have e1 : (false && iEq (withF rest { noField with place := (comesOf x).getD 0 noRef, kind := 1, worth := (was.getD 0 noField).worth }).2 0) = false := nott e1
        have ha := fin_gathered h1 h2 ht kk (hwo hw) (b := false) (by rw [g1]; rfl) rfl rfl
        rw [e1] at ha
        conv => whnf
        exact ⟨[], _, _, _, rfl, rfl, rfl, by rw [ha]; exact nil_take, trivial⟩
      have e1 : (false && iEq (withF rest { noField with place := (comesOf x).getD 0 noRef, kind := 1, worth := (was.getD 0 noField).worth }).2 0) = true := notf e1
      have ha := fin_gathered h1 h2 ht kk (hwo hw) (b := false) (by rw [g1]; rfl) rfl rfl
      rw [e1] at ha
      conv => whnf
      exact ⟨[], _, _, _, rfl, rfl, rfl, by rw [ha]; exact RepLe.refl _, trivial⟩
  · have kk : iEq x.kind 10 = true := iEq_t.2 k
    have q1 : iEq x.kind 1 = false := kinds 10 kk 1 (by decide)
    have q2 : iEq x.kind 2 = false := kinds 10 kk 2 (by decide)
    have q3 : iEq x.kind 3 = false := kinds 10 kk 3 (by decide)
    have q4 : iEq x.kind 4 = false := kinds 10 kk 4 (by decide)
    have q5 : iEq x.kind 5 = false := kinds 10 kk 5 (by decide)
    have q6 : iEq x.kind 6 = false := kinds 10 kk 6 (by decide)
    have q7 : iEq x.kind 7 = false := kinds 10 kk 7 (by decide)
    have q8 : iEq x.kind 8 = false := kinds 10 kk 8 (by decide)
    have q9 : iEq x.kind 9 = false := kinds 10 kk 9 (by decide)
    have q10 : iEq x.kind 10 = true := kk
    have hw := hwp q2
    have hc := comes_one h2 q3 q6
    refine ⟨fun h => Bool.noConfusion (q1.symm.trans h), fun _ => ?_⟩
    conv => whnf
    refine ⟨fun h => Bool.noConfusion (q4.symm.trans h), fun _ => ?_⟩
    conv => whnf
    refine ⟨fun h => Bool.noConfusion (q5.symm.trans h), fun _ => ?_⟩
    conv => whnf
    refine ⟨fun h => Bool.noConfusion (q2.symm.trans h), fun _ => ?_⟩
    conv => whnf
    refine ⟨fun h => Bool.noConfusion (q3.symm.trans h), fun _ => ?_⟩
    conv => whnf
    refine ⟨fun h => Bool.noConfusion (q6.symm.trans h), fun _ => ?_⟩
    conv => whnf
    refine ⟨fun h => Bool.noConfusion (q7.symm.trans h), fun _ => ?_⟩
    conv => whnf
    refine ⟨fun h => Bool.noConfusion (q8.symm.trans h), fun _ => ?_⟩
    conv => whnf
    refine ⟨fun h => Bool.noConfusion (q9.symm.trans h), fun _ => ?_⟩
    conv => whnf
    refine ⟨fun _ => ?_, fun h => Bool.noConfusion (q10.symm.trans h)⟩
    conv => whnf
    refine ⟨(show (0 : Int) ≤ 0 ∧ (0 : Int) < (was.length : Int) by omega), ?_⟩
    conv => whnf
    refine ⟨(show 0 < was.length by omega), ?_⟩
    conv => whnf
    refine ⟨by omega, ?_⟩
    conv => whnf
    refine CallK.go [] (GCall.args (f100 rest { noField with place := (comesOf x).getD 0 noRef, kind := 2, dflt := x.other } (iEq (was.getD 0 noField).kind 4) hfr (show fitField _ from Nat.zero_le _)) ?hh) rfl rfl rfl rfl rfl ?_
    case hh => exact allLe3 (RepLe.refl _) (PLe.rep (PLe.agg (by repeat' (first | refine PLes.cons ?_ ?_ | exact PLe.refl _ | exact PLe.nil | exact PLes.end)))) (by first | exact RepLe.bl rfl | exact RepLe.refl _)
    conv => whnf
    refine ⟨rfl, ?_⟩
    conv => whnf
    refine ⟨fun e1 => ?_, fun e1 => ?_⟩
    · have e1 : ((iEq (was.getD 0 noField).kind 4) && iEq (withF rest { noField with place := (comesOf x).getD 0 noRef, kind := 2, dflt := x.other }).2 0) = false := nott e1
      have ha := fin_closed h1 h2 ht kk (b := iEq (was.getD 0 noField).kind 4) rfl rfl rfl
      rw [e1] at ha
      conv => whnf
      exact ⟨[], _, _, _, rfl, rfl, rfl, by rw [ha]; exact nil_take, trivial⟩
    have e1 : ((iEq (was.getD 0 noField).kind 4) && iEq (withF rest { noField with place := (comesOf x).getD 0 noRef, kind := 2, dflt := x.other }).2 0) = true := notf e1
    have ha := fin_closed h1 h2 ht kk (b := iEq (was.getD 0 noField).kind 4) rfl rfl rfl
    rw [e1] at ha
    conv => whnf
    exact ⟨[], _, _, _, rfl, rfl, rfl, by rw [ha]; exact RepLe.refl _, trivial⟩
end Go.Proofs.Ytoophkcicdbnfaa
