import Derived.Test.YtalpbdabeffnlaaGreatJoBH
import Derived.Test.YtalpbdabeffnlaaGreatJoQ
/- There and back: spread and gathered; the law. -/
set_option linter.unusedVariables false
set_option linter.unusedSimpArgs false
namespace Go.Proofs.YtalpbdabeffnlaaGreat
open Go Go.Av
set_option maxRecDepth 100000

theorem find_at {m : List SField} (h : rightFields m = true) {j : Nat} (hj : j < m.length) {r : SRef} (hp : (m.getD j noField).place = r) : placeIn m r = some j := by
  cases q : placeIn m r with
  | none =>
    have := findUpto_none _ _ _ q j (Nat.zero_le _) (by omega)
    rw [hp, sameRef_self] at this
    cases this
  | some k =>
    obtain ⟨_, hk, hpk, _⟩ := findUpto_some _ _ _ _ q
    have := right_one h (by omega) hj ((same_ref.1 hpk).trans hp.symm)
    rw [this]
theorem find_mem {m : List SField} (h : rightFields m = true) {f : SField} (hf : f ∈ m) : ∃ j, placeIn m f.place = some j ∧ m.getD j noField = f := by
  obtain ⟨j, hj, e⟩ := getD_mem hf
  exact ⟨j, find_at h hj (by rw [e]), e⟩
theorem without_is {m : List SField} (h : rightFields m = true) {r : SRef} {j : Nat} (hp : placeIn m r = some j) : (withoutF m r).1 = notAt m r := by
  unfold withoutF; rw [h, hp]; rfl
theorem notAt_comm (m : List SField) (r s : SRef) : notAt (notAt m r) s = notAt (notAt m s) r := by
  unfold notAt
  rw [List.filter_filter, List.filter_filter]
  exact List.filter_congr fun f _ => Bool.and_comm _ _
theorem put_mem {l : List SField} {f g : SField} (h : g ∈ l ∨ g = f) : g ∈ putIn l f := by
  rw [(put_perm l f).mem_iff]
  rcases h with h | h
  · exact List.mem_append_left _ h
  · subst h; exact List.mem_append_right _ (List.mem_singleton.2 rfl)
theorem notAt_mem {l : List SField} {g : SField} {r : SRef} (h : g ∈ l) (hr : g.place ≠ r) : g ∈ notAt l r := by
  unfold notAt
  rw [List.mem_filter]
  refine ⟨h, ?_⟩
  cases q : sameRef g.place r with
  | false => rfl
  | true => exact absurd (same_ref.1 q) hr
theorem at_mem {l : List SField} {j : Nat} (h : j < l.length) : l.getD j noField ∈ l := by
  rw [List.getD_eq_getElem?_getD, List.getElem?_eq_getElem h]; exact List.getElem_mem h
theorem two_places {r : SRef} {a b : ByteArray} (h : a ≠ b) : ({ r with name := a } : SRef) ≠ { r with name := b } := fun e => h (by injection e)

theorem back_spread {l : List SField} {x : SLens} (h0 : (applyF l x).2 = 0) (hk : iEq x.kind 6 = true) : applyF (applyF l x).1 (turnOf x) = (l, 0) := by
  obtain ⟨hx, hl⟩ := apply_ok h0
  have hy := turn_ok x hx
  have k1 := kinds 6 hk 1 (by decide)
  have k2 := kinds 6 hk 2 (by decide)
  have k3 := kinds 6 hk 3 (by decide)
  have k4 := kinds 6 hk 4 (by decide)
  have k5 := kinds 6 hk 5 (by decide)
  have e : turnOf x = { x with kind := 9 } := by unfold turnOf; rw [k1, k2, k3, k4, k5, hk]; rfl
  have hyk : iEq (turnOf x).kind 9 = true := by rw [e]; exact iEq_same _
  have hp : (turnOf x).place = x.place := by rw [e]
  have ho : (turnOf x).other = x.other := by rw [e]
  have hn : (turnOf x).name = x.name := by rw [e]
  have hfa : (turnOf x).factor = x.factor := by rw [e]
  have y1 := kinds 9 hyk 1 (by decide)
  have y2 := kinds 9 hyk 2 (by decide)
  have y3 := kinds 9 hyk 3 (by decide)
  have y4 := kinds 9 hyk 4 (by decide)
  have y5 := kinds 9 hyk 5 (by decide)
  have y6 := kinds 9 hyk 6 (by decide)
  have hne := two_places (r := x.place) (two_facts hx (.inl hk))
  obtain ⟨s1, hs1⟩ : ∃ s, s = ({ x.place with name := x.name } : SRef) := ⟨_, rfl⟩
  obtain ⟨s2, hs2⟩ : ∃ s, s = ({ x.place with name := x.other } : SRef) := ⟨_, rfl⟩
  have hgx : goesOf x = [x.place] := goes_one hx k2 k3 (kinds 6 hk 9 (by decide))
  have hcx : comesOf x = [s1, s2] := by unfold comesOf; rw [hx, k3, k2, k1, k4, k5, hk, hs1, hs2]; rfl
  have hgy : goesOf (turnOf x) = [s1, s2] := by unfold goesOf twoOf; rw [hy, y2, y3, hyk, hp, hn, ho, hs1, hs2]; rfl
  have hcy : comesOf (turnOf x) = [x.place] := by unfold comesOf; rw [hy, y3, y2, y1, y4, y5, y6, hp]; rfl
  rw [← hs1, ← hs2] at hne
  cases hpl : placeIn l x.place with
  | none =>
    have : applyF l x = ([], 16) := by unfold applyF; rw [hl, hx, hgx]; unfold takeAll; rw [hpl]; rfl
    rw [this] at h0; exact absurd h0 (show ¬ (16 : Int) = 0 by decide)
  | some j =>
    obtain ⟨_, hj, hpj, _⟩ := findUpto_some _ _ _ _ hpl
    have hj : j < l.length := by omega
    have hfp := same_ref.1 hpj
    have hback := with_without hl hpl
    obtain ⟨f, hf⟩ : ∃ f, f = l.getD j noField := ⟨_, rfl⟩
    obtain ⟨rest, hrest⟩ : ∃ m, m = (withoutF l x.place).1 := ⟨_, rfl⟩
    obtain ⟨w, hw⟩ : ∃ w, w = wrapO .i64 (f.worth * x.factor) := ⟨_, rfl⟩
    have et : turnedOf x [f] = ([f, { f with worth := w }], iEq f.kind 1 && iLe w 1048576) := by unfold turnedOf; rw [k2, k3, hk, hw]; rfl
    have ea : applyF l x = if (iEq f.kind 1 && iLe w 1048576) then putAll [s1, s2] [f, { f with worth := w }] rest else ([], 16) := by
      unfold applyF
      rw [hl, hx, hgx, hcx]
      unfold takeAll
      rw [hpl]
      show (if (turnedOf x [l.getD j noField]).2 then putAll [s1, s2] (turnedOf x [l.getD j noField]).1 (withoutF l x.place).1 else ([], 16)) = _
      rw [← hf, et, ← hrest]
    rw [← hf, ← hrest] at hback
    cases ht : (iEq f.kind 1 && iLe w 1048576) with
    | false => rw [ea, ht] at h0; exact absurd h0 (show ¬ (16 : Int) = 0 by decide)
    | true =>
      rw [ht] at ea
      have ea : applyF l x = if iEq (withF rest { f with place := s1 }).2 0 then putAll [s2] [{ f with worth := w }] (withF rest { f with place := s1 }).1 else ([], 16) := ea
      cases hz : iEq (withF rest { f with place := s1 }).2 0 with
      | false => rw [ea, hz] at h0; exact absurd h0 (show ¬ (16 : Int) = 0 by decide)
      | true =>
        obtain ⟨q1, q2, q3, q4, q5⟩ := with_zero hz
        rw [hz, q5] at ea
        have ea : applyF l x = if iEq (withF (putIn rest { f with place := s1 }) { f with worth := w, place := s2 }).2 0 then ((withF (putIn rest { f with place := s1 }) { f with worth := w, place := s2 }).1, 0) else ([], 16) := ea
        obtain ⟨m1, hm1⟩ : ∃ m, m = putIn rest { f with place := s1 } := ⟨_, rfl⟩
        have hr1 := put_right q1 q2 q3 q4
        have hwo1 : (withoutF m1 s1).1 = rest := by rw [hm1]; exact congrArg Prod.fst (without_put q1 q2 q3 q4)
        have hp1 : placeIn m1 s1 = some (gapOf rest { f with place := s1 }) := by rw [hm1]; exact put_place q1 q3
        have hin1 : { f with place := s1 } ∈ m1 := by rw [hm1]; exact put_mem (.inr rfl)
        rw [← hm1] at ea hr1
        cases hz2 : iEq (withF m1 { f with worth := w, place := s2 }).2 0 with
        | false => rw [ea, hz2] at h0; exact absurd h0 (show ¬ (16 : Int) = 0 by decide)
        | true =>
          obtain ⟨p1, p2, p3, p4, p5⟩ := with_zero hz2
          rw [hz2, p5] at ea
          obtain ⟨m2, hm2⟩ : ∃ m, m = putIn m1 { f with worth := w, place := s2 } := ⟨_, rfl⟩
          have hr2 := put_right p1 p2 p3 p4
          have hwo2 : (withoutF m2 s2).1 = m1 := by rw [hm2]; exact congrArg Prod.fst (without_put p1 p2 p3 p4)
          have hp2 : placeIn m2 s2 = some (gapOf m1 { f with worth := w, place := s2 }) := by rw [hm2]; exact put_place p1 p3
          have hat2 : m2.getD (gapOf m1 { f with worth := w, place := s2 }) noField = { f with worth := w, place := s2 } := by rw [hm2]; exact at_put p1 p3
          have hin2 : { f with place := s1 } ∈ m2 := by rw [hm2]; exact put_mem (.inl hin1)
          have hin3 : ({ f with worth := w, place := s2 } : SField) ∈ m2 := by rw [hm2]; exact put_mem (.inr rfl)
          rw [← hm2] at ea hr2
          have ea : applyF l x = (m2, 0) := ea
          obtain ⟨i1, hi1, hg1⟩ := find_mem hr2 hin2
          have hi1 : placeIn m2 s1 = some i1 := hi1
          have hra := without_right hr2 s1
          have hina : ({ f with worth := w, place := s2 } : SField) ∈ (withoutF m2 s1).1 := by
            rw [without_is hr2 hi1]; exact notAt_mem hin3 (fun e => hne e.symm)
          obtain ⟨i2, hi2, hg2⟩ := find_mem hra hina
          have hi2 : placeIn (withoutF m2 s1).1 s2 = some i2 := hi2
          have hend : (withoutF (withoutF m2 s1).1 s2).1 = rest := by
            rw [without_is hra hi2, without_is hr2 hi1, notAt_comm, ← without_is hr2 hp2, hwo2, ← without_is hr1 hp1, hwo1]
          rw [ea]
          show applyF m2 (turnOf x) = (l, 0)
          unfold applyF
          rw [hr2, hy, hgy, hcy]
          unfold takeAll
          rw [hi1]
          unfold takeAll
          rw [hp2]
          show (if (turnedOf (turnOf x) [m2.getD i1 noField, m2.getD (gapOf m1 { f with worth := w, place := s2 }) noField]).2 then putAll [x.place] (turnedOf (turnOf x) [m2.getD i1 noField, m2.getD (gapOf m1 { f with worth := w, place := s2 }) noField]).1 (withoutF (withoutF m2 s1).1 s2).1 else (([] : List SField), (16 : Int))) = _
          rw [hend, hg1, hat2]
          have hk1 : iEq f.kind 1 = true := by rw [Bool.and_eq_true] at ht; exact ht.1
          rw [show turnedOf (turnOf x) [{ f with place := s1 }, { f with worth := w, place := s2 }] = ([{ f with place := s1 }], true) by
            unfold turnedOf
            rw [y2, y3, y6, hyk, hfa]
            show (_, iEq f.kind 1 && (iEq f.kind 1 && iEq w (wrapO .i64 (f.worth * x.factor)))) = _
            rw [hk1, ← hw, iEq_same]
            rfl]
          show (if iEq (withF rest { f with place := x.place }).2 0 then ((withF rest { f with place := x.place }).1, (0 : Int)) else ([], 16)) = _
          rw [place_self f (by rw [hf]; exact hfp), hback, iEq_same]
          rfl

theorem back_gather {l : List SField} {x : SLens} (h0 : (applyF l x).2 = 0) (hk : iEq x.kind 9 = true) : applyF (applyF l x).1 (turnOf x) = (l, 0) := by
  obtain ⟨hx, hl⟩ := apply_ok h0
  have hy := turn_ok x hx
  have k1 := kinds 9 hk 1 (by decide)
  have k2 := kinds 9 hk 2 (by decide)
  have k3 := kinds 9 hk 3 (by decide)
  have k4 := kinds 9 hk 4 (by decide)
  have k5 := kinds 9 hk 5 (by decide)
  have k6 := kinds 9 hk 6 (by decide)
  have e : turnOf x = { x with kind := 6 } := by unfold turnOf; rw [k1, k2, k3, k4, k5, k6, hk]; rfl
  have hyk : iEq (turnOf x).kind 6 = true := by rw [e]; exact iEq_same _
  have hp : (turnOf x).place = x.place := by rw [e]
  have ho : (turnOf x).other = x.other := by rw [e]
  have hn : (turnOf x).name = x.name := by rw [e]
  have hfa : (turnOf x).factor = x.factor := by rw [e]
  have y1 := kinds 6 hyk 1 (by decide)
  have y2 := kinds 6 hyk 2 (by decide)
  have y3 := kinds 6 hyk 3 (by decide)
  have y4 := kinds 6 hyk 4 (by decide)
  have y5 := kinds 6 hyk 5 (by decide)
  have y9 := kinds 6 hyk 9 (by decide)
  have hne := two_places (r := x.place) (two_facts hx (.inr hk))
  obtain ⟨s1, hs1⟩ : ∃ s, s = ({ x.place with name := x.name } : SRef) := ⟨_, rfl⟩
  obtain ⟨s2, hs2⟩ : ∃ s, s = ({ x.place with name := x.other } : SRef) := ⟨_, rfl⟩
  have hgx : goesOf x = [s1, s2] := by unfold goesOf twoOf; rw [hx, k2, k3, hk, hs1, hs2]; rfl
  have hcx : comesOf x = [x.place] := by unfold comesOf; rw [hx, k3, k2, k1, k4, k5, k6]; rfl
  have hgy : goesOf (turnOf x) = [x.place] := by rw [goes_one hy y2 y3 y9, hp]
  have hcy : comesOf (turnOf x) = [s1, s2] := by unfold comesOf twoOf; rw [hy, y3, y2, y1, y4, y5, hyk, hp, hn, ho, hs1, hs2]; rfl
  rw [← hs1, ← hs2] at hne
  cases hp1 : placeIn l s1 with
  | none =>
    have : applyF l x = ([], 16) := by unfold applyF; rw [hl, hx, hgx]; unfold takeAll; rw [hp1]; rfl
    rw [this] at h0; exact absurd h0 (show ¬ (16 : Int) = 0 by decide)
  | some j1 =>
    cases hp2 : placeIn l s2 with
    | none =>
      have : applyF l x = ([], 16) := by unfold applyF; rw [hl, hx, hgx]; unfold takeAll; rw [hp1]; unfold takeAll; rw [hp2]; rfl
      rw [this] at h0; exact absurd h0 (show ¬ (16 : Int) = 0 by decide)
    | some j2 =>
      obtain ⟨_, hj1, hpj1, _⟩ := findUpto_some _ _ _ _ hp1
      obtain ⟨_, hj2, hpj2, _⟩ := findUpto_some _ _ _ _ hp2
      have hj1 : j1 < l.length := by omega
      have hj2 : j2 < l.length := by omega
      have hfp1 := same_ref.1 hpj1
      have hfp2 := same_ref.1 hpj2
      have hok1 := (right_step hl hj1).1
      have hok2 := (right_step hl hj2).1
      have hmem1 := at_mem hj1
      have hmem2 := at_mem hj2
      have hback := with_without hl hp2
      obtain ⟨f, hf⟩ : ∃ f, f = l.getD j1 noField := ⟨_, rfl⟩
      obtain ⟨g, hg⟩ : ∃ f, f = l.getD j2 noField := ⟨_, rfl⟩
      rw [← hf] at hfp1 hok1 hmem1
      rw [← hg] at hfp2 hok2 hmem2 hback
      obtain ⟨rest, hrest⟩ : ∃ m, m = (withoutF (withoutF l s1).1 s2).1 := ⟨_, rfl⟩
      obtain ⟨w, hw⟩ : ∃ w, w = wrapO .i64 (f.worth * x.factor) := ⟨_, rfl⟩
      have et : turnedOf x [f, g] = ([f], iEq f.kind 1 && (iEq g.kind 1 && iEq g.worth w)) := by unfold turnedOf; rw [k2, k3, k6, hk, hw]; rfl
      have ea : applyF l x = if (iEq f.kind 1 && (iEq g.kind 1 && iEq g.worth w)) then putAll [x.place] [f] rest else ([], 16) := by
        unfold applyF
        rw [hl, hx, hgx, hcx]
        unfold takeAll
        rw [hp1]
        unfold takeAll
        rw [hp2]
        show (if (turnedOf x [l.getD j1 noField, l.getD j2 noField]).2 then putAll [x.place] (turnedOf x [l.getD j1 noField, l.getD j2 noField]).1 (withoutF (withoutF l s1).1 s2).1 else ([], 16)) = _
        rw [← hf, ← hg, et, ← hrest]
      cases ht : (iEq f.kind 1 && (iEq g.kind 1 && iEq g.worth w)) with
      | false => rw [ea, ht] at h0; exact absurd h0 (show ¬ (16 : Int) = 0 by decide)
      | true =>
        rw [ht] at ea
        have ea : applyF l x = if iEq (withF rest { f with place := x.place }).2 0 then ((withF rest { f with place := x.place }).1, 0) else ([], 16) := ea
        cases hz : iEq (withF rest { f with place := x.place }).2 0 with
        | false => rw [ea, hz] at h0; exact absurd h0 (show ¬ (16 : Int) = 0 by decide)
        | true =>
          obtain ⟨q1, q2, q3, q4, q5⟩ := with_zero hz
          rw [hz, q5] at ea
          obtain ⟨m1, hm1⟩ : ∃ m, m = putIn rest { f with place := x.place } := ⟨_, rfl⟩
          have hr1 := put_right q1 q2 q3 q4
          have hwo1 : (withoutF m1 x.place).1 = rest := by rw [hm1]; exact congrArg Prod.fst (without_put q1 q2 q3 q4)
          have hpl1 : placeIn m1 x.place = some (gapOf rest { f with place := x.place }) := by rw [hm1]; exact put_place q1 q3
          have hat1 : m1.getD (gapOf rest { f with place := x.place }) noField = { f with place := x.place } := by rw [hm1]; exact at_put q1 q3
          rw [← hm1] at hr1 ea
          have ea : applyF l x = (m1, 0) := ea
          simp only [Bool.and_eq_true] at ht
          obtain ⟨t1, t2, t3⟩ := ht
          -- the rest, taken the other way round
          have hra := without_right hl s2
          have hina : f ∈ (withoutF l s2).1 := by rw [without_is hl hp2]; exact notAt_mem hmem1 (by rw [hfp1]; exact hne)
          obtain ⟨i1, hi1, hg1⟩ := find_mem hra hina
          rw [hfp1] at hi1
          have hrb := without_right hl s1
          have hinb : g ∈ (withoutF l s1).1 := by rw [without_is hl hp1]; exact notAt_mem hmem2 (by rw [hfp2]; exact fun e => hne e.symm)
          obtain ⟨i2, hi2, hg2⟩ := find_mem hrb hinb
          rw [hfp2] at hi2
          have hend : rest = (withoutF (withoutF l s2).1 s1).1 := by
            rw [hrest, without_is hrb hi2, without_is hl hp1, notAt_comm, ← without_is hl hp2, ← without_is hra hi1]
          have hb1 := with_without hra hi1
          rw [hg1, ← hend] at hb1
          rw [ea]
          show applyF m1 (turnOf x) = (l, 0)
          unfold applyF
          rw [hr1, hy, hgy, hcy]
          unfold takeAll
          rw [hpl1]
          show (if (turnedOf (turnOf x) [m1.getD (gapOf rest { f with place := x.place }) noField]).2 then putAll [s1, s2] (turnedOf (turnOf x) [m1.getD (gapOf rest { f with place := x.place }) noField]).1 (withoutF m1 x.place).1 else (([] : List SField), (16 : Int))) = _
          rw [hwo1, hat1]
          have hgw : g.worth = w := iEq_t.1 t3
          rw [show turnedOf (turnOf x) [{ f with place := x.place }] = ([{ f with place := x.place }, { f with place := x.place, worth := w }], true) by
            unfold turnedOf
            rw [y2, y3, hyk, hfa]
            show ([_, { f with place := x.place, worth := wrapO .i64 (f.worth * x.factor) }], iEq f.kind 1 && iLe (wrapO .i64 (f.worth * x.factor)) 1048576) = _
            rw [← hw, t1, ← hgw, ((plain_field hok2).2.2.2 t2).2]
            rfl]
          show (if iEq (withF rest { f with place := s1 }).2 0 then putAll [s2] [{ f with place := x.place, worth := w }] (withF rest { f with place := s1 }).1 else (([] : List SField), (16 : Int))) = _
          rw [place_self f hfp1, hb1, iEq_same]
          show (if iEq (withF (withoutF l s2).1 { f with place := s2, worth := w }).2 0 then ((withF (withoutF l s2).1 { f with place := s2, worth := w }).1, (0 : Int)) else ([], 16)) = _
          have hgg : ({ f with place := s2, worth := w } : SField) = g := by
            have a1 := ((plain_field hok1).2.2.2 t1).1
            have a2 := ((plain_field hok2).2.2.2 t2).1
            have a3 := (plain_field hok1).1 (kinds 1 t1 3 (by decide))
            have a4 := (plain_field hok2).1 (kinds 1 t2 3 (by decide))
            have a5 := iEq_t.1 t1
            have a6 := iEq_t.1 t2
            clear hf hg
            cases f; cases g
            simp only at a1 a2 a3 a4 a5 a6 hgw hfp2
            subst a1 a2 a3 a4 a5 a6 hgw hfp2
            rfl
          rw [hgg, hback, iEq_same]
          rfl
theorem back_all {l : List SField} {x : SLens} (h0 : (applyF l x).2 = 0) : applyF (applyF l x).1 (turnOf x) = (l, 0) := by
  have hk := kind_range (apply_ok h0).1
  rcases hk with hk | hk | hk | hk | hk | hk | hk | hk | hk | hk
  · exact back_moved h0 1 (iEq_t.2 hk) (.inl rfl)
  · exact back_add h0 (iEq_t.2 hk)
  · exact back_rem h0 (iEq_t.2 hk)
  · exact back_moved h0 4 (iEq_t.2 hk) (.inr (.inl rfl))
  · exact back_moved h0 5 (iEq_t.2 hk) (.inr (.inr rfl))
  · exact back_spread h0 (iEq_t.2 hk)
  · exact back_cast h0 7 (iEq_t.2 hk) (.inl rfl)
  · exact back_cast h0 8 (iEq_t.2 hk) (.inr (.inr rfl))
  · exact back_gather h0 (iEq_t.2 hk)
  · exact back_cast h0 10 (iEq_t.2 hk) (.inr (.inl rfl))
end Go.Proofs.YtalpbdabeffnlaaGreat

/- BackParts: a row of lenses, and the law itself. -/
set_option linter.unusedVariables false
set_option linter.unusedSimpArgs false
namespace Go.Proofs.YtalpbdabeffnlaaGreat
open Go Go.Av
set_option maxRecDepth 100000
set_option maxHeartbeats 4000000

def encRow (row : List SLens) : PV := .rs 16 row.length fun i => at_ .any (lensCells (row.getD i noLens))
def fitRow (row : List SLens) : Prop := row.length ≤ 4611686018427387904 ∧ ∀ x ∈ row, fitLens x
theorem fitRow.at {row : List SLens} (h : fitRow row) (i : Nat) : fitLens (row.getD i noLens) := by
  rw [List.getD_eq_getElem?_getD]
  rcases Nat.lt_or_ge i row.length with hi | hi
  · rw [List.getElem?_eq_getElem hi]; exact h.2 _ (List.getElem_mem hi)
  · rw [List.getElem?_eq_none hi]; exact ⟨Nat.zero_le _, Nat.zero_le _, Nat.zero_le _⟩
def heavyRow (row : List SLens) : Bool := iLt 12 row.length || !allUpto (fun i => !heavyLens (row.getD i noLens)) row.length 0
theorem f62 (row : List SLens) (hl : fitRow row) : PCall Tryz.prog 10 [encRow row] (.p (.val (.bool (heavyRow row)))) [] := by
  have hlen := hl.1
  refine gcode hT hM Tryz.func10 rfl rfl (rv := [(2, none)]) rfl rfl rfl fun G hG => ?_
  conv => whnf
  refine ⟨fun h => ?_, fun h => ?_⟩
  · conv => whnf
    exact ⟨[], _, _, _, rfl, rfl, rfl, RepLe.bl (by simp_all [heavyRow]), trivial⟩
  conv => whnf
  refine AW.loop (X := Nat) (fun i => told 18 [(0, .p (encRow row)), (3, vI .i64 (i : Int))] [] []) (fun i => i ≤ row.length ∧ heavyRow row = !allUpto (fun i => !heavyLens (row.getD i noLens)) (row.length - i) i) (fun i => row.length - i) (used0 hG _) 0 ⟨by omega, by simp_all [heavyRow]⟩ (stle ⟨RepLe.refl _, RepLe.refl _, trivial⟩ trivial rfl) ?_
  rintro i ⟨hi, hr⟩
  refine codeK_aw hT hM _ _ _ ?_
  conv => whnf
  refine ⟨fun h4 => ?_, fun h4 => ?_⟩
  · have hlt : i < row.length := by rw [iLt_t] at h4; omega
    rw [allUpto_step _ hlt] at hr
    conv => whnf
    refine ⟨by omega, ?_⟩
    conv => whnf
    refine CallK.lent (f21 (row.getD i noLens) (hl.at i).ok) rfl ?_
    conv => whnf
    refine ⟨fun h5 => ?_, fun h5 => ?_⟩
    · have h5 : heavyLens (row.getD i noLens) = true := h5
      conv => whnf
      exact ⟨[], _, _, _, rfl, rfl, rfl, RepLe.bl (by rw [hr, h5]; simp), trivial⟩
    have h5 : heavyLens (row.getD i noLens) = false := h5
    conv => whnf
    intro z hz
    have hy := wrap64_eq hz (by omega) (by omega)
    clear hz
    subst hy
    conv => whnf
    exact ⟨i + 1, ⟨by omega, by rw [hr, h5]; simp⟩, by omega, stle ⟨RepLe.refl _, RepLe.of rfl, trivial⟩ trivial rfl⟩
  · have hge : i = row.length := by rw [iLt_f] at h4; omega
    subst hge
    conv => whnf
    exact ⟨[], _, _, _, rfl, rfl, rfl, RepLe.bl (by rw [hr, allUpto_end]; rfl), trivial⟩

def encChain (c : List SField × Nat × Int) : AV := .tup 3 (at_ (.p .any) [.p (encFields c.1), .p (.val (.int .i64 ((c.2.1 : Nat) : Int))), .p (.val (.int .i64 c.2.2))])
theorem chain_ret {a : PV} {i c : Int} {p : List SField × Nat × Int} {l : List SField} {k : Nat} (h : p = (l, k, c)) (ha : PLe a (encFields l)) (hi : i = (k : Int)) : RepLe (.tup 3 (at_ (.p .any) [.p a, .p (.val (.int .i64 i)), .p (.val (.int .i64 c))])) (encChain p) := by
  subst h hi
  exact RepLe.tup (l := [.p a, .p (.val (.int .i64 (k : Int))), .p (.val (.int .i64 c))]) (m := [.p (encFields l), .p (.val (.int .i64 (k : Int))), .p (.val (.int .i64 c))]) ⟨PLe.rep ha, RepLe.refl _, RepLe.refl _, trivial⟩
theorem chain_step (row : List SLens) (cur : List SField) {i : Nat} (h : i < row.length) : chainGo (row.drop i) cur i = if iEq (applyF cur (row.getD i noLens)).2 0 then chainGo (row.drop (i + 1)) (applyF cur (row.getD i noLens)).1 (i + 1) else ([], i, (applyF cur (row.getD i noLens)).2) := by
  rw [List.drop_eq_getElem_cons h, List.getD_eq_getElem?_getD, List.getElem?_eq_getElem h]
  rfl

theorem f63 (l : List SField) (row : List SLens) (hl : fitFields l) (hw : fitRow row) : PCall Tryz.prog 11 [encFields l, encRow row] (encChain (chainF l row)) [] := by
  have hlen := hw.1
  refine gcode hT hM Tryz.func11 rfl rfl (rv := [(4, none), (5, none), (6, none)]) rfl rfl rfl fun G hG => ?_
  conv => whnf
  refine AW.scope (X := Nat × List SField) 0 (fun p => told 37 [(0, .p (encFields p.2)), (1, .p (encRow row)), (7, vI .i64 (p.1 : Int))] [] []) (fun p => p.1 ≤ row.length ∧ fitFields p.2 ∧ chainF l row = chainGo (row.drop p.1) p.2 p.1) (fun p => row.length - p.1) (used0 hG _) rfl ?_ ?_
  · refine codeK_aw hT hM _ _ _ ?_
    conv => whnf
    refine CallK.lent (f33 l hl.ok) rfl ?_
    conv => whnf
    refine ⟨fun h1 => ?_, fun h1 => ?_⟩
    · have h1 : rightFields l = false := by simpa using h1
      conv => whnf
      exact ⟨[], _, _, _, rfl, rfl, rfl, chain_ret (by unfold chainF; rw [h1]; rfl) nil_fields rfl, trivial⟩
    have h1 : rightFields l = true := by simpa using h1
    have hr : chainF l row = chainGo row l 0 := by unfold chainF; rw [h1]; rfl
    conv => whnf
    refine CallK.go [] (f27 l hl) rfl rfl rfl rfl rfl ?_
    conv => whnf
    refine ⟨fun h4 => ?_, fun h4 => ?_⟩
    · have hz : row = [] := List.length_eq_zero_iff.1 (by rw [iEq_t] at h4; omega)
      conv => whnf
      exact ⟨[], _, _, _, rfl, rfl, rfl, chain_ret (by rw [hr, hz]; rfl) (PLe.refl _) rfl, trivial⟩
    have hlt : 0 < row.length := by rw [iEq_f] at h4; omega
    have hs := chain_step row l hlt
    rw [List.drop_zero, ← hr] at hs
    conv => whnf
    refine ⟨by omega, ?_⟩
    conv => whnf
    refine CallK.go [] (f49 l (row.getD 0 noLens) hl (hw.at 0)) rfl rfl rfl rfl rfl ?_
    conv => whnf
    refine ⟨fun h5 => ?_, fun h5 => ?_⟩
    · rw [h5] at hs
      conv => whnf
      intro z hz
      have hy := wrap64_eq hz (by omega) (by omega)
      clear hz
      subst hy
      conv => whnf
      exact ⟨(1, (applyF l (row.getD 0 noLens)).1), ⟨by show 1 ≤ _; omega, apply_fit hl (hw.at 0), hs⟩, stle ⟨RepLe.refl _, RepLe.refl _, RepLe.of rfl, trivial⟩ trivial rfl⟩
    rw [h5] at hs
    conv => whnf
    exact ⟨[], _, _, _, rfl, rfl, rfl, chain_ret hs nil_fields rfl, trivial⟩
  · rintro ⟨i, cur⟩ ⟨hi, hc, hr⟩
    have hi : i ≤ row.length := hi
    have hc : fitFields cur := hc
    have hr : chainF l row = chainGo (row.drop i) cur i := hr
    refine codeK_aw hT hM _ _ _ ?_
    conv => whnf
    refine ⟨fun h4 => ?_, fun h4 => ?_⟩
    · have hz : i = row.length := by rw [iEq_t] at h4; omega
      rw [hz, List.drop_length] at hr
      conv => whnf
      exact ⟨[], _, _, _, rfl, rfl, rfl, chain_ret (l := cur) (k := row.length) hr (PLe.refl _) (by rw [hz]), trivial⟩
    have hlt : i < row.length := by rw [iEq_f] at h4; omega
    rw [chain_step row cur hlt] at hr
    conv => whnf
    refine ⟨by omega, ?_⟩
    conv => whnf
    refine CallK.go [] (f49 cur (row.getD i noLens) hc (hw.at i)) rfl rfl rfl rfl rfl ?_
    conv => whnf
    refine ⟨fun h5 => ?_, fun h5 => ?_⟩
    · rw [h5] at hr
      conv => whnf
      intro z hz
      have hy := wrap64_eq hz (by omega) (by omega)
      clear hz
      subst hy
      conv => whnf
      exact ⟨(i + 1, (applyF cur (row.getD i noLens)).1), ⟨by show i + 1 ≤ _; omega, apply_fit hc (hw.at i), hr⟩, by show row.length - (i + 1) < row.length - i; omega, stle ⟨RepLe.refl _, RepLe.refl _, RepLe.of rfl, trivial⟩ trivial rfl⟩
    rw [h5] at hr
    conv => whnf
    exact ⟨[], _, _, _, rfl, rfl, rfl, chain_ret (l := []) (k := i) hr nil_fields rfl, trivial⟩
end Go.Proofs.YtalpbdabeffnlaaGreat

/- A row and its way back: plain law. -/
set_option linter.unusedVariables false
set_option linter.unusedSimpArgs false
namespace Go.Proofs.YtalpbdabeffnlaaGreat
open Go Go.Av
set_option maxRecDepth 100000

def retOf (row : List SLens) : List SLens := (row.map turnOf).reverse
theorem ret_cons (x : SLens) (xs : List SLens) : retOf (x :: xs) = retOf xs ++ [turnOf x] := by
  unfold retOf; rw [List.map_cons, List.reverse_cons]
theorem chain_back : ∀ (row : List SLens) (cur : List SField) (i : Nat), (chainGo row cur i).2.2 = 0 → ∀ (rest : List SLens) (k : Nat), chainGo (retOf row ++ rest) (chainGo row cur i).1 k = chainGo rest cur (k + row.length)
  | [], cur, i, _, rest, k => rfl
  | x :: xs, cur, i, h, rest, k => by
    unfold chainGo at h
    cases hz : iEq (applyF cur x).2 0 with
    | false => rw [hz] at h; rw [iEq_f] at hz; exact absurd h hz
    | true =>
      rw [hz] at h
      have h : (chainGo xs (applyF cur x).1 (i + 1)).2.2 = 0 := h
      have e : chainGo (x :: xs) cur i = chainGo xs (applyF cur x).1 (i + 1) := by
        show (if iEq (applyF cur x).2 0 = true then chainGo xs (applyF cur x).1 (i + 1) else _) = _
        rw [hz]; rfl
      have hb := back_all (iEq_t.1 hz)
      rw [e, ret_cons, List.append_assoc, chain_back xs _ _ h]
      show (if iEq (applyF (applyF cur x).1 (turnOf x)).2 0 = true then chainGo rest (applyF (applyF cur x).1 (turnOf x)).1 (k + xs.length + 1) else _) = _
      rw [hb, if_pos (by rw [iEq_t])]
      rfl
theorem chain_all : ∀ (row : List SLens) (cur : List SField) (i : Nat), (chainGo row cur i).2.2 = 0 → ∀ x ∈ row, lensOk x = true
  | [], _, _, _, x, hx => by simp at hx
  | y :: ys, cur, i, h, x, hx => by
    unfold chainGo at h
    cases hz : iEq (applyF cur y).2 0 with
    | false => rw [hz] at h; rw [iEq_f] at hz; exact absurd h hz
    | true =>
      rw [hz] at h
      rcases List.mem_cons.1 hx with rfl | hx
      · exact (apply_ok (iEq_t.1 hz)).1
      · exact chain_all ys _ _ h x hx
theorem chain_bad : ∀ (row : List SLens) (cur : List SField) (i : Nat), (chainGo row cur i).2.2 ≠ 0 → (chainGo row cur i).1 = []
  | [], _, _, h => absurd rfl h
  | y :: ys, cur, i, h => by
    unfold chainGo at h ⊢
    cases hz : iEq (applyF cur y).2 0 with
    | false => rfl
    | true => rw [hz] at h; exact chain_bad ys _ _ h
def firstBad (row : List SLens) : Option Nat := findUpto (fun i => !lensOk (row.getD i noLens)) row.length 0
def retF (row : List SLens) : List SLens × Nat × Int :=
  match firstBad row with
  | some i => ([], i, 5)
  | none => (retOf row, row.length, 0)
theorem none_bad {row : List SLens} (h : ∀ x ∈ row, lensOk x = true) : firstBad row = none := by
  cases q : firstBad row with
  | none => rfl
  | some j =>
    obtain ⟨_, hj, hp, _⟩ := findUpto_some _ _ _ _ q
    have hj : j < row.length := by omega
    have := h (row.getD j noLens) (by rw [List.getD_eq_getElem?_getD, List.getElem?_eq_getElem hj]; exact List.getElem_mem hj)
    rw [this] at hp; cases hp
theorem ret_fit {row : List SLens} (h : fitRow row) : fitRow (retF row).1 := by
  unfold retF
  cases firstBad row with
  | some i => exact ⟨Nat.zero_le _, fun x hx => by simp at hx⟩
  | none =>
    refine ⟨by show (retOf row).length ≤ _; unfold retOf; rw [List.length_reverse, List.length_map]; exact h.1, fun x hx => ?_⟩
    have hx : x ∈ (row.map turnOf).reverse := hx
    rw [List.mem_reverse, List.mem_map] at hx
    obtain ⟨y, hy, rfl⟩ := hx
    exact turnOf_fit (h.2 y hy)
/-- A row that leads somewhere, and its way back. -/
theorem chain_return {l : List SField} {row : List SLens} (h : (chainF l row).2.2 = 0) : retF row = (retOf row, row.length, 0) ∧ chainF (chainF l row).1 (retOf row) = (l, row.length, 0) := by
  unfold chainF at h ⊢
  cases hl : rightFields l with
  | false => rw [hl] at h; exact absurd h (show ¬ (5 : Int) = 0 by decide)
  | true =>
    rw [hl] at h
    have h : (chainGo row l 0).2.2 = 0 := h
    refine ⟨by unfold retF; rw [none_bad (chain_all _ _ _ h)], ?_⟩
    show (if rightFields (chainGo row l 0).1 = true then chainGo (retOf row) (chainGo row l 0).1 0 else _) = _
    rw [if_pos (chain_right row l 0 hl)]
    have := chain_back row l 0 h [] 0
    rw [List.append_nil, Nat.zero_add] at this
    exact this
theorem chainF_bad {l : List SField} {row : List SLens} (h : (chainF l row).2.2 ≠ 0) : (chainF l row).1 = [] := by
  unfold chainF at h ⊢
  cases hl : rightFields l with
  | false => rfl
  | true => rw [hl] at h; exact chain_bad _ _ _ h
end Go.Proofs.YtalpbdabeffnlaaGreat
