import Derived.Test.YtalpbdabeffnlaaGreatJoEU
import Derived.Test.YtalpbdabeffnlaaGreatJoEL
/- The entry that comes: by kinds. -/
set_option linter.unusedVariables false
set_option linter.unusedSimpArgs false
namespace Go.Proofs.YtalpbdabeffnlaaGreat
open Go Go.Av Go.Fl
set_option maxRecDepth 100000

def Met (x : SLens) (es : List SEntry) (g : SField) (k : Nat) : Prop :=
  ((comeP x g k (wentP x es)).2 = 0 → fitsEntry g (comeP x g k (wentP x es)).1 = true) ∧ (comeR x g k es).2 = iEq (comeP x g k (wentP x es)).2 0 ∧ ((comeP x g k (wentP x es)).2 = 0 → (comeR x g k es).1 = (comeP x g k (wentP x es)).1)
theorem Met.of {x : SLens} {es : List SEntry} {g : SField} {k : Nat} {e : SEntry} (hp : comeP x g k (wentP x es) = (e, 0)) (hr : comeR x g k es = (e, true)) (hf : fitsEntry g e = true) : Met x es g k := by
  unfold Met
  rw [hp, hr]
  exact ⟨fun _ => hf, (iEq_self 0).symm, fun _ => rfl⟩
theorem Met.no {x : SLens} {es : List SEntry} {g : SField} {k : Nat} {e : SEntry} {c : Int} (hp : comeP x g k (wentP x es) = (e, c)) (hc : c ≠ 0) (hr : comeR x g k es = (noEntry, false)) : Met x es g k := by
  unfold Met
  rw [hp, hr]
  exact ⟨fun h => absurd h hc, (iEq_f.2 hc).symm, fun h => absurd h hc⟩
section
variable {l : List SField} {x : SLens} {s : Int} {es : List SEntry} {g : SField} {k : Nat}
theorem e0_is (hx : lensOk x = true) (h : iEq x.kind 2 = false) : e0 (wentP x es) = g0 x es := by
  unfold e0 g0
  rw [goes2_eq hx, wentP_at x es (by rw [← goes2_eq hx]; exact goes_pos h)]
theorem e1_is (hx : lensOk x = true) (h : iEq x.kind 9 = true) : e1 (wentP x es) = g1 x es := by
  unfold e1 g1
  rw [goes2_eq hx, wentP_at x es (by rw [← goes2_eq hx]; exact goes_two h)]
/-- The field that goes, and its entry. -/
theorem was_of (h0 : (applyF l x).2 = 0) (he : entriesOk (scopeOf l s) es = true) (hs : lensScope x = s) {was : List SField} (hw : was = (goesOf x).map (fun r => (fieldAt l (placeIn l r)).1)) (h2 : iEq x.kind 2 = false) :
    fitsEntry (was.getD 0 noField) (e0 (wentP x es)) = true ∧ was.getD 0 noField ∈ l ∧ (was.getD 0 noField).place = (goesOf x).getD 0 noRef := by
  have hx := (apply_ok h0).1
  have hg : 0 < (goesOf x).length := by rw [← goes2_eq hx]; exact goes_pos h2
  obtain ⟨f, a1, a2, a3, a4⟩ := went_at h0 he hs hg
  have : was.getD 0 noField = f := by
    rw [hw, List.getD_eq_getElem?_getD, List.getElem?_map]
    rw [← a3, List.getD_eq_getElem?_getD, List.getElem?_eq_getElem hg]; rfl
  rw [this]
  exact ⟨a4, a1, a2⟩
theorem met_moved (h0 : (applyF l x).2 = 0) (he : entriesOk (scopeOf l s) es = true) (hs : lensScope x = s) (hg : g ∈ (applyF l x).1) (hk : idxRef (comesOf x) g.place = some k) (a : Int) (ha : iEq x.kind a = true) (haa : a = 1 ∨ a = 4 ∨ a = 5) : Met x es g k := by
  have hx := (apply_ok h0).1
  have k2 : iEq x.kind 2 = false := by rcases haa with rfl | rfl | rfl <;> exact kinds _ ha 2 (by decide)
  have k3 : iEq x.kind 3 = false := by rcases haa with rfl | rfl | rfl <;> exact kinds _ ha 3 (by decide)
  have k6 : iEq x.kind 6 = false := by rcases haa with rfl | rfl | rfl <;> exact kinds _ ha 6 (by decide)
  have k9 : iEq x.kind 9 = false := by rcases haa with rfl | rfl | rfl <;> exact kinds _ ha 9 (by decide)
  have k7 : iEq x.kind 7 = false := by rcases haa with rfl | rfl | rfl <;> exact kinds _ ha 7 (by decide)
  have k10 : iEq x.kind 10 = false := by rcases haa with rfl | rfl | rfl <;> exact kinds _ ha 10 (by decide)
  have k8 : iEq x.kind 8 = false := by rcases haa with rfl | rfl | rfl <;> exact kinds _ ha 8 (by decide)
  have hb : (iEq x.kind 1 || (iEq x.kind 4 || iEq x.kind 5)) = true := by rcases haa with rfl | rfl | rfl <;> rw [ha] <;> simp
  obtain ⟨rfl, hc⟩ := comes_k1 hx k3 k6 hk
  obtain ⟨was, hw, hb2, hgg⟩ := first_is h0 hc hg rfl
  obtain ⟨hf, _, _⟩ := was_of h0 he hs hw k2
  rw [was_moved was a ha haa] at hgg
  have hgo := field_ok (apply_right h0) hg
  refine Met.of (e := { e0 (wentP x es) with place := g.place }) (by unfold comeP; rw [hb]; rfl) (by unfold comeR; rw [k2, k6, k9, k7, k10, k8, e0_is hx k2]; rfl) ?_
  generalize g.place = c at *
  subst hgg
  exact fits_moved hf hgo
theorem met_added (h0 : (applyF l x).2 = 0) (hg : g ∈ (applyF l x).1) (ha : iEq x.kind 2 = true) : Met x es g k := by
  have hgo := field_ok (apply_right h0) hg
  refine Met.of (e := valueF g) (by unfold comeP; rw [kinds 2 ha 1 (by decide), kinds 2 ha 4 (by decide), kinds 2 ha 5 (by decide), kinds 2 ha 6 (by decide), kinds 2 ha 9 (by decide), kinds 2 ha 7 (by decide), kinds 2 ha 10 (by decide), kinds 2 ha 8 (by decide)]; rfl) (by unfold comeR; rw [ha]; rfl) (value_fits hgo)
theorem met_spread (h0 : (applyF l x).2 = 0) (he : entriesOk (scopeOf l s) es = true) (hs : lensScope x = s) (hg : g ∈ (applyF l x).1) (hk : idxRef (comesOf x) g.place = some k) (ha : iEq x.kind 6 = true) : Met x es g k := by
  have hx := (apply_ok h0).1
  have k2 := kinds 6 ha 2 (by decide)
  have hgo := field_ok (apply_right h0) hg
  have hc : comesOf x = twoOf x := by unfold comesOf; rw [hx, kinds 6 ha 3 (by decide), k2, kinds 6 ha 1 (by decide), kinds 6 ha 4 (by decide), kinds 6 ha 5 (by decide), ha]; rfl
  obtain ⟨q1, q2⟩ := idx_at hk
  have hk2 : k = 0 ∨ k = 1 := by rw [hc] at q1; have q1 : k < 2 := q1; omega
  rcases hk2 with rfl | rfl
  · have hgp : g.place = { x.place with name := x.name } := by rw [← q2, hc]; rfl
    obtain ⟨was, hw, hb2, hgg⟩ := first_is h0 (c := { x.place with name := x.name }) (cs := [{ x.place with name := x.other }]) (by rw [hc]; rfl) hg hgp
    obtain ⟨hf, _, _⟩ := was_of h0 he hs hw k2
    unfold turnedOf at hb2 hgg
    rw [k2, kinds 6 ha 3 (by decide), ha] at hb2 hgg
    have hb2 : (iEq (was.getD 0 noField).kind 1 && iLe (wrapO .i64 ((was.getD 0 noField).worth * x.factor)) 1048576) = true := hb2
    rw [Bool.and_eq_true] at hb2
    have hgk : g.kind = (was.getD 0 noField).kind := by rw [hgg]; rfl
    have gk : iEq g.kind 1 = true := by rw [hgk]; exact hb2.1
    have hn := (whole_of hf hb2.1).1
    refine Met.of (e := ⟨g.place, (e0 (wentP x es)).n, []⟩) ?_ ?_ (fits_count hgo gk hn)
    · unfold comeP
      rw [kinds 6 ha 1 (by decide), kinds 6 ha 4 (by decide), kinds 6 ha 5 (by decide), ha, show iEq ((0 : Nat) : Int) 0 = true from iEq_self 0, value_count gk]
      rfl
    · unfold comeR
      rw [k2, ha, show iEq ((0 : Nat) : Int) 1 = false from iEq_f.2 (by decide), e0_is hx k2]
      rfl
  · refine Met.of (e := valueF g) ?_ ?_ (value_fits hgo)
    · unfold comeP
      rw [kinds 6 ha 1 (by decide), kinds 6 ha 4 (by decide), kinds 6 ha 5 (by decide), ha, show iEq ((1 : Nat) : Int) 0 = false from iEq_f.2 (by decide)]
      rfl
    · unfold comeR
      rw [k2, ha, show iEq ((1 : Nat) : Int) 1 = true from iEq_self 1]
      rfl
theorem met_gathered (h0 : (applyF l x).2 = 0) (he : entriesOk (scopeOf l s) es = true) (hs : lensScope x = s) (hg : g ∈ (applyF l x).1) (hk : idxRef (comesOf x) g.place = some k) (ha : iEq x.kind 9 = true) : Met x es g k := by
  have hx := (apply_ok h0).1
  have k2 := kinds 9 ha 2 (by decide)
  have k3 := kinds 9 ha 3 (by decide)
  have k6 := kinds 9 ha 6 (by decide)
  have hgo := field_ok (apply_right h0) hg
  obtain ⟨rfl, hc⟩ := comes_k1 hx k3 k6 hk
  obtain ⟨was, hw, hb2, hgg⟩ := first_is h0 hc hg rfl
  obtain ⟨c7, c8, c9⟩ := come_ok h0 he hs
  obtain ⟨v1, v2, f1, f2⟩ := c9 ha
  unfold turnedOf at hb2 hgg
  rw [k2, k3, k6, ha] at hb2 hgg
  have hb2 : (iEq (was.getD 0 noField).kind 1 && (iEq (w1 was).kind 1 && iEq (w1 was).worth (wrapO .i64 ((was.getD 0 noField).worth * x.factor)))) = true := hb2
  rw [Bool.and_eq_true] at hb2
  have hgk : g.kind = (was.getD 0 noField).kind := by rw [hgg]; rfl
  have gk : iEq g.kind 1 = true := by rw [hgk]; exact hb2.1
  have hP : comeP x g ((0 : Nat) : Int) (wentP x es) = (if iEq (joinF (e0 (wentP x es)).n (e1 (wentP x es)).n x.factor).2 0 then ({ valueF g with n := (joinF (e0 (wentP x es)).n (e1 (wentP x es)).n x.factor).1 }, 0) else (valueF g, (joinF (e0 (wentP x es)).n (e1 (wentP x es)).n x.factor).2)) := by
    unfold comeP
    rw [kinds 9 ha 1 (by decide), kinds 9 ha 4 (by decide), kinds 9 ha 5 (by decide), k6, ha]
    rfl
  have hR : comeR x g ((0 : Nat) : Int) es = (if farI (e1 (wentP x es)).n || (farI ((e1 (wentP x es)).n * x.factor) || farI ((e0 (wentP x es)).n + (e1 (wentP x es)).n * x.factor)) then (noEntry, false) else (⟨g.place, (e0 (wentP x es)).n + (e1 (wentP x es)).n * x.factor, []⟩, true)) := by
    unfold comeR
    rw [k2, k6, ha, e0_is hx k2, e1_is hx ha]
    rfl
  have w2f : farI (e1 (wentP x es)).n = false := by
    rw [Bool.eq_false_iff]; intro h
    have := (farI_iff _).1 h
    unfold whole at v2; omega
  rw [w2f, Bool.false_or] at hR
  generalize (e0 (wentP x es)).n = a at *
  generalize (e1 (wentP x es)).n = b at *
  unfold joinF at hP
  cases q1 : farI (b * x.factor) with
  | true =>
    rw [q1] at hP hR
    exact Met.no (e := valueF g) (c := 3) (by rw [hP]; exact if_neg (by rw [show iEq (if true = true then ((0 : Int), (3 : Int)) else if farI (a + b * x.factor) = true then (0, 3) else (a + b * x.factor, 0)).2 0 = false from iEq_f.2 (show ¬ (3 : Int) = 0 by decide)]; decide)) (by decide) hR
  | false =>
    rw [q1] at hP hR
    cases q2 : farI (a + b * x.factor) with
    | true =>
      rw [q2] at hP hR
      exact Met.no (e := valueF g) (c := 3) (by rw [hP]; exact if_neg (by rw [show iEq (if false = true then ((0 : Int), (3 : Int)) else if true = true then (0, 3) else (a + b * x.factor, 0)).2 0 = false from iEq_f.2 (show ¬ (3 : Int) = 0 by decide)]; decide)) (by decide) hR
    | false =>
      rw [q2] at hP hR
      refine Met.of (e := ⟨g.place, a + b * x.factor, []⟩) ?_ hR (fits_count hgo gk (not_whole (farI_not q2).1 (farI_not q2).2))
      rw [hP, value_count gk]
      exact if_pos (iEq_self 0)
theorem met_opened (h0 : (applyF l x).2 = 0) (he : entriesOk (scopeOf l s) es = true) (hs : lensScope x = s) (hg : g ∈ (applyF l x).1) (hk : idxRef (comesOf x) g.place = some k) (ha : iEq x.kind 7 = true) : Met x es g k := by
  have hx := (apply_ok h0).1
  have k2 := kinds 7 ha 2 (by decide)
  have k3 := kinds 7 ha 3 (by decide)
  have k6 := kinds 7 ha 6 (by decide)
  have k9 := kinds 7 ha 9 (by decide)
  have hgo := field_ok (apply_right h0) hg
  obtain ⟨rfl, hc⟩ := comes_k1 hx k3 k6 hk
  obtain ⟨was, hw, hb2, hgg⟩ := first_is h0 hc hg rfl
  obtain ⟨hf, _, _⟩ := was_of h0 he hs hw k2
  unfold turnedOf at hb2 hgg
  rw [k2, k3, k6, k9, ha] at hb2 hgg
  have hb2 : (iEq (was.getD 0 noField).kind 2 && sEq (was.getD 0 noField).dflt x.other) = true := hb2
  rw [Bool.and_eq_true] at hb2
  have hgk : g.kind = 4 := by rw [hgg]; rfl
  have gk : iEq g.kind 4 = true := by rw [hgk]; exact iEq_self 4
  obtain ⟨_, ht, hft⟩ := text_of hf (kinds 2 hb2.1 1 (by decide)) (kinds 2 hb2.1 4 (by decide))
  have hto := text_any hft (.inl hb2.1)
  cases q : sEq (txt0 (e0 (wentP x es))) x.other with
  | true =>
    refine Met.of (e := ⟨g.place, 0, []⟩) ?_ ?_ (fits_none hgo gk)
    · unfold comeP
      rw [kinds 7 ha 1 (by decide), kinds 7 ha 4 (by decide), kinds 7 ha 5 (by decide), k6, k9, ha, q, value_list gk]; rfl
    · unfold comeR
      rw [k2, k6, k9, ha, ← e0_is hx k2, q]; rfl
  | false =>
    refine Met.of (e := ⟨g.place, 0, [txt0 (e0 (wentP x es))]⟩) ?_ ?_ (fits_one (kinds 4 gk 1 (by decide)) (text_fits hgo (.inr gk) hto))
    · unfold comeP
      rw [kinds 7 ha 1 (by decide), kinds 7 ha 4 (by decide), kinds 7 ha 5 (by decide), k6, k9, ha, q, value_list gk]; rfl
    · unfold comeR
      rw [k2, k6, k9, ha, ← e0_is hx k2, q]; rfl
theorem met_closed (h0 : (applyF l x).2 = 0) (he : entriesOk (scopeOf l s) es = true) (hs : lensScope x = s) (hg : g ∈ (applyF l x).1) (hk : idxRef (comesOf x) g.place = some k) (ha : iEq x.kind 10 = true) : Met x es g k := by
  have hx := (apply_ok h0).1
  have k2 := kinds 10 ha 2 (by decide)
  have k3 := kinds 10 ha 3 (by decide)
  have k6 := kinds 10 ha 6 (by decide)
  have k9 := kinds 10 ha 9 (by decide)
  have k7 := kinds 10 ha 7 (by decide)
  have hgo := field_ok (apply_right h0) hg
  obtain ⟨rfl, hc⟩ := comes_k1 hx k3 k6 hk
  obtain ⟨was, hw, hb2, hgg⟩ := first_is h0 hc hg rfl
  obtain ⟨hf, _, _⟩ := was_of h0 he hs hw k2
  unfold turnedOf at hb2 hgg
  rw [k2, k3, k6, k9, k7, ha] at hb2 hgg
  have hb2 : iEq (was.getD 0 noField).kind 4 = true := hb2
  have hgk : g.kind = 2 := by rw [hgg]; rfl
  have hgd : g.dflt = x.other := by rw [hgg]; rfl
  have gk : iEq g.kind 2 = true := by rw [hgk]; exact iEq_self 2
  have g1' := kinds 2 gk 1 (by decide)
  have g4' := kinds 2 gk 4 (by decide)
  obtain ⟨_, _, hall⟩ := list_of hf hb2
  cases q : iLt 0 ((e0 (wentP x es)).texts.length : Int) with
  | true =>
    have hpos : 0 < (e0 (wentP x es)).texts.length := by have := iLt_t.1 q; omega
    have hto := text_any (hall ((e0 (wentP x es)).texts.length - 1) (by omega)) (.inr hb2)
    refine Met.of (e := ⟨g.place, 0, [lastTxt (e0 (wentP x es))]⟩) ?_ ?_ (fits_one g1' (text_fits hgo (.inl gk) hto))
    · unfold comeP
      rw [kinds 10 ha 1 (by decide), kinds 10 ha 4 (by decide), kinds 10 ha 5 (by decide), k6, k9, k7, ha, q, value_text g1' g4']; rfl
    · unfold comeR
      rw [k2, k6, k9, k7, ha, ← e0_is hx k2, q]; rfl
  | false =>
    refine Met.of (e := ⟨g.place, 0, [x.other]⟩) ?_ ?_ (by rw [← hgd, ← value_text g1' g4']; exact value_fits hgo)
    · unfold comeP
      rw [kinds 10 ha 1 (by decide), kinds 10 ha 4 (by decide), kinds 10 ha 5 (by decide), k6, k9, k7, ha, q, value_text g1' g4', hgd]; rfl
    · unfold comeR
      rw [k2, k6, k9, k7, ha, ← e0_is hx k2, q]; rfl
theorem met_cased (h0 : (applyF l x).2 = 0) (he : entriesOk (scopeOf l s) es = true) (hs : lensScope x = s) (hg : g ∈ (applyF l x).1) (hk : idxRef (comesOf x) g.place = some k) (ha : iEq x.kind 8 = true) : Met x es g k := by
  have hx := (apply_ok h0).1
  have k2 := kinds 8 ha 2 (by decide)
  have k3 := kinds 8 ha 3 (by decide)
  have k6 := kinds 8 ha 6 (by decide)
  have k9 := kinds 8 ha 9 (by decide)
  have k7 := kinds 8 ha 7 (by decide)
  have k10 := kinds 8 ha 10 (by decide)
  have hgo := field_ok (apply_right h0) hg
  obtain ⟨rfl, hc⟩ := comes_k1 hx k3 k6 hk
  obtain ⟨was, hw, hb2, hgg⟩ := first_is h0 hc hg rfl
  obtain ⟨hf, _, _⟩ := was_of h0 he hs hw k2
  unfold turnedOf at hb2 hgg
  rw [k2, k3, k6, k9, k7, k10, ha] at hb2 hgg
  have hb2 : (iEq (was.getD 0 noField).kind 3 && (sEq (was.getD 0 noField).dflt x.name && sameStrs (was.getD 0 noField).cases (fromsOf x.forth))) = true := hb2
  simp only [Bool.and_eq_true] at hb2
  have hgk : g.kind = 3 := by rw [hgg]; rfl
  have hgc : g.cases = fromsOf x.back := by rw [hgg]; rfl
  have gk : iEq g.kind 3 = true := by rw [hgk]; exact iEq_self 3
  have g1' := kinds 3 gk 1 (by decide)
  have g4' := kinds 3 gk 4 (by decide)
  obtain ⟨_, _, hft⟩ := text_of hf (kinds 3 hb2.1 1 (by decide)) (kinds 3 hb2.1 4 (by decide))
  have hin : hasB (fromsOf x.forth) (txt0 (e0 (wentP x es))) = true := by
    unfold fitsText at hft
    rw [kinds 3 hb2.1 2 (by decide), kinds 3 hb2.1 4 (by decide), hb2.1, strs_eq hb2.2.2, Bool.and_eq_true] at hft
    exact hft.2
  have hout := case_fits hx ha hin
  refine Met.of (e := ⟨g.place, 0, [(caseOf x.forth (txt0 (e0 (wentP x es)))).1]⟩) ?_ ?_ (fits_one g1' ?_)
  · unfold comeP
    rw [kinds 8 ha 1 (by decide), kinds 8 ha 4 (by decide), kinds 8 ha 5 (by decide), k6, k9, k7, k10, ha, value_text g1' g4']; rfl
  · unfold comeR
    rw [k2, k6, k9, k7, k10, ha, ← e0_is hx k2]; rfl
  · unfold fitsText
    rw [hgo, kinds 3 gk 2 (by decide), g4', gk, hgc]
    exact hout
theorem met (h0 : (applyF l x).2 = 0) (he : entriesOk (scopeOf l s) es = true) (hg : g ∈ (applyF l x).1) (hgs : g.place.scope = s) (hk : idxRef (comesOf x) g.place = some k) : Met x es g k := by
  have hx := (apply_ok h0).1
  have hs : lensScope x = s := by
    obtain ⟨h1, h2⟩ := idx_at hk
    have hm : g.place ∈ comesOf x := by rw [← h2, List.getD_eq_getElem?_getD, List.getElem?_eq_getElem h1]; exact List.getElem_mem h1
    rw [← scope_comes hm]; exact hgs
  rcases kind_range hx with q | q | q | q | q | q | q | q | q | q
  · exact met_moved h0 he hs hg hk 1 (iEq_t.2 q) (.inl rfl)
  · exact met_added h0 hg (iEq_t.2 q)
  · exfalso
    rw [comes_nil (iEq_t.2 q)] at hk
    cases hk
  · exact met_moved h0 he hs hg hk 4 (iEq_t.2 q) (.inr (.inl rfl))
  · exact met_moved h0 he hs hg hk 5 (iEq_t.2 q) (.inr (.inr rfl))
  · exact met_spread h0 he hs hg hk (iEq_t.2 q)
  · exact met_opened h0 he hs hg hk (iEq_t.2 q)
  · exact met_cased h0 he hs hg hk (iEq_t.2 q)
  · exact met_gathered h0 he hs hg hk (iEq_t.2 q)
  · exact met_closed h0 he hs hg hk (iEq_t.2 q)
end
end Go.Proofs.YtalpbdabeffnlaaGreat

/- A document over a lens: the reference's, and right. -/
set_option linter.unusedVariables false
set_option linter.unusedSimpArgs false
namespace Go.Proofs.YtalpbdabeffnlaaGreat
open Go Go.Av Go.Fl
set_option maxRecDepth 100000

section
variable {l : List SField} {x : SLens} {s : Int} {es : List SEntry} {g : SField}
theorem old_mem (h0 : (applyF l x).2 = 0) (hc : g.place ∉ comesOf x) : g ∈ (applyF l x).1 ↔ g ∈ l ∧ g.place ∉ goesOf x := by
  obtain ⟨hx, hl⟩ := apply_ok h0
  obtain ⟨rest, was, ht, hb, e, hp, hr⟩ := apply_parts h0
  obtain ⟨_, b, c⟩ := take_keeps _ _ _ _ ht hl (goes_nodup hx) (fun f hf _ => hf)
  obtain ⟨_, _, c2, _⟩ := put_keeps _ (turnedOf x was).1 _ hp b
  rw [e, c2 g hc]
  exact c g
theorem step_law (h0 : (applyF l x).2 = 0) (he : entriesOk (scopeOf l s) es = true) (hg : g ∈ (applyF l x).1) (hgs : g.place.scope = s) :
    ((stepP x (wentP x es) es g).2 = 0 → fitsEntry g (stepP x (wentP x es) es g).1 = true) ∧ (stepR x es g).2 = iEq (stepP x (wentP x es) es g).2 0 ∧ ((stepP x (wentP x es) es g).2 = 0 → (stepR x es g).1 = (stepP x (wentP x es) es g).1) := by
  obtain ⟨hx, hl⟩ := apply_ok h0
  unfold stepP stepR
  rw [comes2_eq hx]
  cases q : idxRef (comesOf x) g.place with
  | none =>
    have hgl := ((old_mem h0 (idx_mem.1 q)).1 hg).1
    obtain ⟨e, h1, h2⟩ := entry_at hl he hgl hgs
    refine ⟨fun _ => ?_, (iEq_self 0).symm, fun _ => rfl⟩
    show fitsEntry g (atF es g.place).1 = true
    rw [h1]; exact h2
  | some k => exact met h0 he hg hgs q
theorem all_law (h0 : (applyF l x).2 = 0) (he : entriesOk (scopeOf l s) es = true) : ∀ (fs : List SField) (acc : List SEntry), (∀ g ∈ fs, g ∈ (applyF l x).1 ∧ g.place.scope = s) →
    (allR x es fs acc).2 = iEq (allP x (wentP x es) es fs acc).2 0 ∧ ((allP x (wentP x es) es fs acc).2 = 0 → (allR x es fs acc).1 = (allP x (wentP x es) es fs acc).1 ∧ (allP x (wentP x es) es fs acc).1 = acc ++ fs.map (fun g => (stepP x (wentP x es) es g).1) ∧ ∀ g ∈ fs, (stepP x (wentP x es) es g).2 = 0)
  | [], acc, _ => ⟨(iEq_self 0).symm, fun _ => ⟨rfl, by simp [allP], fun g hg => by cases hg⟩⟩
  | f :: fs, acc, hall => by
    obtain ⟨hm, hs⟩ := hall f List.mem_cons_self
    obtain ⟨_, b, c⟩ := step_law h0 he hm hs
    unfold allR allP
    rw [b]
    cases q : iEq (stepP x (wentP x es) es f).2 0 with
    | false =>
      refine ⟨(iEq_f.2 ?_).symm, fun h => absurd h ?_⟩ <;> exact iEq_f.1 q
    | true =>
      have q0 := iEq_t.1 q
      rw [c q0]
      obtain ⟨i1, i2⟩ := all_law h0 he fs (acc ++ [(stepP x (wentP x es) es f).1]) (fun g hg => hall g (List.mem_cons_of_mem _ hg))
      refine ⟨i1, fun h => ?_⟩
      obtain ⟨j1, j2, j3⟩ := i2 h
      refine ⟨j1, ?_, fun g hg => ?_⟩
      · show (allP x (wentP x es) es fs (acc ++ [(stepP x (wentP x es) es f).1])).1 = _
        rw [j2, List.map_cons, List.append_assoc]; rfl
      · rcases List.mem_cons.1 hg with rfl | hg
        · exact q0
        · exact j3 g hg
theorem all_in (m : List SField) (s : Int) : ∀ g ∈ scopeOf m s, g ∈ m ∧ g.place.scope = s := fun g hg => scope_mem.1 hg
theorem ents_law (h0 : (applyF l x).2 = 0) (he : entriesOk (scopeOf l s) es = true) :
    (entriesR x (scopeOf (applyF l x).1 s) es).2 = iEq (entriesP x (scopeOf (applyF l x).1 s) es).2 0 ∧
    ((entriesP x (scopeOf (applyF l x).1 s) es).2 = 0 → (entriesR x (scopeOf (applyF l x).1 s) es).1 = (entriesP x (scopeOf (applyF l x).1 s) es).1 ∧
      (entriesP x (scopeOf (applyF l x).1 s) es).1 = (scopeOf (applyF l x).1 s).map (fun g => (stepP x (wentP x es) es g).1) ∧ entriesOk (scopeOf (applyF l x).1 s) (entriesP x (scopeOf (applyF l x).1 s) es).1 = true) := by
  obtain ⟨a, b⟩ := all_law h0 he (scopeOf (applyF l x).1 s) [] (all_in _ _)
  refine ⟨a, fun h => ?_⟩
  obtain ⟨c, d, e⟩ := b h
  rw [List.nil_append] at d
  refine ⟨c, d, ?_⟩
  have d : (entriesP x (scopeOf (applyF l x).1 s) es).1 = (scopeOf (applyF l x).1 s).map (fun g => (stepP x (wentP x es) es g).1) := d
  rw [d]
  unfold entriesOk
  rw [Bool.and_eq_true, decide_eq_true_eq, allUpto_iff]
  refine ⟨by rw [List.length_map], fun i _ hi => ?_⟩
  have hi : i < (scopeOf (applyF l x).1 s).length := by omega
  have e1 : ((scopeOf (applyF l x).1 s).map (fun g => (stepP x (wentP x es) es g).1)).getD i noEntry = (stepP x (wentP x es) es ((scopeOf (applyF l x).1 s).getD i noField)).1 := by
    rw [List.getD_eq_getElem?_getD, List.getElem?_map, List.getD_eq_getElem?_getD, List.getElem?_eq_getElem hi]; rfl
  rw [e1]
  have hm := at_mem hi
  obtain ⟨h1, h2⟩ := all_in _ _ _ hm
  exact (step_law h0 he h1 h2).1 (e _ hm)
end
theorem over_ref {l : List SField} {x : SLens} {d : SDoc} : overR l x d = overP l x d := by
  unfold overR overP
  cases b0 : iEq (applyF l x).2 0 with
  | false => rfl
  | true =>
    have h0 := iEq_t.1 b0
    cases b1 : docRight l d with
    | false => rfl
    | true =>
      obtain ⟨a, b⟩ := ents_law h0 (doc_head b1).2
      have rows : allUpto (rowsOkR x (scopeOf (applyF l x).1 1) d) d.rows.length 0 = allUpto (rowsOk x (scopeOf (applyF l x).1 1) d) d.rows.length 0 :=
        allUpto_congr _ _ fun j _ hj => by
          unfold rowsOkR rowsOk
          exact (ents_law h0 (doc_row b1 (by omega))).1
      rw [a, rows]
      cases b2 : iEq (entriesP x (scopeOf (applyF l x).1 0) d.head).2 0 with
      | false => rfl
      | true =>
        rw [(b (iEq_t.1 b2)).1]
        cases b3 : allUpto (rowsOk x (scopeOf (applyF l x).1 1) d) d.rows.length 0 with
        | false => rfl
        | true =>
          have : d.rows.map (overRowR x (scopeOf (applyF l x).1 1)) = d.rows.map (overRow x (scopeOf (applyF l x).1 1)) := by
            refine List.map_congr_left fun r hr => ?_
            obtain ⟨i, hi, rfl⟩ := List.getElem_of_mem hr
            have e : d.rows[i] = d.rows.getD i noRow := by rw [List.getD_eq_getElem?_getD, List.getElem?_eq_getElem hi]; rfl
            rw [e]
            unfold overRowR overRow
            have hok := ((allUpto_iff _ _ _).1 b3) i (Nat.zero_le _) (by omega)
            rw [((ents_law h0 (doc_row b1 hi)).2 (iEq_t.1 hok)).1]
          rw [this]
theorem over_parts {l : List SField} {x : SLens} {d : SDoc} (h : (overP l x d).2 = 0) : (applyF l x).2 = 0 ∧ docRight l d = true ∧ (entriesP x (scopeOf (applyF l x).1 0) d.head).2 = 0 ∧
    (∀ i, i < d.rows.length → (entriesP x (scopeOf (applyF l x).1 1) (d.rows.getD i noRow).l).2 = 0) ∧
    (overP l x d).1 = ⟨(entriesP x (scopeOf (applyF l x).1 0) d.head).1, d.rows.map (overRow x (scopeOf (applyF l x).1 1))⟩ := by
  unfold overP at h ⊢
  cases b0 : iEq (applyF l x).2 0 with
  | false => rw [b0] at h; exact absurd h (iEq_f.1 b0)
  | true =>
    rw [b0] at h
    cases b1 : docRight l d with
    | false => rw [b1] at h; exact absurd h (show ¬ (5 : Int) = 0 by decide)
    | true =>
      rw [b1] at h
      cases b2 : iEq (entriesP x (scopeOf (applyF l x).1 0) d.head).2 0 with
      | false => rw [b2] at h; exact absurd h (show ¬ (3 : Int) = 0 by decide)
      | true =>
        rw [b2] at h
        cases b3 : allUpto (rowsOk x (scopeOf (applyF l x).1 1) d) d.rows.length 0 with
        | false => rw [b3] at h; exact absurd h (show ¬ (3 : Int) = 0 by decide)
        | true => exact ⟨iEq_t.1 b0, rfl, iEq_t.1 b2, fun i hi => iEq_t.1 (((allUpto_iff _ _ _).1 b3) i (Nat.zero_le _) (by omega)), rfl⟩
theorem over_bad {l : List SField} {x : SLens} {d : SDoc} (h : (overP l x d).2 ≠ 0) : (overP l x d).1 = noDoc := by
  unfold overP at h ⊢
  cases b0 : iEq (applyF l x).2 0 with
  | false => rfl
  | true =>
    cases b1 : docRight l d with
    | false => rfl
    | true =>
      cases b2 : iEq (entriesP x (scopeOf (applyF l x).1 0) d.head).2 0 with
      | false => rfl
      | true =>
        cases b3 : allUpto (rowsOk x (scopeOf (applyF l x).1 1) d) d.rows.length 0 with
        | false => rfl
        | true => rw [b0, b1, b2, b3] at h; exact absurd rfl h
theorem row_at {x : SLens} {line : List SField} {rows : List SRow} {i : Nat} (h : i < rows.length) : (rows.map (overRow x line)).getD i noRow = overRow x line (rows.getD i noRow) := by
  rw [List.getD_eq_getElem?_getD, List.getElem?_map, List.getD_eq_getElem?_getD, List.getElem?_eq_getElem h]; rfl
theorem over_right {l : List SField} {x : SLens} {d : SDoc} (h : (overP l x d).2 = 0) : docRight (applyF l x).1 (overP l x d).1 = true := by
  obtain ⟨h0, b1, b2, b3, e⟩ := over_parts h
  rw [e]
  unfold docRight
  rw [apply_right h0]
  have hh := ((ents_law h0 (doc_head b1).2).2 b2).2.2
  have hd := b1
  unfold docRight at hd
  simp only [Bool.and_eq_true, allUpto_iff, Bool.not_eq_true'] at hd ⊢
  obtain ⟨_, q1, _, q3⟩ := hd
  refine ⟨trivial, by rw [List.length_map]; exact q1, hh, fun i _ hi => ?_⟩
  have hi : i < d.rows.length := by rw [List.length_map] at hi; omega
  have q := q3 i (Nat.zero_le _) (by omega)
  unfold docStep at q ⊢
  simp only [Bool.and_eq_true] at q ⊢
  refine ⟨by rw [row_at hi]; exact q.1, ?_, ?_⟩
  · have q2 := q.2.1
    unfold itemsStep at q2 ⊢
    cases hp : decide (0 < i) with
    | false => rfl
    | true =>
      have hp := of_decide_eq_true hp
      rw [decide_eq_true hp] at q2
      show (!true || sLt ((d.rows.map (overRow x (scopeOf (applyF l x).1 1))).getD (i - 1) noRow).item ((d.rows.map (overRow x (scopeOf (applyF l x).1 1))).getD i noRow).item) = true
      rw [row_at hi, row_at (show i - 1 < d.rows.length by omega)]
      exact q2
  · rw [row_at hi]
    exact ((ents_law h0 (doc_row b1 hi)).2 (b3 i hi)).2.2
end Go.Proofs.YtalpbdabeffnlaaGreat

/- doc.Find: an entry of a document. -/
set_option linter.unusedVariables false
set_option linter.unusedSimpArgs false
namespace Go.Proofs.YtalpbdabeffnlaaGreat
open Go Go.Av
set_option maxRecDepth 100000
set_option maxHeartbeats 4000000

def ptStr (s : ByteArray) : PV := .rp 1 (at_ .any [.val (.string s)])
theorem f368 (r : SRow) (s : ByteArray) : PCall Tryz.prog 158 [encDocRow r, ptStr s] (.p (.val (.bool (sEq r.item s)))) [] := by
  refine gcode hT hM Tryz.func158 rfl rfl (rv := [(3, none)]) rfl rfl rfl fun G hG => ?_
  conv => whnf
  exact ⟨[], _, _, _, rfl, rfl, rfl, RepLe.refl _, trivial⟩
def rowIn (l : List SRow) (s : ByteArray) : Option Nat := findUpto (fun i => sEq (l.getD i noRow).item s) l.length 0
theorem f367 (l : List SRow) (s : ByteArray) (hl : l.length ≤ 3518437208780) : PCall Tryz.prog 157 [encRows l, .fn 158 1 (at_ .any [ptStr s])] (.p (.val (.int .i64 (posOf (rowIn l s))))) [] := by
  refine gcode hT hM Tryz.func157 rfl rfl (rv := [(4, none)]) rfl rfl rfl fun G hG => ?_
  conv => whnf
  refine AW.loop (X := Nat) (fun i => told 19 [(0, .p (encRows l)), (1, .p (.fn 158 1 (at_ .any [ptStr s]))), (7, vI .i64 (l.length : Int)), (8, vI .i64 (i : Int))] [] []) (fun i => i ≤ l.length ∧ rowIn l s = findUpto (fun i => sEq (l.getD i noRow).item s) (l.length - i) i) (fun i => l.length - i) (used0 hG _) 0 ⟨by omega, rfl⟩ (stle ⟨RepLe.refl _, RepLe.refl _, RepLe.refl _, RepLe.refl _, trivial⟩ trivial rfl) ?_
  rintro i ⟨hi, hr⟩
  refine codeK_aw hT hM _ _ _ ?_
  conv => whnf
  refine ⟨fun h4 => ?_, fun h4 => ?_⟩
  · have hlt : i < l.length := by rw [iLt_t] at h4; omega
    rw [findUpto_step _ hlt] at hr
    conv => whnf
    refine ⟨by omega, ?_⟩
    conv => whnf
    refine CallK.lent (f368 (l.getD i noRow) s) rfl ?_
    conv => whnf
    refine ⟨fun h5 => ?_, fun h5 => ?_⟩
    · rw [h5] at hr
      conv => whnf
      exact ⟨[], _, _, _, rfl, rfl, rfl, RepLe.vi (by rw [hr]; rfl), trivial⟩
    rw [h5] at hr
    conv => whnf
    intro z hz
    have hy := wrap64_eq hz (by omega) (by omega)
    clear hz
    subst hy
    conv => whnf
    exact ⟨i + 1, ⟨by omega, hr⟩, by omega, stle ⟨RepLe.refl _, RepLe.refl _, RepLe.refl _, RepLe.of rfl, trivial⟩ trivial rfl⟩
  have hge : i = l.length := by rw [iLt_f] at h4; omega
  subst hge
  rw [Nat.sub_self] at hr
  conv => whnf
  exact ⟨[], _, _, _, rfl, rfl, rfl, RepLe.vi (by rw [hr]; rfl), trivial⟩
theorem f370 (e : SEntry) (r : SRef) : PCall Tryz.prog 160 [encEntry e, ptRef r] (.p (.val (.bool (sameRef e.place r)))) [] := by
  refine gcode hT hM Tryz.func160 rfl rfl (rv := [(3, none)]) rfl rfl rfl fun G hG => ?_
  conv => whnf
  exact ⟨[], _, _, _, rfl, rfl, rfl, RepLe.vb (by simp [sameRef]), trivial⟩
def spotIn (l : List SEntry) (r : SRef) : List SEntry × Nat × Int := match entryIn l r with | none => ([], 0, 6) | some k => (l, k, 0)
def spotF (d : SDoc) (item : ByteArray) (r : SRef) : List SEntry × Nat × Int :=
  if sEq item noS then spotIn d.head r else match rowIn d.rows item with | none => ([], 0, 12) | some i => spotIn (d.rows.getD i noRow).l r
def encSpot (p : List SEntry × Nat × Int) : AV := .tup 3 (at_ (.p .any) [.p (encEntries p.1), .p (.val (.int .i64 (p.2.1 : Int))), .p (.val (.int .i64 p.2.2))])
theorem spot_ret {a : PV} {i c : Int} {p : List SEntry × Nat × Int} {l : List SEntry} {k : Nat} (h : p = (l, k, c)) (ha : PLe a (encEntries l)) (hi : i = (k : Int)) : RepLe (.tup 3 (at_ (.p .any) [.p a, .p (.val (.int .i64 i)), .p (.val (.int .i64 c))])) (encSpot p) := by
  subst h hi
  exact RepLe.tup (l := [.p a, .p (.val (.int .i64 (k : Int))), .p (.val (.int .i64 c))]) (m := [.p (encEntries l), .p (.val (.int .i64 (k : Int))), .p (.val (.int .i64 c))]) ⟨PLe.rep ha, RepLe.refl _, RepLe.refl _, trivial⟩
theorem f351 (d : SDoc) (item : ByteArray) (r : SRef) (hd : fitDoc d) : PCall Tryz.prog 123 [encDoc d, .val (.string item), encRef r] (encSpot (spotF d item r)) [] := by
  refine gcode hT hM Tryz.func123 rfl rfl (rv := [(6, none), (7, none), (8, none)]) rfl rfl rfl fun G hG => ?_
  conv => whnf
  refine ⟨fun t1 => ?_, fun t1 => ?_⟩
  · have t1 : sEq item noS = false := nott t1
    conv => whnf
    cases p : rowIn d.rows item with
    | none =>
      have c367 := f367 d.rows item hd.2.1
      rw [p] at c367
      refine CallK.lent (c367) rfl ?_
      conv => whnf
      refine ⟨fun h0 => ?_, fun h0 => ?_⟩
      · conv => whnf
        exact ⟨[], _, _, _, rfl, rfl, rfl, spot_ret (l := []) (k := 0) (by unfold spotF; rw [t1, p]; rfl) PLe.nil rfl, trivial⟩
      · exact absurd (iLt_f.1 h0) (show ¬ (0 : Int) ≤ -1 by decide)
    | some i =>
      have hi : i < d.rows.length := by obtain ⟨_, hi, _, _⟩ := findUpto_some _ _ _ _ p; omega
      have c367 := f367 d.rows item hd.2.1
      rw [p] at c367
      have he : spotF d item r = spotIn (d.rows.getD i noRow).l r := by unfold spotF; rw [t1, p]; rfl
      refine CallK.lent (c367) rfl ?_
      conv => whnf
      refine ⟨fun h0 => ?_, fun h0 => ?_⟩
      · exact absurd (iLt_t.1 h0) (show ¬ ((i : Nat) : Int) < 0 by omega)
      conv => whnf
      refine ⟨⟨Int.natCast_nonneg _, Int.ofNat_lt.2 hi⟩, ?_⟩
      conv => whnf
      cases q : entryIn (d.rows.getD i noRow).l r with
      | none =>
        have c369 := f369 (d.rows.getD i noRow).l r (hd.row i) 160 (fun e => f370 e r)
        rw [q] at c369
        refine CallK.lent (c369) rfl ?_
        conv => whnf
        refine ⟨fun h1 => ?_, fun h1 => ?_⟩
        · conv => whnf
          exact ⟨[], _, _, _, rfl, rfl, rfl, spot_ret (l := []) (k := 0) (by rw [he]; unfold spotIn; rw [q]) PLe.nil rfl, trivial⟩
        · exact absurd (iLt_f.1 h1) (show ¬ (0 : Int) ≤ -1 by decide)
      | some k =>
        have c369 := f369 (d.rows.getD i noRow).l r (hd.row i) 160 (fun e => f370 e r)
        rw [q] at c369
        refine CallK.lent (c369) rfl ?_
        conv => whnf
        refine ⟨fun h1 => ?_, fun h1 => ?_⟩
        · exact absurd (iLt_t.1 h1) (show ¬ ((k : Nat) : Int) < 0 by omega)
        conv => whnf
        exact ⟨[], _, _, _, rfl, rfl, rfl, spot_ret (l := (d.rows.getD i noRow).l) (k := k) (by rw [he]; unfold spotIn; rw [q]) (PLe.refl _) rfl, trivial⟩
  have t1 : sEq item noS = true := notf t1
  have he : spotF d item r = spotIn d.head r := by unfold spotF; rw [t1]; rfl
  conv => whnf
  cases q : entryIn d.head r with
  | none =>
    have c369 := f369 d.head r hd.1 160 (fun e => f370 e r)
    rw [q] at c369
    refine CallK.lent (c369) rfl ?_
    conv => whnf
    refine ⟨fun h1 => ?_, fun h1 => ?_⟩
    · conv => whnf
      exact ⟨[], _, _, _, rfl, rfl, rfl, spot_ret (l := []) (k := 0) (by rw [he]; unfold spotIn; rw [q]) PLe.nil rfl, trivial⟩
    · exact absurd (iLt_f.1 h1) (show ¬ (0 : Int) ≤ -1 by decide)
  | some k =>
    have c369 := f369 d.head r hd.1 160 (fun e => f370 e r)
    rw [q] at c369
    refine CallK.lent (c369) rfl ?_
    conv => whnf
    refine ⟨fun h1 => ?_, fun h1 => ?_⟩
    · exact absurd (iLt_t.1 h1) (show ¬ ((k : Nat) : Int) < 0 by omega)
    conv => whnf
    exact ⟨[], _, _, _, rfl, rfl, rfl, spot_ret (l := d.head) (k := k) (by rw [he]; unfold spotIn; rw [q]) (PLe.refl _) rfl, trivial⟩
def findD (d : SDoc) (item : ByteArray) (r : SRef) : SEntry × Int :=
  if iEq (spotF d item r).2.2 0 then ((spotF d item r).1.getD (spotF d item r).2.1 noEntry, 0) else (noEntry, (spotF d item r).2.2)
def encFound (p : SEntry × Int) : AV := .tup 2 (at_ (.p .any) [.p (encEntry p.1), .p (.val (.int .i64 p.2))])
theorem found_ret {a b : PV} {p : SEntry × Int} {e : SEntry} {c : Int} (h : p = (e, c)) (ha : PLe a (encEntry e)) (hb : PLe b (.val (.int .i64 c))) : RepLe (.tup 2 (at_ (.p .any) [.p a, .p b])) (encFound p) := by
  subst h; exact RepLe.tup2 (PLe.rep ha) (PLe.rep hb)
theorem sub_one (l : List SEntry) {k n : Nat} (h : n = 1) : PLe (.rs 5 n fun a b => at_ .any (entryCells (l.getD (k + a) noEntry)) b) (encEntries [l.getD k noEntry]) := by
  refine PLe.rows h fun a b ha hb => ?_
  have : a = 0 := by omega
  subst this
  rfl
theorem spotIn_ok {l : List SEntry} {r : SRef} (h : iEq (spotIn l r).2.2 0 = true) : (spotIn l r).1 = l ∧ (spotIn l r).2.1 < l.length := by
  unfold spotIn at h ⊢
  cases q : entryIn l r with
  | none => rw [q] at h; exact absurd (iEq_t.1 h) (show ¬ (6 : Int) = 0 by decide)
  | some k =>
    obtain ⟨_, hi, _, _⟩ := findUpto_some _ _ _ _ q
    exact ⟨rfl, (show k < l.length by omega)⟩
theorem spot_fit {d : SDoc} (hd : fitDoc d) {item : ByteArray} {r : SRef} (h : iEq (spotF d item r).2.2 0 = true) : fitEntries (spotF d item r).1 ∧ (spotF d item r).2.1 < (spotF d item r).1.length := by
  unfold spotF at h ⊢
  cases t : sEq item noS with
  | true =>
    rw [t] at h
    obtain ⟨a, b⟩ := spotIn_ok (l := d.head) (r := r) h
    exact ⟨by show fitEntries (spotIn d.head r).1; rw [a]; exact hd.1, by show (spotIn d.head r).2.1 < (spotIn d.head r).1.length; rw [a]; exact b⟩
  | false =>
    rw [t] at h
    cases p : rowIn d.rows item with
    | none => rw [p] at h; exact absurd (iEq_t.1 h) (show ¬ (12 : Int) = 0 by decide)
    | some i =>
      rw [p] at h
      obtain ⟨a, b⟩ := spotIn_ok (l := (d.rows.getD i noRow).l) (r := r) h
      exact ⟨by show fitEntries (spotIn (d.rows.getD i noRow).l r).1; rw [a]; exact hd.row i, by show (spotIn (d.rows.getD i noRow).l r).2.1 < (spotIn (d.rows.getD i noRow).l r).1.length; rw [a]; exact b⟩
theorem f333 (d : SDoc) (item : ByteArray) (r : SRef) (hd : fitDoc d) : PCall Tryz.prog 64 [encDoc d, .val (.string item), encRef r] (encFound (findD d item r)) [] := by
  refine gcode hT hM Tryz.func64 rfl rfl (rv := [(6, some 101), (7, none)]) rfl rfl rfl fun G hG => ?_
  conv => whnf
  refine CallK.go [] (f351 d item r hd) rfl rfl rfl rfl rfl ?_
  conv => whnf
  refine ⟨fun c0 => ?_, fun c0 => ?_⟩
  · have c0 : iEq (spotF d item r).2.2 0 = false := nott c0
    conv => whnf
    exact ⟨[], _, _, _, rfl, rfl, rfl, found_ret (e := noEntry) (by unfold findD; rw [c0]; rfl) (PLe.agg (by repeat' (first | refine PLes.cons ?_ ?_ | exact PLe.refl _ | exact PLe.nil | exact PLes.end))) (PLe.refl _), trivial⟩
  have c0 : iEq (spotF d item r).2.2 0 = true := notf c0
  obtain ⟨hf, hk⟩ := spot_fit hd c0
  have hlen := hf.1
  have he : findD d item r = ((spotF d item r).1.getD (spotF d item r).2.1 noEntry, 0) := by unfold findD; rw [c0]; rfl
  rw [he]
  clear he
  generalize (spotF d item r).1 = l at *
  generalize (spotF d item r).2.1 = k at *
  conv => whnf
  intro z hz
  have hy := wrap64_eq hz (by omega) (by omega)
  clear hz
  subst hy
  conv => whnf
  refine ⟨⟨by omega, by omega, by omega⟩, ?_⟩
  conv => whnf
  refine CallK.go [] (GCall.arg1 (f335 [l.getD k noEntry] ⟨show 1 ≤ 1954687338211 by decide, fun e he => by rw [List.mem_singleton.1 he]; exact hf.at k⟩) ?hh) rfl rfl rfl rfl rfl ?_
  case hh => exact PLe.rep (sub_one l (by omega))
  conv => whnf
  refine ⟨⟨Int.le_refl _, show (0 : Int) < ((1 : Nat) : Int) by decide⟩, ?_⟩
  conv => whnf
  exact ⟨[], _, _, _, rfl, rfl, rfl, found_ret rfl (PLe.refl _) (PLe.refl _), trivial⟩
end Go.Proofs.YtalpbdabeffnlaaGreat
