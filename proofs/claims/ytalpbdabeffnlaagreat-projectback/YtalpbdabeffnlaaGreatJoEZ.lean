import Derived.Test.YtalpbdabeffnlaaGreatJoEU
/- The entry that comes: by kinds. -/
set_option linter.unusedVariables false
set_option linter.unusedSimpArgs false
namespace Go.Proofs.YtalpbdabeffnlaaGreat
open Go Go.Av Go.Fl
set_option maxRecDepth 100000

def Met (x : SLens) (es : List SEntry) (g : SField) (k : Nat) : Prop :=
  ((comeP x g k (wentP x es)).2 = 0 → fitsEntry g (comeP x g k (wentP x es)).1 = true) ∧ (comeR x g k es).2 = iEq (comeP x g k (wentP x es)).2 0 ∧ ((comeP x g k (wentP x es)).2 = 0 → (comeR x g k es).1 = (comeP x g k (wentP x es)).1)
theorem Met.of {x : SLens} {es : List SEntry} {g : SField} {k : Nat} {e : SEntry} (hp : comeP x g k (wentP x es) = (e, 0)) (hr : comeR x g k es = (e, true)) (hf : fitsEntry g e = true) : Met x es g k := by
  unfold Met
  rw [hp, hr]
  exact ⟨fun _ => hf, (iEq_self 0).symm, fun _ => rfl⟩
theorem Met.no {x : SLens} {es : List SEntry} {g : SField} {k : Nat} {e : SEntry} {c : Int} (hp : comeP x g k (wentP x es) = (e, c)) (hc : c ≠ 0) (hr : comeR x g k es = (noEntry, false)) : Met x es g k := by
  unfold Met
  rw [hp, hr]
  exact ⟨fun h => absurd h hc, (iEq_f.2 hc).symm, fun h => absurd h hc⟩
section
variable {l : List SField} {x : SLens} {s : Int} {es : List SEntry} {g : SField} {k : Nat}
theorem e0_is (hx : lensOk x = true) (h : iEq x.kind 2 = false) : e0 (wentP x es) = g0 x es := by
  unfold e0 g0
  rw [goes2_eq hx, wentP_at x es (by rw [← goes2_eq hx]; exact goes_pos h)]
theorem e1_is (hx : lensOk x = true) (h : iEq x.kind 9 = true) : e1 (wentP x es) = g1 x es := by
  unfold e1 g1
  rw [goes2_eq hx, wentP_at x es (by rw [← goes2_eq hx]; exact goes_two h)]
/-- The field that goes, and its entry. -/
theorem was_of (h0 : (applyF l x).2 = 0) (he : entriesOk (scopeOf l s) es = true) (hs : lensScope x = s) {was : List SField} (hw : was = (goesOf x).map (fun r => (fieldAt l (placeIn l r)).1)) (h2 : iEq x.kind 2 = false) :
    fitsEntry (was.getD 0 noField) (e0 (wentP x es)) = true ∧ was.getD 0 noField ∈ l ∧ (was.getD 0 noField).place = (goesOf x).getD 0 noRef := by
  have hx := (apply_ok h0).1
  have hg : 0 < (goesOf x).length := by rw [← goes2_eq hx]; exact goes_pos h2
  obtain ⟨f, a1, a2, a3, a4⟩ := went_at h0 he hs hg
  have : was.getD 0 noField = f := by
    rw [hw, List.getD_eq_getElem?_getD, List.getElem?_map]
    rw [← a3, List.getD_eq_getElem?_getD, List.getElem?_eq_getElem hg]; rfl
  rw [this]
  exact ⟨a4, a1, a2⟩
theorem met_moved (h0 : (applyF l x).2 = 0) (he : entriesOk (scopeOf l s) es = true) (hs : lensScope x = s) (hg : g ∈ (applyF l x).1) (hk : idxRef (comesOf x) g.place = some k) (a : Int) (ha : iEq x.kind a = true) (haa : a = 1 ∨ a = 4 ∨ a = 5) : Met x es g k := by
  have hx := (apply_ok h0).1
  have k2 : iEq x.kind 2 = false := by rcases haa with rfl | rfl | rfl <;> exact kinds _ ha 2 (by decide)
  have k3 : iEq x.kind 3 = false := by rcases haa with rfl | rfl | rfl <;> exact kinds _ ha 3 (by decide)
  have k6 : iEq x.kind 6 = false := by rcases haa with rfl | rfl | rfl <;> exact kinds _ ha 6 (by decide)
  have k9 : iEq x.kind 9 = false := by rcases haa with rfl | rfl | rfl <;> exact kinds _ ha 9 (by decide)
  have k7 : iEq x.kind 7 = false := by rcases haa with rfl | rfl | rfl <;> exact kinds _ ha 7 (by decide)
  have k10 : iEq x.kind 10 = false := by rcases haa with rfl | rfl | rfl <;> exact kinds _ ha 10 (by decide)
  have k8 : iEq x.kind 8 = false := by rcases haa with rfl | rfl | rfl <;> exact kinds _ ha 8 (by decide)
  have hb : (iEq x.kind 1 || (iEq x.kind 4 || iEq x.kind 5)) = true := by rcases haa with rfl | rfl | rfl <;> rw [ha] <;> simp
  obtain ⟨rfl, hc⟩ := comes_k1 hx k3 k6 hk
  obtain ⟨was, hw, hb2, hgg⟩ := first_is h0 hc hg rfl
  obtain ⟨hf, _, _⟩ := was_of h0 he hs hw k2
  rw [was_moved was a ha haa] at hgg
  have hgo := field_ok (apply_right h0) hg
  refine Met.of (e := { e0 (wentP x es) with place := g.place }) (by unfold comeP; rw [hb]; rfl) (by unfold comeR; rw [k2, k6, k9, k7, k10, k8, e0_is hx k2]; rfl) ?_
  generalize g.place = c at *
  subst hgg
  exact fits_moved hf hgo
theorem met_added (h0 : (applyF l x).2 = 0) (hg : g ∈ (applyF l x).1) (ha : iEq x.kind 2 = true) : Met x es g k := by
  have hgo := field_ok (apply_right h0) hg
  refine Met.of (e := valueF g) (by unfold comeP; rw [kinds 2 ha 1 (by decide), kinds 2 ha 4 (by decide), kinds 2 ha 5 (by decide), kinds 2 ha 6 (by decide), kinds 2 ha 9 (by decide), kinds 2 ha 7 (by decide), kinds 2 ha 10 (by decide), kinds 2 ha 8 (by decide)]; rfl) (by unfold comeR; rw [ha]; rfl) (value_fits hgo)
theorem met_spread (h0 : (applyF l x).2 = 0) (he : entriesOk (scopeOf l s) es = true) (hs : lensScope x = s) (hg : g ∈ (applyF l x).1) (hk : idxRef (comesOf x) g.place = some k) (ha : iEq x.kind 6 = true) : Met x es g k := by
  have hx := (apply_ok h0).1
  have k2 := kinds 6 ha 2 (by decide)
  have hgo := field_ok (apply_right h0) hg
  have hc : comesOf x = twoOf x := by unfold comesOf; rw [hx, kinds 6 ha 3 (by decide), k2, kinds 6 ha 1 (by decide), kinds 6 ha 4 (by decide), kinds 6 ha 5 (by decide), ha]; rfl
  obtain ⟨q1, q2⟩ := idx_at hk
  have hk2 : k = 0 ∨ k = 1 := by rw [hc] at q1; have q1 : k < 2 := q1; omega
  rcases hk2 with rfl | rfl
  · have hgp : g.place = { x.place with name := x.name } := by rw [← q2, hc]; rfl
    obtain ⟨was, hw, hb2, hgg⟩ := first_is h0 (c := { x.place with name := x.name }) (cs := [{ x.place with name := x.other }]) (by rw [hc]; rfl) hg hgp
    obtain ⟨hf, _, _⟩ := was_of h0 he hs hw k2
    unfold turnedOf at hb2 hgg
    rw [k2, kinds 6 ha 3 (by decide), ha] at hb2 hgg
    have hb2 : (iEq (was.getD 0 noField).kind 1 && iLe (wrapO .i64 ((was.getD 0 noField).worth * x.factor)) 1048576) = true := hb2
    rw [Bool.and_eq_true] at hb2
    have hgk : g.kind = (was.getD 0 noField).kind := by rw [hgg]; rfl
    have gk : iEq g.kind 1 = true := by rw [hgk]; exact hb2.1
    have hn := (whole_of hf hb2.1).1
    refine Met.of (e := ⟨g.place, (e0 (wentP x es)).n, []⟩) ?_ ?_ (fits_count hgo gk hn)
    · unfold comeP
      rw [kinds 6 ha 1 (by decide), kinds 6 ha 4 (by decide), kinds 6 ha 5 (by decide), ha, show iEq ((0 : Nat) : Int) 0 = true from iEq_self 0, value_count gk]
      rfl
    · unfold comeR
      rw [k2, ha, show iEq ((0 : Nat) : Int) 1 = false from iEq_f.2 (by decide), e0_is hx k2]
      rfl
  · refine Met.of (e := valueF g) ?_ ?_ (value_fits hgo)
    · unfold comeP
      rw [kinds 6 ha 1 (by decide), kinds 6 ha 4 (by decide), kinds 6 ha 5 (by decide), ha, show iEq ((1 : Nat) : Int) 0 = false from iEq_f.2 (by decide)]
      rfl
    · unfold comeR
      rw [k2, ha, show iEq ((1 : Nat) : Int) 1 = true from iEq_self 1]
      rfl
theorem met_gathered (h0 : (applyF l x).2 = 0) (he : entriesOk (scopeOf l s) es = true) (hs : lensScope x = s) (hg : g ∈ (applyF l x).1) (hk : idxRef (comesOf x) g.place = some k) (ha : iEq x.kind 9 = true) : Met x es g k := by
  have hx := (apply_ok h0).1
  have k2 := kinds 9 ha 2 (by decide)
  have k3 := kinds 9 ha 3 (by decide)
  have k6 := kinds 9 ha 6 (by decide)
  have hgo := field_ok (apply_right h0) hg
  obtain ⟨rfl, hc⟩ := comes_k1 hx k3 k6 hk
  obtain ⟨was, hw, hb2, hgg⟩ := first_is h0 hc hg rfl
  obtain ⟨c7, c8, c9⟩ := come_ok h0 he hs
  obtain ⟨v1, v2, f1, f2⟩ := c9 ha
  unfold turnedOf at hb2 hgg
  rw [k2, k3, k6, ha] at hb2 hgg
  have hb2 : (iEq (was.getD 0 noField).kind 1 && (iEq (w1 was).kind 1 && iEq (w1 was).worth (wrapO .i64 ((was.getD 0 noField).worth * x.factor)))) = true := hb2
  rw [Bool.and_eq_true] at hb2
  have hgk : g.kind = (was.getD 0 noField).kind := by rw [hgg]; rfl
  have gk : iEq g.kind 1 = true := by rw [hgk]; exact hb2.1
  have hP : comeP x g ((0 : Nat) : Int) (wentP x es) = (if iEq (joinF (e0 (wentP x es)).n (e1 (wentP x es)).n x.factor).2 0 then ({ valueF g with n := (joinF (e0 (wentP x es)).n (e1 (wentP x es)).n x.factor).1 }, 0) else (valueF g, (joinF (e0 (wentP x es)).n (e1 (wentP x es)).n x.factor).2)) := by
    unfold comeP
    rw [kinds 9 ha 1 (by decide), kinds 9 ha 4 (by decide), kinds 9 ha 5 (by decide), k6, ha]
    rfl
  have hR : comeR x g ((0 : Nat) : Int) es = (if farI (e1 (wentP x es)).n || (farI ((e1 (wentP x es)).n * x.factor) || farI ((e0 (wentP x es)).n + (e1 (wentP x es)).n * x.factor)) then (noEntry, false) else (⟨g.place, (e0 (wentP x es)).n + (e1 (wentP x es)).n * x.factor, []⟩, true)) := by
    unfold comeR
    rw [k2, k6, ha, e0_is hx k2, e1_is hx ha]
    rfl
  have w2f : farI (e1 (wentP x es)).n = false := by
    rw [Bool.eq_false_iff]; intro h
    have := (farI_iff _).1 h
    unfold whole at v2; omega
  rw [w2f, Bool.false_or] at hR
  generalize (e0 (wentP x es)).n = a at *
  generalize (e1 (wentP x es)).n = b at *
  unfold joinF at hP
  cases q1 : farI (b * x.factor) with
  | true =>
    rw [q1] at hP hR
    exact Met.no (e := valueF g) (c := 3) (by rw [hP]; exact if_neg (by rw [show iEq (if true = true then ((0 : Int), (3 : Int)) else if farI (a + b * x.factor) = true then (0, 3) else (a + b * x.factor, 0)).2 0 = false from iEq_f.2 (show ¬ (3 : Int) = 0 by decide)]; decide)) (by decide) hR
  | false =>
    rw [q1] at hP hR
    cases q2 : farI (a + b * x.factor) with
    | true =>
      rw [q2] at hP hR
      exact Met.no (e := valueF g) (c := 3) (by rw [hP]; exact if_neg (by rw [show iEq (if false = true then ((0 : Int), (3 : Int)) else if true = true then (0, 3) else (a + b * x.factor, 0)).2 0 = false from iEq_f.2 (show ¬ (3 : Int) = 0 by decide)]; decide)) (by decide) hR
    | false =>
      rw [q2] at hP hR
      refine Met.of (e := ⟨g.place, a + b * x.factor, []⟩) ?_ hR (fits_count hgo gk (not_whole (farI_not q2).1 (farI_not q2).2))
      rw [hP, value_count gk]
      exact if_pos (iEq_self 0)
theorem met_opened (h0 : (applyF l x).2 = 0) (he : entriesOk (scopeOf l s) es = true) (hs : lensScope x = s) (hg : g ∈ (applyF l x).1) (hk : idxRef (comesOf x) g.place = some k) (ha : iEq x.kind 7 = true) : Met x es g k := by
  have hx := (apply_ok h0).1
  have k2 := kinds 7 ha 2 (by decide)
  have k3 := kinds 7 ha 3 (by decide)
  have k6 := kinds 7 ha 6 (by decide)
  have k9 := kinds 7 ha 9 (by decide)
  have hgo := field_ok (apply_right h0) hg
  obtain ⟨rfl, hc⟩ := comes_k1 hx k3 k6 hk
  obtain ⟨was, hw, hb2, hgg⟩ := first_is h0 hc hg rfl
  obtain ⟨hf, _, _⟩ := was_of h0 he hs hw k2
  unfold turnedOf at hb2 hgg
  rw [k2, k3, k6, k9, ha] at hb2 hgg
  have hb2 : (iEq (was.getD 0 noField).kind 2 && sEq (was.getD 0 noField).dflt x.other) = true := hb2
  rw [Bool.and_eq_true] at hb2
  have hgk : g.kind = 4 := by rw [hgg]; rfl
  have gk : iEq g.kind 4 = true := by rw [hgk]; exact iEq_self 4
  obtain ⟨_, ht, hft⟩ := text_of hf (kinds 2 hb2.1 1 (by decide)) (kinds 2 hb2.1 4 (by decide))
  have hto := text_any hft (.inl hb2.1)
  cases q : sEq (txt0 (e0 (wentP x es))) x.other with
  | true =>
    refine Met.of (e := ⟨g.place, 0, []⟩) ?_ ?_ (fits_none hgo gk)
    · unfold comeP
      rw [kinds 7 ha 1 (by decide), kinds 7 ha 4 (by decide), kinds 7 ha 5 (by decide), k6, k9, ha, q, value_list gk]; rfl
    · unfold comeR
      rw [k2, k6, k9, ha, ← e0_is hx k2, q]; rfl
  | false =>
    refine Met.of (e := ⟨g.place, 0, [txt0 (e0 (wentP x es))]⟩) ?_ ?_ (fits_one (kinds 4 gk 1 (by decide)) (text_fits hgo (.inr gk) hto))
    · unfold comeP
      rw [kinds 7 ha 1 (by decide), kinds 7 ha 4 (by decide), kinds 7 ha 5 (by decide), k6, k9, ha, q, value_list gk]; rfl
    · unfold comeR
      rw [k2, k6, k9, ha, ← e0_is hx k2, q]; rfl
theorem met_closed (h0 : (applyF l x).2 = 0) (he : entriesOk (scopeOf l s) es = true) (hs : lensScope x = s) (hg : g ∈ (applyF l x).1) (hk : idxRef (comesOf x) g.place = some k) (ha : iEq x.kind 10 = true) : Met x es g k := by
  have hx := (apply_ok h0).1
  have k2 := kinds 10 ha 2 (by decide)
  have k3 := kinds 10 ha 3 (by decide)
  have k6 := kinds 10 ha 6 (by decide)
  have k9 := kinds 10 ha 9 (by decide)
  have k7 := kinds 10 ha 7 (by decide)
  have hgo := field_ok (apply_right h0) hg
  obtain ⟨rfl, hc⟩ := comes_k1 hx k3 k6 hk
  obtain ⟨was, hw, hb2, hgg⟩ := first_is h0 hc hg rfl
  obtain ⟨hf, _, _⟩ := was_of h0 he hs hw k2
  unfold turnedOf at hb2 hgg
  rw [k2, k3, k6, k9, k7, ha] at hb2 hgg
  have hb2 : iEq (was.getD 0 noField).kind 4 = true := hb2
  have hgk : g.kind = 2 := by rw [hgg]; rfl
  have hgd : g.dflt = x.other := by rw [hgg]; rfl
  have gk : iEq g.kind 2 = true := by rw [hgk]; exact iEq_self 2
  have g1' := kinds 2 gk 1 (by decide)
  have g4' := kinds 2 gk 4 (by decide)
  obtain ⟨_, _, hall⟩ := list_of hf hb2
  cases q : iLt 0 ((e0 (wentP x es)).texts.length : Int) with
  | true =>
    have hpos : 0 < (e0 (wentP x es)).texts.length := by have := iLt_t.1 q; omega
    have hto := text_any (hall ((e0 (wentP x es)).texts.length - 1) (by omega)) (.inr hb2)
    refine Met.of (e := ⟨g.place, 0, [lastTxt (e0 (wentP x es))]⟩) ?_ ?_ (fits_one g1' (text_fits hgo (.inl gk) hto))
    · unfold comeP
      rw [kinds 10 ha 1 (by decide), kinds 10 ha 4 (by decide), kinds 10 ha 5 (by decide), k6, k9, k7, ha, q, value_text g1' g4']; rfl
    · unfold comeR
      rw [k2, k6, k9, k7, ha, ← e0_is hx k2, q]; rfl
  | false =>
    refine Met.of (e := ⟨g.place, 0, [x.other]⟩) ?_ ?_ (by rw [← hgd, ← value_text g1' g4']; exact value_fits hgo)
    · unfold comeP
      rw [kinds 10 ha 1 (by decide), kinds 10 ha 4 (by decide), kinds 10 ha 5 (by decide), k6, k9, k7, ha, q, value_text g1' g4', hgd]; rfl
    · unfold comeR
      rw [k2, k6, k9, k7, ha, ← e0_is hx k2, q]; rfl
theorem met_cased (h0 : (applyF l x).2 = 0) (he : entriesOk (scopeOf l s) es = true) (hs : lensScope x = s) (hg : g ∈ (applyF l x).1) (hk : idxRef (comesOf x) g.place = some k) (ha : iEq x.kind 8 = true) : Met x es g k := by
  have hx := (apply_ok h0).1
  have k2 := kinds 8 ha 2 (by decide)
  have k3 := kinds 8 ha 3 (by decide)
  have k6 := kinds 8 ha 6 (by decide)
  have k9 := kinds 8 ha 9 (by decide)
  have k7 := kinds 8 ha 7 (by decide)
  have k10 := kinds 8 ha 10 (by decide)
  have hgo := field_ok (apply_right h0) hg
  obtain ⟨rfl, hc⟩ := comes_k1 hx k3 k6 hk
  obtain ⟨was, hw, hb2, hgg⟩ := first_is h0 hc hg rfl
  obtain ⟨hf, _, _⟩ := was_of h0 he hs hw k2
  unfold turnedOf at hb2 hgg
  rw [k2, k3, k6, k9, k7, k10, ha] at hb2 hgg
  have hb2 : (iEq (was.getD 0 noField).kind 3 && (sEq (was.getD 0 noField).dflt x.name && sameStrs (was.getD 0 noField).cases (fromsOf x.forth))) = true := hb2
  simp only [Bool.and_eq_true] at hb2
  have hgk : g.kind = 3 := by rw [hgg]; rfl
  have hgc : g.cases = fromsOf x.back := by rw [hgg]; rfl
  have gk : iEq g.kind 3 = true := by rw [hgk]; exact iEq_self 3
  have g1' := kinds 3 gk 1 (by decide)
  have g4' := kinds 3 gk 4 (by decide)
  obtain ⟨_, _, hft⟩ := text_of hf (kinds 3 hb2.1 1 (by decide)) (kinds 3 hb2.1 4 (by decide))
  have hin : hasB (fromsOf x.forth) (txt0 (e0 (wentP x es))) = true := by
    unfold fitsText at hft
    rw [kinds 3 hb2.1 2 (by decide), kinds 3 hb2.1 4 (by decide), hb2.1, strs_eq hb2.2.2, Bool.and_eq_true] at hft
    exact hft.2
  have hout := case_fits hx ha hin
  refine Met.of (e := ⟨g.place, 0, [(caseOf x.forth (txt0 (e0 (wentP x es)))).1]⟩) ?_ ?_ (fits_one g1' ?_)
  · unfold comeP
    rw [kinds 8 ha 1 (by decide), kinds 8 ha 4 (by decide), kinds 8 ha 5 (by decide), k6, k9, k7, k10, ha, value_text g1' g4']; rfl
  · unfold comeR
    rw [k2, k6, k9, k7, k10, ha, ← e0_is hx k2]; rfl
  · unfold fitsText
    rw [hgo, kinds 3 gk 2 (by decide), g4', gk, hgc]
    exact hout
theorem met (h0 : (applyF l x).2 = 0) (he : entriesOk (scopeOf l s) es = true) (hg : g ∈ (applyF l x).1) (hgs : g.place.scope = s) (hk : idxRef (comesOf x) g.place = some k) : Met x es g k := by
  have hx := (apply_ok h0).1
  have hs : lensScope x = s := by
    obtain ⟨h1, h2⟩ := idx_at hk
    have hm : g.place ∈ comesOf x := by rw [← h2, List.getD_eq_getElem?_getD, List.getElem?_eq_getElem h1]; exact List.getElem_mem h1
    rw [← scope_comes hm]; exact hgs
  rcases kind_range hx with q | q | q | q | q | q | q | q | q | q
  · exact met_moved h0 he hs hg hk 1 (iEq_t.2 q) (.inl rfl)
  · exact met_added h0 hg (iEq_t.2 q)
  · exfalso
    rw [comes_nil (iEq_t.2 q)] at hk
    cases hk
  · exact met_moved h0 he hs hg hk 4 (iEq_t.2 q) (.inr (.inl rfl))
  · exact met_moved h0 he hs hg hk 5 (iEq_t.2 q) (.inr (.inr rfl))
  · exact met_spread h0 he hs hg hk (iEq_t.2 q)
  · exact met_opened h0 he hs hg hk (iEq_t.2 q)
  · exact met_cased h0 he hs hg hk (iEq_t.2 q)
  · exact met_gathered h0 he hs hg hk (iEq_t.2 q)
  · exact met_closed h0 he hs hg hk (iEq_t.2 q)
end
end Go.Proofs.YtalpbdabeffnlaaGreat

/- A document over a lens: the reference's, and right. -/
set_option linter.unusedVariables false
set_option linter.unusedSimpArgs false
namespace Go.Proofs.YtalpbdabeffnlaaGreat
open Go Go.Av Go.Fl
set_option maxRecDepth 100000

section
variable {l : List SField} {x : SLens} {s : Int} {es : List SEntry} {g : SField}
theorem old_mem (h0 : (applyF l x).2 = 0) (hc : g.place ∉ comesOf x) : g ∈ (applyF l x).1 ↔ g ∈ l ∧ g.place ∉ goesOf x := by
  obtain ⟨hx, hl⟩ := apply_ok h0
  obtain ⟨rest, was, ht, hb, e, hp, hr⟩ := apply_parts h0
  obtain ⟨_, b, c⟩ := take_keeps _ _ _ _ ht hl (goes_nodup hx) (fun f hf _ => hf)
  obtain ⟨_, _, c2, _⟩ := put_keeps _ (turnedOf x was).1 _ hp b
  rw [e, c2 g hc]
  exact c g
theorem step_law (h0 : (applyF l x).2 = 0) (he : entriesOk (scopeOf l s) es = true) (hg : g ∈ (applyF l x).1) (hgs : g.place.scope = s) :
    ((stepP x (wentP x es) es g).2 = 0 → fitsEntry g (stepP x (wentP x es) es g).1 = true) ∧ (stepR x es g).2 = iEq (stepP x (wentP x es) es g).2 0 ∧ ((stepP x (wentP x es) es g).2 = 0 → (stepR x es g).1 = (stepP x (wentP x es) es g).1) := by
  obtain ⟨hx, hl⟩ := apply_ok h0
  unfold stepP stepR
  rw [comes2_eq hx]
  cases q : idxRef (comesOf x) g.place with
  | none =>
    have hgl := ((old_mem h0 (idx_mem.1 q)).1 hg).1
    obtain ⟨e, h1, h2⟩ := entry_at hl he hgl hgs
    refine ⟨fun _ => ?_, (iEq_self 0).symm, fun _ => rfl⟩
    show fitsEntry g (atF es g.place).1 = true
    rw [h1]; exact h2
  | some k => exact met h0 he hg hgs q
theorem all_law (h0 : (applyF l x).2 = 0) (he : entriesOk (scopeOf l s) es = true) : ∀ (fs : List SField) (acc : List SEntry), (∀ g ∈ fs, g ∈ (applyF l x).1 ∧ g.place.scope = s) →
    (allR x es fs acc).2 = iEq (allP x (wentP x es) es fs acc).2 0 ∧ ((allP x (wentP x es) es fs acc).2 = 0 → (allR x es fs acc).1 = (allP x (wentP x es) es fs acc).1 ∧ (allP x (wentP x es) es fs acc).1 = acc ++ fs.map (fun g => (stepP x (wentP x es) es g).1) ∧ ∀ g ∈ fs, (stepP x (wentP x es) es g).2 = 0)
  | [], acc, _ => ⟨(iEq_self 0).symm, fun _ => ⟨rfl, by simp [allP], fun g hg => by cases hg⟩⟩
  | f :: fs, acc, hall => by
    obtain ⟨hm, hs⟩ := hall f List.mem_cons_self
    obtain ⟨_, b, c⟩ := step_law h0 he hm hs
    unfold allR allP
    rw [b]
    cases q : iEq (stepP x (wentP x es) es f).2 0 with
    | false =>
      refine ⟨(iEq_f.2 ?_).symm, fun h => absurd h ?_⟩ <;> exact iEq_f.1 q
    | true =>
      have q0 := iEq_t.1 q
      rw [c q0]
      obtain ⟨i1, i2⟩ := all_law h0 he fs (acc ++ [(stepP x (wentP x es) es f).1]) (fun g hg => hall g (List.mem_cons_of_mem _ hg))
      refine ⟨i1, fun h => ?_⟩
      obtain ⟨j1, j2, j3⟩ := i2 h
      refine ⟨j1, ?_, fun g hg => ?_⟩
      · show (allP x (wentP x es) es fs (acc ++ [(stepP x (wentP x es) es f).1])).1 = _
        rw [j2, List.map_cons, List.append_assoc]; rfl
      · rcases List.mem_cons.1 hg with rfl | hg
        · exact q0
        · exact j3 g hg
theorem all_in (m : List SField) (s : Int) : ∀ g ∈ scopeOf m s, g ∈ m ∧ g.place.scope = s := fun g hg => scope_mem.1 hg
theorem ents_law (h0 : (applyF l x).2 = 0) (he : entriesOk (scopeOf l s) es = true) :
    (entriesR x (scopeOf (applyF l x).1 s) es).2 = iEq (entriesP x (scopeOf (applyF l x).1 s) es).2 0 ∧
    ((entriesP x (scopeOf (applyF l x).1 s) es).2 = 0 → (entriesR x (scopeOf (applyF l x).1 s) es).1 = (entriesP x (scopeOf (applyF l x).1 s) es).1 ∧
      (entriesP x (scopeOf (applyF l x).1 s) es).1 = (scopeOf (applyF l x).1 s).map (fun g => (stepP x (wentP x es) es g).1) ∧ entriesOk (scopeOf (applyF l x).1 s) (entriesP x (scopeOf (applyF l x).1 s) es).1 = true) := by
  obtain ⟨a, b⟩ := all_law h0 he (scopeOf (applyF l x).1 s) [] (all_in _ _)
  refine ⟨a, fun h => ?_⟩
  obtain ⟨c, d, e⟩ := b h
  rw [List.nil_append] at d
  refine ⟨c, d, ?_⟩
  have d : (entriesP x (scopeOf (applyF l x).1 s) es).1 = (scopeOf (applyF l x).1 s).map (fun g => (stepP x (wentP x es) es g).1) := d
  rw [d]
  unfold entriesOk
  rw [Bool.and_eq_true, decide_eq_true_eq, allUpto_iff]
  refine ⟨by rw [List.length_map], fun i _ hi => ?_⟩
  have hi : i < (scopeOf (applyF l x).1 s).length := by omega
  have e1 : ((scopeOf (applyF l x).1 s).map (fun g => (stepP x (wentP x es) es g).1)).getD i noEntry = (stepP x (wentP x es) es ((scopeOf (applyF l x).1 s).getD i noField)).1 := by
    rw [List.getD_eq_getElem?_getD, List.getElem?_map, List.getD_eq_getElem?_getD, List.getElem?_eq_getElem hi]; rfl
  rw [e1]
  have hm := at_mem hi
  obtain ⟨h1, h2⟩ := all_in _ _ _ hm
  exact (step_law h0 he h1 h2).1 (e _ hm)
end
theorem over_ref {l : List SField} {x : SLens} {d : SDoc} : overR l x d = overP l x d := by
  unfold overR overP
  cases b0 : iEq (applyF l x).2 0 with
  | false => rfl
  | true =>
    have h0 := iEq_t.1 b0
    cases b1 : docRight l d with
    | false => rfl
    | true =>
      obtain ⟨a, b⟩ := ents_law h0 (doc_head b1).2
      have rows : allUpto (rowsOkR x (scopeOf (applyF l x).1 1) d) d.rows.length 0 = allUpto (rowsOk x (scopeOf (applyF l x).1 1) d) d.rows.length 0 :=
        allUpto_congr _ _ fun j _ hj => by
          unfold rowsOkR rowsOk
          exact (ents_law h0 (doc_row b1 (by omega))).1
      rw [a, rows]
      cases b2 : iEq (entriesP x (scopeOf (applyF l x).1 0) d.head).2 0 with
      | false => rfl
      | true =>
        rw [(b (iEq_t.1 b2)).1]
        cases b3 : allUpto (rowsOk x (scopeOf (applyF l x).1 1) d) d.rows.length 0 with
        | false => rfl
        | true =>
          have : d.rows.map (overRowR x (scopeOf (applyF l x).1 1)) = d.rows.map (overRow x (scopeOf (applyF l x).1 1)) := by
            refine List.map_congr_left fun r hr => ?_
            obtain ⟨i, hi, rfl⟩ := List.getElem_of_mem hr
            have e : d.rows[i] = d.rows.getD i noRow := by rw [List.getD_eq_getElem?_getD, List.getElem?_eq_getElem hi]; rfl
            rw [e]
            unfold overRowR overRow
            have hok := ((allUpto_iff _ _ _).1 b3) i (Nat.zero_le _) (by omega)
            rw [((ents_law h0 (doc_row b1 hi)).2 (iEq_t.1 hok)).1]
          rw [this]
theorem over_parts {l : List SField} {x : SLens} {d : SDoc} (h : (overP l x d).2 = 0) : (applyF l x).2 = 0 ∧ docRight l d = true ∧ (entriesP x (scopeOf (applyF l x).1 0) d.head).2 = 0 ∧
    (∀ i, i < d.rows.length → (entriesP x (scopeOf (applyF l x).1 1) (d.rows.getD i noRow).l).2 = 0) ∧
    (overP l x d).1 = ⟨(entriesP x (scopeOf (applyF l x).1 0) d.head).1, d.rows.map (overRow x (scopeOf (applyF l x).1 1))⟩ := by
  unfold overP at h ⊢
  cases b0 : iEq (applyF l x).2 0 with
  | false => rw [b0] at h; exact absurd h (iEq_f.1 b0)
  | true =>
    rw [b0] at h
    cases b1 : docRight l d with
    | false => rw [b1] at h; exact absurd h (show ¬ (5 : Int) = 0 by decide)
    | true =>
      rw [b1] at h
      cases b2 : iEq (entriesP x (scopeOf (applyF l x).1 0) d.head).2 0 with
      | false => rw [b2] at h; exact absurd h (show ¬ (3 : Int) = 0 by decide)
      | true =>
        rw [b2] at h
        cases b3 : allUpto (rowsOk x (scopeOf (applyF l x).1 1) d) d.rows.length 0 with
        | false => rw [b3] at h; exact absurd h (show ¬ (3 : Int) = 0 by decide)
        | true => exact ⟨iEq_t.1 b0, rfl, iEq_t.1 b2, fun i hi => iEq_t.1 (((allUpto_iff _ _ _).1 b3) i (Nat.zero_le _) (by omega)), rfl⟩
theorem over_bad {l : List SField} {x : SLens} {d : SDoc} (h : (overP l x d).2 ≠ 0) : (overP l x d).1 = noDoc := by
  unfold overP at h ⊢
  cases b0 : iEq (applyF l x).2 0 with
  | false => rfl
  | true =>
    cases b1 : docRight l d with
    | false => rfl
    | true =>
      cases b2 : iEq (entriesP x (scopeOf (applyF l x).1 0) d.head).2 0 with
      | false => rfl
      | true =>
        cases b3 : allUpto (rowsOk x (scopeOf (applyF l x).1 1) d) d.rows.length 0 with
        | false => rfl
        | true => rw [b0, b1, b2, b3] at h; exact absurd rfl h
theorem row_at {x : SLens} {line : List SField} {rows : List SRow} {i : Nat} (h : i < rows.length) : (rows.map (overRow x line)).getD i noRow = overRow x line (rows.getD i noRow) := by
  rw [List.getD_eq_getElem?_getD, List.getElem?_map, List.getD_eq_getElem?_getD, List.getElem?_eq_getElem h]; rfl
theorem over_right {l : List SField} {x : SLens} {d : SDoc} (h : (overP l x d).2 = 0) : docRight (applyF l x).1 (overP l x d).1 = true := by
  obtain ⟨h0, b1, b2, b3, e⟩ := over_parts h
  rw [e]
  unfold docRight
  rw [apply_right h0]
  have hh := ((ents_law h0 (doc_head b1).2).2 b2).2.2
  have hd := b1
  unfold docRight at hd
  simp only [Bool.and_eq_true, allUpto_iff, Bool.not_eq_true'] at hd ⊢
  obtain ⟨_, q1, _, q3⟩ := hd
  refine ⟨trivial, by rw [List.length_map]; exact q1, hh, fun i _ hi => ?_⟩
  have hi : i < d.rows.length := by rw [List.length_map] at hi; omega
  have q := q3 i (Nat.zero_le _) (by omega)
  unfold docStep at q ⊢
  simp only [Bool.and_eq_true] at q ⊢
  refine ⟨by rw [row_at hi]; exact q.1, ?_, ?_⟩
  · have q2 := q.2.1
    unfold itemsStep at q2 ⊢
    cases hp : decide (0 < i) with
    | false => rfl
    | true =>
      have hp := of_decide_eq_true hp
      rw [decide_eq_true hp] at q2
      show (!true || sLt ((d.rows.map (overRow x (scopeOf (applyF l x).1 1))).getD (i - 1) noRow).item ((d.rows.map (overRow x (scopeOf (applyF l x).1 1))).getD i noRow).item) = true
      rw [row_at hi, row_at (show i - 1 < d.rows.length by omega)]
      exact q2
  · rw [row_at hi]
    exact ((ents_law h0 (doc_row b1 hi)).2 (b3 i hi)).2.2
end Go.Proofs.YtalpbdabeffnlaaGreat

/- A document there and back. -/
set_option linter.unusedVariables false
set_option linter.unusedSimpArgs false
namespace Go.Proofs.YtalpbdabeffnlaaGreat
open Go Go.Av Go.Fl
set_option maxRecDepth 100000

/-- The lenses of which the law tells. -/
def Turns (x : SLens) : Prop := (iEq x.kind 1 = true ∨ iEq x.kind 4 = true ∨ iEq x.kind 5 = true) ∨ iEq x.kind 6 = true ∨ iEq x.kind 7 = true ∨ (iEq x.kind 8 = true ∧ roundB x.forth x.back = true)
section
variable {l : List SField} {x : SLens} {s : Int} {es : List SEntry} {f : SField}
def outOf (l : List SField) (x : SLens) (s : Int) (es : List SEntry) : List SEntry := (scopeOf (applyF l x).1 s).map fun g => (stepP x (wentP x es) es g).1
theorem out_at (h0 : (applyF l x).2 = 0) (hout : entriesOk (scopeOf (applyF l x).1 s) (outOf l x s es) = true) {g : SField} (hg : g ∈ (applyF l x).1) (hgs : g.place.scope = s) :
    (atF (outOf l x s es) g.place).1 = (stepP x (wentP x es) es g).1 := by
  obtain ⟨i, hi, e⟩ := getD_mem (scope_mem.2 ⟨hg, hgs⟩)
  have := entry_is (apply_right h0) hout hi
  rw [e] at this
  rw [this]
  unfold outOf
  rw [List.getD_eq_getElem?_getD, List.getElem?_map]
  rw [List.getD_eq_getElem?_getD, List.getElem?_eq_getElem hi] at e
  rw [List.getElem?_eq_getElem hi]
  have e : (scopeOf (applyF l x).1 s)[i] = g := e
  rw [e]; rfl
theorem idx_of {cs : List SRef} {i : Nat} (hi : i < cs.length) (hn : cs.Nodup) : idxRef cs (cs.getD i noRef) = some i := by
  cases q : idxRef cs (cs.getD i noRef) with
  | none => exact absurd (by rw [List.getD_eq_getElem?_getD, List.getElem?_eq_getElem hi]; exact List.getElem_mem hi) (idx_mem.1 q)
  | some k =>
    obtain ⟨h1, h2⟩ := idx_at q
    rw [List.getD_eq_getElem?_getD, List.getD_eq_getElem?_getD, List.getElem?_eq_getElem hi, List.getElem?_eq_getElem h1] at h2
    have h2 : cs[k] = cs[i] := h2
    have : k = i := by
      have hp := List.pairwise_iff_getElem.1 hn
      rcases Nat.lt_trichotomy k i with hlt | heq | hgt
      · exact absurd h2 (hp k i h1 hi hlt)
      · exact heq
      · exact absurd h2.symm (hp i k hi h1 hgt)
    rw [this]
/-- The i-th entry that goes back. -/
theorem back_at (h0 : (applyF l x).2 = 0) (hs : lensScope x = s) (hout : entriesOk (scopeOf (applyF l x).1 s) (outOf l x s es) = true) {i : Nat} (hi : i < (comesOf x).length) :
    ∃ g, g ∈ (applyF l x).1 ∧ g.place = (comesOf x).getD i noRef ∧ (wentP (turnOf x) (outOf l x s es)).getD i noEntry = (comeP x g i (wentP x es)).1 := by
  obtain ⟨hx, hl⟩ := apply_ok h0
  obtain ⟨gt, ct⟩ := goes_turn hx
  have hm : (comesOf x).getD i noRef ∈ comesOf x := by rw [List.getD_eq_getElem?_getD, List.getElem?_eq_getElem hi]; exact List.getElem_mem hi
  obtain ⟨j, hj⟩ := (apply_keeps h0).2.1 _ hm
  obtain ⟨h1, h2⟩ := place_some hj
  refine ⟨_, h1, h2, ?_⟩
  have hn : (comesOf x).Nodup := by rw [← gt]; exact goes_nodup (turn_ok x hx)
  rw [wentP_at (turnOf x) _ (by rw [gt]; exact hi), gt, ← h2, out_at h0 hout h1 (by rw [h2, scope_comes hm, hs])]
  unfold stepP
  rw [h2, idx_of hi hn]
theorem back_step (h0 : (applyF l x).2 = 0) (he : entriesOk (scopeOf l s) es = true) (hout : entriesOk (scopeOf (applyF l x).1 s) (outOf l x s es) = true) (ht : Turns x) (hf : f ∈ l) (hfs : f.place.scope = s) :
    stepP (turnOf x) (wentP (turnOf x) (outOf l x s es)) (outOf l x s es) f = ((atF es f.place).1, 0) := by
  obtain ⟨hx, hl⟩ := apply_ok h0
  obtain ⟨gt, ct⟩ := goes_turn hx
  cases q : idxRef (goesOf x) f.place with
  | none =>
    have hg := idx_mem.1 q
    have hc : f.place ∉ comesOf x := fun hc => by
      have := comes_fresh h0 hc hg
      obtain ⟨j, hj, _⟩ := find_mem hl hf
      rw [this] at hj; cases hj
    have hm := (old_mem h0 hc).2 ⟨hf, hg⟩
    have e := out_at h0 hout hm hfs
    unfold stepP at e ⊢
    rw [ct, q]
    rw [idx_mem.2 hc] at e
    show ((atF (outOf l x s es) f.place).1, (0 : Int)) = _
    rw [e]
  | some k =>
    obtain ⟨q1, q2⟩ := idx_at q
    have hm : f.place ∈ goesOf x := by rw [← q2, List.getD_eq_getElem?_getD, List.getElem?_eq_getElem q1]; exact List.getElem_mem q1
    have hs : lensScope x = s := by rw [← scope_goes hm]; exact hfs
    have k2 : iEq x.kind 2 = false := by rcases ht with (h | h | h) | h | h | ⟨h, _⟩ <;> exact kinds _ h 2 (by decide)
    have k3 : iEq x.kind 3 = false := by rcases ht with (h | h | h) | h | h | ⟨h, _⟩ <;> exact kinds _ h 3 (by decide)
    have k9 : iEq x.kind 9 = false := by rcases ht with (h | h | h) | h | h | ⟨h, _⟩ <;> exact kinds _ h 9 (by decide)
    have hgo := goes_one hx k2 k3 k9
    have hfp : f.place = x.place := by rw [hgo] at hm; simpa using hm
    have hk0 : k = 0 := by rw [hgo] at q1; have : k < 1 := q1; omega
    subst hk0
    -- the field that goes, and its entry
    obtain ⟨rest, was, hta, htu, _⟩ := apply_parts h0
    obtain ⟨w1, _⟩ := take_was _ _ _ _ hta
    have w1 : was = (goesOf x).map (fun r => (fieldAt l (placeIn l r)).1) := by simpa using w1
    obtain ⟨a1, a2, a3⟩ := was_of h0 he hs w1 k2
    have hwf : was.getD 0 noField = f := place_one hl a2 hf (by rw [a3, hgo, hfp]; rfl)
    rw [hwf] at a1
    have hep : e0 (wentP x es) = (atF es f.place).1 := by
      unfold e0
      rw [wentP_at x es (by rw [hgo]; exact Nat.zero_lt_one), hgo, hfp]; rfl
    have hfit := (fits_ref a1).2
    have hcn : 0 < (comesOf x).length := by
      cases h6 : iEq x.kind 6 with
      | true => rw [comes_two hx h6]; decide
      | false => rw [comes_one hx k3 h6]; decide
    obtain ⟨g, hgm, hgp, hge⟩ := back_at h0 hs hout hcn
    have hge : e0 (wentP (turnOf x) (outOf l x s es)) = (comeP x g ((0 : Nat) : Int) (wentP x es)).1 := hge
    unfold stepP
    rw [ct, q]
    show comeP (turnOf x) f ((0 : Nat) : Int) (wentP (turnOf x) (outOf l x s es)) = _
    rw [← hep]
    rcases ht with h | h | h | ⟨h, hr⟩
    · -- moved
      have hb : (iEq x.kind 1 || (iEq x.kind 4 || iEq x.kind 5)) = true := by rcases h with h | h | h <;> rw [h] <;> simp
      have hby : (iEq (turnOf x).kind 1 || (iEq (turnOf x).kind 4 || iEq (turnOf x).kind 5)) = true := by
        rcases h with h | h | h
        · have e : (turnOf x).kind = x.kind := by unfold turnOf; rw [h]; rfl
          rw [e, h]; rfl
        · have e : (turnOf x).kind = 5 := by unfold turnOf; rw [kinds 4 h 1 (by decide), k2, k3, h]; rfl
          rw [e, iEq_self]; simp
        · have e : (turnOf x).kind = 4 := by unfold turnOf; rw [kinds 5 h 1 (by decide), k2, k3, kinds 5 h 4 (by decide), h]; rfl
          rw [e, iEq_self]; simp
      have e1 : comeP x g ((0 : Nat) : Int) (wentP x es) = ({ e0 (wentP x es) with place := g.place }, 0) := by unfold comeP; rw [hb]; rfl
      rw [e1] at hge
      unfold comeP
      rw [hby, hge]
      show (({ e0 (wentP x es) with place := f.place } : SEntry), (0 : Int)) = _
      rw [← hfit]
    · -- spread, gathered
      have k1 := kinds 6 h 1 (by decide)
      have k4 := kinds 6 h 4 (by decide)
      have k5 := kinds 6 h 5 (by decide)
      have ey : (turnOf x) = { x with kind := 9 } := by unfold turnOf; rw [k1, k2, k3, k4, k5, h]; rfl
      have hy9 : iEq (turnOf x).kind 9 = true := by rw [ey]; exact iEq_self 9
      have hyf : (turnOf x).factor = x.factor := by rw [ey]
      obtain ⟨g', hgm', hgp', hge'⟩ := back_at h0 hs hout (show 1 < (comesOf x).length by rw [comes_two hx h]; decide)
      have hge' : e1 (wentP (turnOf x) (outOf l x s es)) = (comeP x g' ((1 : Nat) : Int) (wentP x es)).1 := hge'
      have c0 : comeP x g ((0 : Nat) : Int) (wentP x es) = ({ valueF g with n := (e0 (wentP x es)).n }, 0) := by
        unfold comeP; rw [k1, k4, k5, h, show iEq ((0 : Nat) : Int) 0 = true from iEq_self 0]; rfl
      have c1 : comeP x g' ((1 : Nat) : Int) (wentP x es) = (valueF g', 0) := by
        unfold comeP; rw [k1, k4, k5, h, show iEq ((1 : Nat) : Int) 0 = false from iEq_f.2 (by decide)]; rfl
      rw [c0] at hge
      rw [c1] at hge'
      unfold turnedOf at htu
      rw [k2, k3, h, show w0 was = f from hwf] at htu
      have htu : (iEq f.kind 1 && iLe (wrapO .i64 (f.worth * x.factor)) 1048576) = true := htu
      rw [Bool.and_eq_true] at htu
      obtain ⟨hn, htx⟩ := whole_of a1 htu.1
      have hj : joinF (e0 (wentP x es)).n 0 x.factor = ((e0 (wentP x es)).n, 0) := by
        unfold joinF
        rw [Int.zero_mul, Int.add_zero, show farI 0 = false by unfold farI; rw [iLt_f.2 (by decide), iLt_f.2 (by decide)]; rfl]
        have : farI (e0 (wentP x es)).n = false := by
          rw [Bool.eq_false_iff]; intro hh
          have := (farI_iff _).1 hh
          unfold whole at hn; omega
        rw [this]; rfl
      unfold comeP
      rw [kinds 9 hy9 1 (by decide), kinds 9 hy9 4 (by decide), kinds 9 hy9 5 (by decide), kinds 9 hy9 6 (by decide), hy9, hyf, hge, hge', value_count htu.1]
      show (if iEq (joinF (e0 (wentP x es)).n (valueF g').n x.factor).2 0 = true then _ else _) = _
      rw [value_n, hj]
      show (if iEq 0 0 = true then ((⟨f.place, (e0 (wentP x es)).n, []⟩ : SEntry), (0 : Int)) else _) = _
      rw [iEq_self]
      show ((⟨f.place, (e0 (wentP x es)).n, []⟩ : SEntry), (0 : Int)) = _
      rw [← hfit, ← htx]
    · -- wrapped
      have k1 := kinds 7 h 1 (by decide)
      have k4 := kinds 7 h 4 (by decide)
      have k5 := kinds 7 h 5 (by decide)
      have k6 := kinds 7 h 6 (by decide)
      have ey : (turnOf x) = { x with kind := 10 } := by unfold turnOf; rw [k1, k2, k3, k4, k5, k6, k9, h]; rfl
      have hy : iEq (turnOf x).kind 10 = true := by rw [ey]; exact iEq_self 10
      unfold turnedOf at htu
      rw [k2, k3, k6, k9, h, show w0 was = f from hwf] at htu
      have htu : (iEq f.kind 2 && sEq f.dflt x.other) = true := htu
      rw [Bool.and_eq_true] at htu
      have f1 := kinds 2 htu.1 1 (by decide)
      have f4 := kinds 2 htu.1 4 (by decide)
      obtain ⟨hn, htx, _⟩ := text_of a1 f1 f4
      have heq : (⟨f.place, 0, [txt0 (e0 (wentP x es))]⟩ : SEntry) = e0 (wentP x es) := by rw [← htx, ← hn, ← hfit]
      have gk : iEq g.kind 4 = true := by
        obtain ⟨c, hc⟩ := one_len (comes_one hx k3 k6)
        obtain ⟨was', _, _, hgg⟩ := first_is h0 hc hgm (by rw [hgp, hc]; rfl)
        unfold turnedOf at hgg
        rw [k2, k3, k6, k9, h] at hgg
        have : g.kind = 4 := by rw [hgg]; rfl
        rw [this]; exact iEq_self 4
      have c0 : comeP x g ((0 : Nat) : Int) (wentP x es) = (if sEq (txt0 (e0 (wentP x es))) x.other then valueF g else { valueF g with texts := [txt0 (e0 (wentP x es))] }, 0) := by
        unfold comeP; rw [k1, k4, k5, k6, k9, h]; rfl
      rw [c0, value_list gk] at hge
      unfold comeP
      rw [kinds 10 hy 1 (by decide), kinds 10 hy 4 (by decide), kinds 10 hy 5 (by decide), kinds 10 hy 6 (by decide), kinds 10 hy 9 (by decide), kinds 10 hy 7 (by decide), hy, hge, value_text f1 f4]
      cases q : sEq (txt0 (e0 (wentP x es))) x.other with
      | true =>
        show (if iLt 0 (([] : List ByteArray).length : Int) = true then _ else (⟨f.place, 0, [f.dflt]⟩ : SEntry), (0 : Int)) = _
        rw [show iLt 0 (([] : List ByteArray).length : Int) = false from iLt_f.2 (by decide), sEq_t.1 htu.2, ← sEq_t.1 q]
        show ((⟨f.place, 0, [txt0 (e0 (wentP x es))]⟩ : SEntry), (0 : Int)) = _
        rw [heq]
      | false =>
        show (if iLt 0 (([txt0 (e0 (wentP x es))] : List ByteArray).length : Int) = true then (⟨f.place, 0, [txt0 (e0 (wentP x es))]⟩ : SEntry) else _, (0 : Int)) = _
        rw [show iLt 0 (([txt0 (e0 (wentP x es))] : List ByteArray).length : Int) = true from iLt_t.2 (show (0 : Int) < ((1 : Nat) : Int) by decide)]
        show ((⟨f.place, 0, [txt0 (e0 (wentP x es))]⟩ : SEntry), (0 : Int)) = _
        rw [heq]
    · -- converted
      have k1 := kinds 8 h 1 (by decide)
      have k4 := kinds 8 h 4 (by decide)
      have k5 := kinds 8 h 5 (by decide)
      have k6 := kinds 8 h 6 (by decide)
      have k7 := kinds 8 h 7 (by decide)
      have k10 := kinds 8 h 10 (by decide)
      have ey : turnOf x = { x with name := x.other, other := x.name, forth := x.back, back := x.forth } := by unfold turnOf; rw [k1, k2, k3, k4, k5, k6, k9, k7, k10, h]; rfl
      have hy : iEq (turnOf x).kind 8 = true := by rw [ey]; exact h
      have hyf : (turnOf x).forth = x.back := by rw [ey]
      unfold turnedOf at htu
      rw [k2, k3, k6, k9, k7, k10, h, show w0 was = f from hwf] at htu
      have htu : (iEq f.kind 3 && (sEq f.dflt x.name && sameStrs f.cases (fromsOf x.forth))) = true := htu
      simp only [Bool.and_eq_true] at htu
      have f1 := kinds 3 htu.1 1 (by decide)
      have f4 := kinds 3 htu.1 4 (by decide)
      obtain ⟨hn, htx, hft⟩ := text_of a1 f1 f4
      have heq : (⟨f.place, 0, [txt0 (e0 (wentP x es))]⟩ : SEntry) = e0 (wentP x es) := by rw [← htx, ← hn, ← hfit]
      have hin : (caseOf x.forth (txt0 (e0 (wentP x es)))).2 = true := by
        rw [case_has]
        unfold fitsText at hft
        rw [kinds 3 htu.1 2 (by decide), f4, htu.1, strs_eq htu.2.2, Bool.and_eq_true] at hft
        exact hft.2
      obtain ⟨i, hi, p1, p2⟩ := case_pair hin
      have hrp := (round_pair hr hi).2
      rw [p2, p1] at hrp
      have c0 : comeP x g ((0 : Nat) : Int) (wentP x es) = ({ valueF g with texts := [(caseOf x.forth (txt0 (e0 (wentP x es)))).1] }, 0) := by
        unfold comeP; rw [k1, k4, k5, k6, k9, k7, k10, h]; rfl
      rw [c0] at hge
      unfold comeP
      rw [kinds 8 hy 1 (by decide), kinds 8 hy 4 (by decide), kinds 8 hy 5 (by decide), kinds 8 hy 6 (by decide), kinds 8 hy 9 (by decide), kinds 8 hy 7 (by decide), kinds 8 hy 10 (by decide), hy, hge, hyf, value_text f1 f4]
      show ((⟨f.place, 0, [(caseOf x.back (caseOf x.forth (txt0 (e0 (wentP x es)))).1).1]⟩ : SEntry), (0 : Int)) = _
      rw [hrp, heq]
end
end Go.Proofs.YtalpbdabeffnlaaGreat
