import Derived.Test.YtalpbdabeffnlaaGreatJoED
import Derived.Test.YtalpbdabeffnlaaGreatJoAH
import Derived.Test.YtalpbdabeffnlaaGreatJoDA
import Derived.Test.YtalpbdabeffnlaaGreatAvRules
import Derived.Test.YtalpbdabeffnlaaGreatAvAid
/- Documents: whether they are right for a list of fields. -/
set_option linter.unusedVariables false
set_option linter.unusedSimpArgs false
namespace Go.Proofs.YtalpbdabeffnlaaGreat
open Go Go.Av
set_option maxRecDepth 100000
set_option maxHeartbeats 4000000

def itemsStep (d : SDoc) (i : Nat) : Bool := !decide (0 < i) || sLt (d.rows.getD (i - 1) noRow).item (d.rows.getD i noRow).item
def docStep (m : List SField) (d : SDoc) (i : Nat) : Bool := nameOk (d.rows.getD i noRow).item && (itemsStep d i && entriesOk m (d.rows.getD i noRow).l)
def docRight (l : List SField) (d : SDoc) : Bool :=
  rightFields l && (!iLt 400 (d.rows.length : Int) && (entriesOk (scopeOf l 0) d.head && allUpto (docStep (scopeOf l 1) d) d.rows.length 0))
theorem f321 (l : List SField) (d : SDoc) (hl : fitFields l) (hd : fitDoc d) : PCall Tryz.prog 31 [encFields l, encDoc d] (.p (.val (.bool (docRight l d)))) [] := by
  have hlen : d.rows.length ≤ 3518437208780 := hd.2.1
  refine gcode hT hM Tryz.func31 rfl rfl (rv := [(4, none)]) rfl rfl rfl fun G hG => ?_
  conv => whnf
  refine CallK.lent (f33 l hl.ok) rfl ?_
  conv => whnf
  refine ⟨fun a1 => ?_, fun a1 => ?_⟩
  · have a1 := nott a1
    conv => whnf
    refine ⟨rfl, ?_⟩
    conv => whnf
    exact ⟨[], _, _, _, rfl, rfl, rfl, RepLe.bl (by unfold docRight; rw [a1]; rfl), trivial⟩
  have a1 := notf a1
  conv => whnf
  refine ⟨fun a2 => ?_, fun a2 => ?_⟩
  · conv => whnf
    refine ⟨rfl, ?_⟩
    conv => whnf
    exact ⟨[], _, _, _, rfl, rfl, rfl, RepLe.bl (by unfold docRight; rw [a1, a2]; rfl), trivial⟩
  conv => whnf
  refine CallK.go [] (f28 l 0 hl) rfl rfl rfl rfl rfl ?_
  conv => whnf
  refine CallK.lent (f340 (scopeOf l 0) d.head (scope_ok hl.ok 0) hd.1) rfl ?_
  conv => whnf
  refine ⟨rfl, ?_⟩
  conv => whnf
  refine ⟨fun a3 => ?_, fun a3 => ?_⟩
  · have a3 := nott a3
    conv => whnf
    exact ⟨[], _, _, _, rfl, rfl, rfl, RepLe.bl (by unfold docRight; rw [a1, a2, a3]; rfl), trivial⟩
  have a3 := notf a3
  conv => whnf
  refine CallK.go [] (f28 l 1 hl) rfl rfl rfl rfl rfl ?_
  conv => whnf
  refine AW.loop (X := Nat) (fun i => told 63 [(3, .pt 0 0), (5, .p (encFields (scopeOf l 1))), (28, .p (encRows d.rows)), (29, vI .i64 (d.rows.length : Int)), (30, vI .i64 (i : Int))] [(0, some (.box 61 ((docCells d).map .p)))] [0]) (fun i => i ≤ d.rows.length ∧ docRight l d = allUpto (docStep (scopeOf l 1) d) (d.rows.length - i) i) (fun i => d.rows.length - i) (used0 hG _) 0 ⟨by omega, by unfold docRight; rw [a1, a2, a3]; rfl⟩ (stle ⟨RepLe.refl _, RepLe.refl _, RepLe.refl _, RepLe.refl _, RepLe.refl _, trivial⟩ ⟨⟨_, rfl, BlkLe.refl _⟩, trivial⟩ rfl) ?_
  rintro i ⟨hi, hr⟩
  refine codeK_aw hT hM _ _ _ ?_
  conv => whnf
  refine ⟨fun h4 => ?_, fun h4 => ?_⟩
  · have hlt : i < d.rows.length := by rw [iLt_t] at h4; omega
    rw [allUpto_step _ hlt] at hr
    conv => whnf
    refine ⟨by omega, ?_⟩
    conv => whnf
    refine CallK.lent (f73 (d.rows.getD i noRow).item) rfl ?_
    conv => whnf
    refine ⟨fun n1 => ?_, fun n1 => ?_⟩
    · have n1 := nott n1
      conv => whnf
      refine ⟨rfl, ?_⟩
      conv => whnf
      exact ⟨[], _, _, _, rfl, rfl, rfl, RepLe.bl (by rw [hr]; unfold docStep; rw [n1]; rfl), trivial⟩
    have n1 := notf n1
    conv => whnf
    refine ⟨fun p1 => ?_, fun p1 => ?_⟩
    · have hpos : 0 < i := by rw [iLt_t] at p1; omega
      conv => whnf
      intro z hz
      have hw := wrap64_eq hz (by omega) (by omega)
      clear hz
      have hy : z = ((i - 1 : Nat) : Int) := by omega
      clear hw
      subst hy
      conv => whnf
      refine ⟨by omega, ?_⟩
      conv => whnf
      refine ⟨fun s1 => ?_, fun s1 => ?_⟩
      · have s1 : itemsStep d i = false := by unfold itemsStep; rw [decide_eq_true hpos]; exact nott s1
        conv => whnf
        refine ⟨rfl, ?_⟩
        conv => whnf
        exact ⟨[], _, _, _, rfl, rfl, rfl, RepLe.bl (by rw [hr]; unfold docStep; rw [n1, s1]; rfl), trivial⟩
      have s1 : itemsStep d i = true := by unfold itemsStep; rw [decide_eq_true hpos]; exact notf s1
      conv => whnf
      refine CallK.lent (f340 (scopeOf l 1) (d.rows.getD i noRow).l (scope_ok hl.ok 1) (hd.row i)) rfl ?_
      conv => whnf
      refine ⟨rfl, ?_⟩
      conv => whnf
      refine ⟨fun e1 => ?_, fun e1 => ?_⟩
      · have e1 := nott e1
        conv => whnf
        exact ⟨[], _, _, _, rfl, rfl, rfl, RepLe.bl (by rw [hr]; unfold docStep; rw [n1, s1, e1]; rfl), trivial⟩
      have e1 := notf e1
      have hs : docStep (scopeOf l 1) d i = true := by unfold docStep; rw [n1, s1, e1]; rfl
      rw [hs] at hr
      conv => whnf
      intro z hz
      have hy := wrap64_eq hz (by omega) (by omega)
      clear hz
      subst hy
      conv => whnf
      exact ⟨i + 1, ⟨by omega, hr⟩, by omega, stle ⟨RepLe.refl _, RepLe.refl _, RepLe.refl _, RepLe.refl _, RepLe.of rfl, trivial⟩ ⟨⟨_, rfl, BlkLe.refl _⟩, trivial⟩ rfl⟩
    have hz : i = 0 := by rw [iLt_f] at p1; omega
    have s1 : itemsStep d i = true := by unfold itemsStep; rw [hz]; rfl
    conv => whnf
    refine CallK.lent (f340 (scopeOf l 1) (d.rows.getD i noRow).l (scope_ok hl.ok 1) (hd.row i)) rfl ?_
    conv => whnf
    refine ⟨rfl, ?_⟩
    conv => whnf
    refine ⟨fun e1 => ?_, fun e1 => ?_⟩
    · have e1 := nott e1
      conv => whnf
      exact ⟨[], _, _, _, rfl, rfl, rfl, RepLe.bl (by rw [hr]; unfold docStep; rw [n1, s1, e1]; rfl), trivial⟩
    have e1 := notf e1
    have hs : docStep (scopeOf l 1) d i = true := by unfold docStep; rw [n1, s1, e1]; rfl
    rw [hs] at hr
    conv => whnf
    intro z hz
    have hy := wrap64_eq hz (by omega) (by omega)
    clear hz
    subst hy
    conv => whnf
    exact ⟨i + 1, ⟨by omega, hr⟩, by omega, stle ⟨RepLe.refl _, RepLe.refl _, RepLe.refl _, RepLe.refl _, RepLe.of rfl, trivial⟩ ⟨⟨_, rfl, BlkLe.refl _⟩, trivial⟩ rfl⟩
  have hge : i = d.rows.length := by rw [iLt_f] at h4; omega
  subst hge
  conv => whnf
  exact ⟨[], _, _, _, rfl, rfl, rfl, RepLe.bl (by rw [hr, allUpto_end]), trivial⟩
theorem f337 (l : List SField) (d : SDoc) (hl : fitFields l) (hd : fitDoc d) : PCall Tryz.prog 69 [encFields l, encDoc d] (.p (.val (.bool (docRight l d)))) [] := by
  have hlen : d.rows.length ≤ 3518437208780 := hd.2.1
  refine gcode hT hM Tryz.func69 rfl rfl (rv := [(4, none)]) rfl rfl rfl fun G hG => ?_
  conv => whnf
  refine CallK.lent (f34 l hl.ok) rfl ?_
  conv => whnf
  refine ⟨fun a1 => ?_, fun a1 => ?_⟩
  · have a1 := nott a1
    conv => whnf
    refine ⟨rfl, ?_⟩
    conv => whnf
    exact ⟨[], _, _, _, rfl, rfl, rfl, RepLe.bl (by unfold docRight; rw [a1]; rfl), trivial⟩
  have a1 := notf a1
  conv => whnf
  refine ⟨fun a2 => ?_, fun a2 => ?_⟩
  · conv => whnf
    refine ⟨rfl, ?_⟩
    conv => whnf
    exact ⟨[], _, _, _, rfl, rfl, rfl, RepLe.bl (by unfold docRight; rw [a1, a2]; rfl), trivial⟩
  conv => whnf
  refine CallK.go [] (f35 l 0 hl) rfl rfl rfl rfl rfl ?_
  conv => whnf
  refine CallK.lent (f355 (scopeOf l 0) d.head (scope_ok hl.ok 0) hd.1) rfl ?_
  conv => whnf
  refine ⟨rfl, ?_⟩
  conv => whnf
  refine ⟨fun a3 => ?_, fun a3 => ?_⟩
  · have a3 := nott a3
    conv => whnf
    exact ⟨[], _, _, _, rfl, rfl, rfl, RepLe.bl (by unfold docRight; rw [a1, a2, a3]; rfl), trivial⟩
  have a3 := notf a3
  conv => whnf
  refine CallK.go [] (f35 l 1 hl) rfl rfl rfl rfl rfl ?_
  conv => whnf
  refine AW.loop (X := Nat) (fun i => told 73 [(3, .pt 0 0), (5, .p (encFields (scopeOf l 1))), (6, vI .i64 (i : Int))] [(0, some (.box 61 ((docCells d).map .p)))] [0]) (fun i => i ≤ d.rows.length ∧ docRight l d = allUpto (docStep (scopeOf l 1) d) (d.rows.length - i) i) (fun i => d.rows.length - i) (used0 hG _) 0 ⟨by omega, by unfold docRight; rw [a1, a2, a3]; rfl⟩ (stleF (t := 5) rfl rfl (stle ⟨RepLe.refl _, RepLe.refl _, RepLe.refl _, trivial⟩ ⟨⟨_, rfl, BlkLe.refl _⟩, trivial⟩ rfl)) ?_
  rintro i ⟨hi, hr⟩
  refine codeK_aw hT hM _ _ _ ?_
  conv => whnf
  refine ⟨fun h4 => ?_, fun h4 => ?_⟩
  · have hlt : i < d.rows.length := by rw [iLt_t] at h4; omega
    rw [allUpto_step _ hlt] at hr
    conv => whnf
    refine ⟨by omega, ?_⟩
    conv => whnf
    refine CallK.lent (f109 (d.rows.getD i noRow).item) rfl ?_
    conv => whnf
    refine ⟨fun n1 => ?_, fun n1 => ?_⟩
    · have n1 := nott n1
      conv => whnf
      refine ⟨rfl, ?_⟩
      conv => whnf
      exact ⟨[], _, _, _, rfl, rfl, rfl, RepLe.bl (by rw [hr]; unfold docStep; rw [n1]; rfl), trivial⟩
    have n1 := notf n1
    conv => whnf
    refine ⟨fun p1 => ?_, fun p1 => ?_⟩
    · have hpos : 0 < i := by rw [iLt_t] at p1; omega
      conv => whnf
      intro z hz
      have hw := wrap64_eq hz (by omega) (by omega)
      clear hz
      have hy : z = ((i - 1 : Nat) : Int) := by omega
      clear hw
      subst hy
      conv => whnf
      refine ⟨by omega, ?_⟩
      conv => whnf
      refine ⟨by omega, ?_⟩
      conv => whnf
      refine ⟨fun s1 => ?_, fun s1 => ?_⟩
      · have s1 : itemsStep d i = false := by unfold itemsStep; rw [decide_eq_true hpos]; exact nott s1
        conv => whnf
        refine ⟨rfl, ?_⟩
        conv => whnf
        exact ⟨[], _, _, _, rfl, rfl, rfl, RepLe.bl (by rw [hr]; unfold docStep; rw [n1, s1]; rfl), trivial⟩
      have s1 : itemsStep d i = true := by unfold itemsStep; rw [decide_eq_true hpos]; exact notf s1
      conv => whnf
      refine ⟨by omega, ?_⟩
      conv => whnf
      refine CallK.lent (f355 (scopeOf l 1) (d.rows.getD i noRow).l (scope_ok hl.ok 1) (hd.row i)) rfl ?_
      conv => whnf
      refine ⟨rfl, ?_⟩
      conv => whnf
      refine ⟨fun e1 => ?_, fun e1 => ?_⟩
      · have e1 := nott e1
        conv => whnf
        exact ⟨[], _, _, _, rfl, rfl, rfl, RepLe.bl (by rw [hr]; unfold docStep; rw [n1, s1, e1]; rfl), trivial⟩
      have e1 := notf e1
      have hs : docStep (scopeOf l 1) d i = true := by unfold docStep; rw [n1, s1, e1]; rfl
      rw [hs] at hr
      conv => whnf
      intro z hz
      have hy := wrap64_eq hz (by omega) (by omega)
      clear hz
      subst hy
      conv => whnf
      exact ⟨i + 1, ⟨by omega, hr⟩, by omega, stle ⟨RepLe.refl _, RepLe.refl _, RepLe.of rfl, trivial⟩ ⟨⟨_, rfl, BlkLe.refl _⟩, trivial⟩ rfl⟩
    have hz : i = 0 := by rw [iLt_f] at p1; omega
    have s1 : itemsStep d i = true := by unfold itemsStep; rw [hz]; rfl
    conv => whnf
    refine ⟨by omega, ?_⟩
    conv => whnf
    refine CallK.lent (f355 (scopeOf l 1) (d.rows.getD i noRow).l (scope_ok hl.ok 1) (hd.row i)) rfl ?_
    conv => whnf
    refine ⟨rfl, ?_⟩
    conv => whnf
    refine ⟨fun e1 => ?_, fun e1 => ?_⟩
    · have e1 := nott e1
      conv => whnf
      exact ⟨[], _, _, _, rfl, rfl, rfl, RepLe.bl (by rw [hr]; unfold docStep; rw [n1, s1, e1]; rfl), trivial⟩
    have e1 := notf e1
    have hs : docStep (scopeOf l 1) d i = true := by unfold docStep; rw [n1, s1, e1]; rfl
    rw [hs] at hr
    conv => whnf
    intro z hz
    have hy := wrap64_eq hz (by omega) (by omega)
    clear hz
    subst hy
    conv => whnf
    exact ⟨i + 1, ⟨by omega, hr⟩, by omega, stle ⟨RepLe.refl _, RepLe.refl _, RepLe.of rfl, trivial⟩ ⟨⟨_, rfl, BlkLe.refl _⟩, trivial⟩ rfl⟩
  have hge : i = d.rows.length := by rw [iLt_f] at h4; omega
  subst hge
  conv => whnf
  exact ⟨[], _, _, _, rfl, rfl, rfl, RepLe.bl (by rw [hr, allUpto_end]), trivial⟩
end Go.Proofs.YtalpbdabeffnlaaGreat

/- Documents: the entry of a place, and what lenses ask of it. -/
set_option linter.unusedVariables false
set_option linter.unusedSimpArgs false
namespace Go.Proofs.YtalpbdabeffnlaaGreat
open Go Go.Av Go.Fl
set_option maxRecDepth 100000

theorem fits_ref {f : SField} {e : SEntry} (h : fitsEntry f e = true) : fieldOk f = true ∧ e.place = f.place := by
  unfold fitsEntry at h
  rw [Bool.and_eq_true, Bool.and_eq_true] at h
  exact ⟨h.1, same_ref.1 h.2.1⟩
theorem scope_mem {l : List SField} {s : Int} {f : SField} : f ∈ scopeOf l s ↔ f ∈ l ∧ f.place.scope = s := by
  unfold scopeOf
  rw [List.mem_filter, iEq_t]
theorem entries_at {l : List SField} {es : List SEntry} (h : entriesOk l es = true) {i : Nat} (hi : i < l.length) : fitsEntry (l.getD i noField) (es.getD i noEntry) = true := by
  unfold entriesOk at h
  rw [Bool.and_eq_true, allUpto_iff] at h
  exact h.2 i (Nat.zero_le _) (by omega)
theorem entries_len {l : List SField} {es : List SEntry} (h : entriesOk l es = true) : l.length = es.length := by
  unfold entriesOk at h
  rw [Bool.and_eq_true, decide_eq_true_eq] at h
  exact h.1
theorem place_one {l : List SField} (h : rightFields l = true) {f g : SField} (hf : f ∈ l) (hg : g ∈ l) (e : f.place = g.place) : f = g := by
  obtain ⟨a, ha, ea⟩ := find_mem h hf
  obtain ⟨b, hb, eb⟩ := find_mem h hg
  rw [e, hb] at ha
  rw [← ea, ← eb, Option.some.inj ha]
/-- The entry of a field that is there. -/
theorem entry_at {l : List SField} {s : Int} {es : List SEntry} (h : rightFields l = true) (he : entriesOk (scopeOf l s) es = true) {f : SField} (hf : f ∈ l) (hs : f.place.scope = s) :
    ∃ e, atF es f.place = (e, true) ∧ fitsEntry f e = true := by
  obtain ⟨i, hi, ei⟩ := getD_mem (scope_mem.2 ⟨hf, hs⟩)
  have hlen := entries_len he
  have h1 := entries_at he hi
  rw [ei] at h1
  have h2 := (fits_ref h1).2
  cases q : entryIn es f.place with
  | none =>
    have := findUpto_none _ _ _ q i (Nat.zero_le _) (by omega)
    rw [h2, sameRef_self] at this
    cases this
  | some j =>
    obtain ⟨_, hj, hp, _⟩ := findUpto_some _ _ _ _ q
    have hj : j < es.length := by omega
    have h3 := entries_at he (i := j) (by omega)
    have h4 := (fits_ref h3).2
    have h5 := same_ref.1 hp
    have hm := scope_mem.1 (at_mem (l := scopeOf l s) (j := j) (by omega))
    have : (scopeOf l s).getD j noField = f := place_one h hm.1 hf (by rw [← h4, h5])
    refine ⟨es.getD j noEntry, ?_, by rw [this] at h3; exact h3⟩
    unfold atF; rw [q]
/-- The i-th entry is its field's. -/
theorem entry_is {l : List SField} {s : Int} {es : List SEntry} (h : rightFields l = true) (he : entriesOk (scopeOf l s) es = true) {i : Nat} (hi : i < (scopeOf l s).length) :
    (atF es ((scopeOf l s).getD i noField).place).1 = es.getD i noEntry := by
  have hlen := entries_len he
  have h1 := entries_at he hi
  have h2 := (fits_ref h1).2
  cases q : entryIn es ((scopeOf l s).getD i noField).place with
  | none =>
    have := findUpto_none _ _ _ q i (Nat.zero_le _) (by omega)
    rw [h2, sameRef_self] at this
    cases this
  | some j =>
    obtain ⟨_, hj, hp, hmin⟩ := findUpto_some _ _ _ _ q
    have hj : j < es.length := by omega
    have h3 := entries_at he (i := j) (by omega)
    have h4 := (fits_ref h3).2
    have h5 := same_ref.1 hp
    have hm := scope_mem.1 (at_mem (l := scopeOf l s) (j := j) (by omega))
    have hm2 := scope_mem.1 (at_mem hi)
    have e : (scopeOf l s).getD j noField = (scopeOf l s).getD i noField := place_one h hm.1 hm2.1 (by rw [← h4, h5])
    have hij : j = i := by
      rcases Nat.lt_trichotomy j i with hlt | heq | hgt
      · exfalso
        have hp := (right_pairs h).filter (fun f => iEq f.place.scope s)
        have := List.pairwise_iff_getElem.1 hp j i (by show j < (scopeOf l s).length; omega) hi hlt
        have e1 : (scopeOf l s)[j]'(by omega) = (scopeOf l s).getD j noField := by rw [List.getD_eq_getElem?_getD, List.getElem?_eq_getElem (by omega)]; rfl
        have e2 : (scopeOf l s)[i]'hi = (scopeOf l s).getD i noField := by rw [List.getD_eq_getElem?_getD, List.getElem?_eq_getElem hi]; rfl
        have this : lessRef ((scopeOf l s)[j]'(by omega)).place ((scopeOf l s)[i]'hi).place = true := this
        rw [e1, e2, e, less_irrefl] at this
        cases this
      · exact heq
      · exfalso
        have := hmin i (Nat.zero_le _) hgt
        rw [h2, sameRef_self] at this
        cases this
    unfold atF; rw [q, hij]
def lensScope (x : SLens) : Int := if iEq x.kind 2 || iEq x.kind 3 then x.field.place.scope else x.place.scope
theorem scope_goes {x : SLens} {r : SRef} (h : r ∈ goesOf x) : r.scope = lensScope x := by
  unfold goesOf at h
  unfold lensScope
  generalize lensOk x = ok at h
  generalize iEq x.kind 2 = k2 at h ⊢
  generalize iEq x.kind 3 = k3 at h ⊢
  generalize iEq x.kind 9 = k9 at h
  cases ok <;> cases k2 <;> cases k3 <;> cases k9 <;> simp [twoOf] at h ⊢ <;> (first | (rw [h]) | (rcases h with rfl | rfl <;> rfl))
theorem scope_comes {x : SLens} {r : SRef} (h : r ∈ comesOf x) : r.scope = lensScope x := by
  unfold comesOf at h
  unfold lensScope
  generalize lensOk x = ok at h
  generalize iEq x.kind 2 = k2 at h ⊢
  generalize iEq x.kind 3 = k3 at h ⊢
  generalize iEq x.kind 1 = k1 at h
  generalize iEq x.kind 4 = k4 at h
  generalize iEq x.kind 5 = k5 at h
  generalize iEq x.kind 6 = k6 at h
  cases ok <;> cases k2 <;> cases k3 <;> cases k1 <;> cases k4 <;> cases k5 <;> cases k6 <;> simp [twoOf] at h ⊢ <;> (first | (rw [h]) | (rcases h with rfl | rfl <;> rfl))
/-- The first two of those that go. -/
theorem went_at {l : List SField} {x : SLens} {s : Int} {es : List SEntry} (h0 : (applyF l x).2 = 0) (he : entriesOk (scopeOf l s) es = true) (hs : lensScope x = s) {i : Nat} (hi : i < (goesOf x).length) :
    ∃ f, f ∈ l ∧ f.place = (goesOf x).getD i noRef ∧ (fieldAt l (placeIn l ((goesOf x).getD i noRef))).1 = f ∧ fitsEntry f ((wentP x es).getD i noEntry) = true := by
  obtain ⟨hx, hl⟩ := apply_ok h0
  obtain ⟨rest, was, ht, _⟩ := apply_parts h0
  obtain ⟨_, w2⟩ := take_was _ _ _ _ ht
  have hm : (goesOf x).getD i noRef ∈ goesOf x := by rw [List.getD_eq_getElem?_getD, List.getElem?_eq_getElem hi]; exact List.getElem_mem hi
  obtain ⟨j, hj⟩ := w2 _ hm
  obtain ⟨h1, h2⟩ := place_some hj
  obtain ⟨e, h3, h4⟩ := entry_at hl he h1 (by rw [h2, scope_goes hm, hs])
  refine ⟨l.getD j noField, h1, h2, by rw [hj]; rfl, ?_⟩
  rw [wentP_at x es hi, ← h2, h3]
  exact h4
theorem factor_of {x : SLens} (h : lensOk x = true) (k : iEq x.kind 6 = true ∨ iEq x.kind 9 = true) : 2 ≤ x.factor ∧ x.factor ≤ 1000 := by
  unfold lensOk restOk kindOk at h
  simp only [Bool.and_eq_true] at h
  have h := h.2.2.2
  rcases k with k | k <;> (
    rw [kinds _ k 2 (by decide), kinds _ k 3 (by decide)] at h
    have h : (placeOk x.place && _) = true := h
    rw [Bool.and_eq_true] at h
    have h := h.2
    rw [kinds _ k 1 (by decide), kinds _ k 4 (by decide), kinds _ k 5 (by decide), k] at h
    simp only [Bool.or_true, Bool.true_or, if_true, Bool.false_eq_true, if_false, Bool.and_eq_true, factorOk, iLe_t] at h
    exact ⟨h.2.2.2.1, h.2.2.2.2⟩)
theorem whole_of {f : SField} {e : SEntry} (h : fitsEntry f e = true) (k : iEq f.kind 1 = true) : whole e.n ∧ e.texts = [] := by
  unfold fitsEntry at h
  rw [k] at h
  simp only [if_true, Bool.and_eq_true, iLe_t, iEq_t] at h
  refine ⟨by unfold whole; omega, List.length_eq_zero_iff.1 (by omega)⟩
theorem text_of {f : SField} {e : SEntry} (h : fitsEntry f e = true) (k1 : iEq f.kind 1 = false) (k4 : iEq f.kind 4 = false) : e.n = 0 ∧ e.texts = [txt0 e] ∧ fitsText f (txt0 e) = true := by
  unfold fitsEntry at h
  rw [k1, k4] at h
  simp only [Bool.false_eq_true, if_false, Bool.false_or, Bool.and_eq_true, iEq_t, allUpto_iff] at h
  have hl : e.texts.length = 1 := by omega
  refine ⟨h.2.2.1, ?_, h.2.2.2.2.2 0 (Nat.zero_le _) (by omega)⟩
  obtain ⟨a, ha⟩ := one_len hl
  unfold txt0
  rw [ha]; rfl
theorem list_of {f : SField} {e : SEntry} (h : fitsEntry f e = true) (k4 : iEq f.kind 4 = true) : e.n = 0 ∧ e.texts.length ≤ 400 ∧ ∀ i, i < e.texts.length → fitsText f (e.texts.getD i noS) = true := by
  unfold fitsEntry at h
  rw [kinds _ k4 1 (by decide), k4] at h
  simp only [Bool.false_eq_true, if_false, Bool.true_or, Bool.true_and, Bool.and_eq_true, iEq_t, allUpto_iff, Bool.not_eq_true', iLt_f] at h
  exact ⟨h.2.2.1, by have := h.2.2.2.1; omega, fun i hi => h.2.2.2.2 i (Nat.zero_le _) (by omega)⟩
/-- What the lens asks is there. -/
theorem come_ok {l : List SField} {x : SLens} {s : Int} {es : List SEntry} (h0 : (applyF l x).2 = 0) (he : entriesOk (scopeOf l s) es = true) (hs : lensScope x = s) : comeOk x (wentP x es) := by
  obtain ⟨hx, hl⟩ := apply_ok h0
  obtain ⟨rest, was, ht, hb, _⟩ := apply_parts h0
  obtain ⟨hwas, _⟩ := take_was _ _ _ _ ht
  have hwas : was = (goesOf x).map (fun r => (fieldAt l (placeIn l r)).1) := by simpa using hwas
  have hlen := goes_len hx
  refine ⟨fun k => ?_, fun k => ?_, fun k => ?_⟩
  · have hg : goesOf x = [x.place] := goes_one hx (kinds _ k 2 (by decide)) (kinds _ k 3 (by decide)) (kinds _ k 9 (by decide))
    obtain ⟨f, _, _, h3, h4⟩ := went_at h0 he hs (i := 0) (by rw [hg]; exact Nat.zero_lt_one)
    rw [hg] at hwas h3
    have hw : w0 was = f := by rw [hwas]; exact h3
    unfold turnedOf at hb
    rw [kinds _ k 2 (by decide), kinds _ k 3 (by decide), kinds _ k 6 (by decide), kinds _ k 9 (by decide), k, hw] at hb
    have hb : (iEq f.kind 2 && sEq f.dflt x.other) = true := hb
    rw [Bool.and_eq_true] at hb
    have := (text_of h4 (kinds _ hb.1 1 (by decide)) (kinds _ hb.1 4 (by decide))).2.1
    show 0 < ((wentP x es).getD 0 noEntry).texts.length
    rw [this]; exact Nat.zero_lt_one
  · have hg : goesOf x = [x.place] := goes_one hx (kinds _ k 2 (by decide)) (kinds _ k 3 (by decide)) (kinds _ k 9 (by decide))
    obtain ⟨f, _, _, h3, h4⟩ := went_at h0 he hs (i := 0) (by rw [hg]; exact Nat.zero_lt_one)
    rw [hg] at hwas h3
    have hw : w0 was = f := by rw [hwas]; exact h3
    unfold turnedOf at hb
    rw [kinds _ k 2 (by decide), kinds _ k 3 (by decide), kinds _ k 6 (by decide), kinds _ k 9 (by decide), kinds _ k 7 (by decide), kinds _ k 10 (by decide), k, hw] at hb
    have hb : (iEq f.kind 3 && (sEq f.dflt x.name && sameStrs f.cases (fromsOf x.forth))) = true := hb
    rw [Bool.and_eq_true] at hb
    have := (text_of h4 (kinds _ hb.1 1 (by decide)) (kinds _ hb.1 4 (by decide))).2.1
    show 0 < ((wentP x es).getD 0 noEntry).texts.length
    rw [this]; exact Nat.zero_lt_one
  · have hg : goesOf x = twoOf x := by unfold goesOf; rw [hx, kinds _ k 2 (by decide), kinds _ k 3 (by decide), k]; rfl
    obtain ⟨f, _, _, h3, h4⟩ := went_at h0 he hs (i := 0) (by rw [hg]; exact (show 0 < 2 by decide))
    obtain ⟨g, _, _, g3, g4⟩ := went_at h0 he hs (i := 1) (by rw [hg]; exact (show 1 < 2 by decide))
    rw [hg] at hwas h3 g3
    have hw : w0 was = f := by rw [hwas]; exact h3
    have hw1 : w1 was = g := by rw [hwas]; exact g3
    unfold turnedOf at hb
    rw [kinds _ k 2 (by decide), kinds _ k 3 (by decide), kinds _ k 6 (by decide), k, hw, hw1] at hb
    have hb : (iEq f.kind 1 && (iEq g.kind 1 && iEq g.worth (wrapO .i64 (f.worth * x.factor)))) = true := hb
    rw [Bool.and_eq_true, Bool.and_eq_true] at hb
    exact ⟨(whole_of h4 hb.1).1, (whole_of g4 hb.2.1).1, factor_of hx (.inr k)⟩
theorem come_okR {l : List SField} {x : SLens} {s : Int} {es : List SEntry} (h0 : (applyF l x).2 = 0) (he : entriesOk (scopeOf l s) es = true) (hs : lensScope x = s) : comeOkR x es := by
  obtain ⟨hx, hl⟩ := apply_ok h0
  obtain ⟨a, b, c⟩ := come_ok h0 he hs
  have e0' : iEq x.kind 2 = false → e0 (wentP x es) = g0 x es := fun h => by
    unfold e0 g0
    rw [goes2_eq hx, wentP_at x es (by rw [← goes2_eq hx]; exact goes_pos h)]
  have e1' : iEq x.kind 9 = true → e1 (wentP x es) = g1 x es := fun h => by
    unfold e1 g1
    rw [goes2_eq hx, wentP_at x es (by rw [← goes2_eq hx]; exact goes_two h)]
  refine ⟨fun k => ?_, fun k => ?_, fun k => ?_⟩
  · rw [← e0' (kinds _ k 2 (by decide))]; exact a k
  · rw [← e0' (kinds _ k 2 (by decide))]; exact b k
  · rw [← e0' (kinds _ k 2 (by decide)), ← e1' k]; exact c k
end Go.Proofs.YtalpbdabeffnlaaGreat

/- A scope of many labels. -/
set_option linter.unusedVariables false
set_option linter.unusedSimpArgs false
namespace Go.Av
open Go Go.RowKit
set_option maxRecDepth 100000
section
variable {P : Program} {G : Gh} {Q : Exit → St → Prop} {σ : St}
def gotoN (J : Nat → St → Prop) (Q : Exit → St → Prop) : Exit → St → Prop
  | .goto l', σ => J l' σ
  | e, σ => Q e σ
theorem AW.scopes {c : Code} {X : Type} (lab : X → Nat) (rest : X → Code) (S : X → St) (J : X → Prop) (μ : X → Nat) (hu : ∀ x, UsOk G (S x).us) (hf : ∀ x, findLabel c (lab x) = some (rest x))
    (first : AW P G c (gotoN (fun l σ' => ∃ x, J x ∧ lab x = l ∧ StLe σ' (S x)) Q) σ)
    (pass : ∀ x, J x → AW P G (rest x) (gotoN (fun l σ' => ∃ x', J x' ∧ lab x' = l ∧ μ x' < μ x ∧ StLe σ' (S x')) Q) (S x)) : AW P G (.scope c) Q σ := by
  unfold AW at first pass ⊢
  intro a w hi b k cs
  have hg : ∀ x, gotoIn (lab x) (.inScope c :: k) = some (.code (rest x) :: .inScope c :: k) := fun x => by simp [gotoIn, hf x]
  have fin : ∀ (m : Machine) (Jn : Nat → St → Prop), (∃ e a₁ w₁, (∃ σ', Inv G σ' a₁ w₁ ∧ gotoN Jn Q e σ') ∧ Arrives P m b (.inScope c :: k) cs e a₁ w₁) →
      (∀ l σ' a₁ w₁, Inv G σ' a₁ w₁ → Jn l σ' → ∃ x, lab x = l ∧ ∃ e a' w', (∃ σ', Inv G σ' a' w' ∧ Q e σ') ∧ Arrives P (lone (b.at a₁ (.code (rest x) :: .inScope c :: k)) cs w₁) b k cs e a' w') →
      ∃ e a' w', (∃ σ', Inv G σ' a' w' ∧ Q e σ') ∧ Arrives P m b k cs e a' w' := by
    rintro m Jn ⟨e, a₁, w₁, ⟨σ', h1, h2⟩, harr⟩ hj
    cases e with
    | normal => exact ⟨.normal, a₁, w₁, ⟨σ', h1, h2⟩, Steps.trans harr (.one step_inScope)⟩
    | exit id => exact ⟨.exit id, a₁, w₁, ⟨σ', h1, h2⟩, fun k' hk => harr k' (by simp [exitTo, hk])⟩
    | goto l' =>
      have h2 : Jn l' σ' := h2
      obtain ⟨x, hx, e₂, a₂, w₂, hq₂, harr₂⟩ := hj l' σ' a₁ w₁ h1 h2
      subst hx
      exact ⟨e₂, a₂, w₂, hq₂, .of_steps (harr _ (hg x)) harr₂⟩
    | ret => exact ⟨_, a₁, w₁, ⟨σ', h1, h2⟩, harr⟩
    | panic ch => exact ⟨_, a₁, w₁, ⟨σ', h1, h2⟩, harr⟩
    | outgrown => exact ⟨_, a₁, w₁, ⟨σ', h1, h2⟩, harr⟩
  have key : ∀ n x a w, μ x < n → J x → Inv G (S x) a w → ∃ e a' w', (∃ σ', Inv G σ' a' w' ∧ Q e σ') ∧ Arrives P (lone (b.at a (.code (rest x) :: .inScope c :: k)) cs w) b k cs e a' w' := by
    intro n
    induction n with
    | zero => intro x a w hx; omega
    | succ n ih =>
      intro x a w hx hJ hi
      refine fin _ _ (pass x hJ a w hi b (.inScope c :: k) cs) ?_
      rintro l σ' a₁ w₁ h1 ⟨x', h3, hl, h4, h5⟩
      exact ⟨x', hl, ih x' a₁ w₁ (by omega) h3 (h5 G a₁ w₁ h1 (hu x'))⟩
  obtain ⟨e, a₁, w₁, hq, harr⟩ := fin _ _ (first a w hi b (.inScope c :: k) cs) (by
    rintro l σ' a₁ w₁ h1 ⟨x', h3, hl, h5⟩
    exact ⟨x', hl, key _ x' a₁ w₁ (Nat.lt_succ_self _) h3 (h5 G a₁ w₁ h1 (hu x'))⟩)
  exact ⟨e, a₁, w₁, hq, .of_steps (.one step_scope) harr⟩
theorem AW.labels {c : Code} {X : Type} (lab : X → Nat) (S : X → St) (J : X → Prop) (μ : X → Nat) (hu : ∀ x, UsOk G (S x).us) (hf : ∀ x, (findLabel c (lab x)).isSome = true)
    (first : AW P G c (gotoN (fun l σ' => ∃ x, J x ∧ lab x = l ∧ StLe σ' (S x)) Q) σ)
    (pass : ∀ x, J x → AW P G ((findLabel c (lab x)).getD .skip) (gotoN (fun l σ' => ∃ x', J x' ∧ lab x' = l ∧ μ x' < μ x ∧ StLe σ' (S x')) Q) (S x)) : AW P G (.scope c) Q σ :=
  AW.scopes lab (fun x => (findLabel c (lab x)).getD .skip) S J μ hu (fun x => by
    have := hf x
    cases q : findLabel c (lab x) with
    | none => rw [q] at this; cases this
    | some r => rfl) first pass
end
end Go.Av
