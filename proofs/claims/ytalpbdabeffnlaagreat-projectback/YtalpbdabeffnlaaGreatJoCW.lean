import Derived.Test.YtalpbdabeffnlaaGreatJoBL
import Derived.Test.YtalpbdabeffnlaaGreatJoAH
import Derived.Test.YtalpbdabeffnlaaGreatJoBE
/- What an op is worth stays: plain law. -/
set_option linter.unusedVariables false
set_option linter.unusedSimpArgs false
namespace Go.Proofs.YtalpbdabeffnlaaGreat
open Go Go.Av
set_option maxRecDepth 100000

theorem take_was {l : List SField} : ∀ (gs : List SRef) (rest was : List SField) (p : List SField × List SField), takeAll l gs rest was = some p →
    p.2 = was ++ gs.map (fun r => (fieldAt l (placeIn l r)).1) ∧ ∀ r ∈ gs, ∃ j, placeIn l r = some j
  | [], rest, was, p, h => by
    have h : some (rest, was) = some p := h
    obtain rfl := Option.some.inj h
    exact ⟨by simp, fun r hr => by simp at hr⟩
  | g :: gs, rest, was, p, h => by
    unfold takeAll at h
    cases q : placeIn l g with
    | none => rw [q] at h; cases h
    | some j =>
      rw [q] at h
      have h : takeAll l gs (withoutF rest g).1 (was ++ [l.getD j noField]) = some p := h
      obtain ⟨a, b⟩ := take_was gs _ _ p h
      refine ⟨?_, fun r hr => ?_⟩
      · rw [a, List.map_cons, q, List.append_assoc]; rfl
      · rcases List.mem_cons.1 hr with rfl | hr
        · exact ⟨j, q⟩
        · exact b r hr
theorem put_fresh : ∀ (cs : List SRef) (now rest : List SField), (putAll cs now rest).2 = 0 → rightFields rest = true → ∀ r ∈ cs, placeIn rest r = none
  | [], now, rest, _, _, r, hr => by simp at hr
  | c :: cs, now, rest, h, hr, r, hrc => by
    unfold putAll at h
    cases q : iEq (withF rest { now.getD 0 noField with place := c }).2 0 with
    | false => rw [q] at h; exact absurd h (show ¬ (16 : Int) = 0 by decide)
    | true =>
      rw [q] at h
      obtain ⟨_, hf, hp, h15, e⟩ := with_zero q
      have h : (putAll cs (now.drop 1) (withF rest { now.getD 0 noField with place := c }).1).2 = 0 := h
      rw [e] at h
      rcases List.mem_cons.1 hrc with rfl | hrc
      · exact hp
      · have hr2 := put_right hr hf hp h15
        have := put_fresh cs _ _ h hr2 r hrc
        cases q2 : placeIn rest r with
        | none => rfl
        | some k =>
          obtain ⟨hk, hkp⟩ := place_some q2
          obtain ⟨j, hj, _⟩ := find_mem hr2 (put_mem (f := { now.getD 0 noField with place := c }) (.inl hk))
          rw [hkp] at hj
          have this : placeIn (putIn rest { now.getD 0 noField with place := c }) r = none := this
          rw [hj] at this; cases this
/-- What a lens that fits has done. -/
theorem apply_parts {l : List SField} {x : SLens} (h0 : (applyF l x).2 = 0) : ∃ rest was, takeAll l (goesOf x) l [] = some (rest, was) ∧ (turnedOf x was).2 = true ∧ (applyF l x).1 = (putAll (comesOf x) (turnedOf x was).1 rest).1 ∧
    (putAll (comesOf x) (turnedOf x was).1 rest).2 = 0 ∧ rightFields rest = true := by
  obtain ⟨hx, hl⟩ := apply_ok h0
  unfold applyF at h0 ⊢
  rw [hl, hx] at h0 ⊢
  cases ht : takeAll l (goesOf x) l [] with
  | none => rw [ht] at h0; exact absurd h0 (show ¬ (16 : Int) = 0 by decide)
  | some p =>
    obtain ⟨rest, was⟩ := p
    rw [ht] at h0
    have h0 : (if (turnedOf x was).2 = true then putAll (comesOf x) (turnedOf x was).1 rest else ([], 16)).2 = 0 := h0
    cases hb : (turnedOf x was).2 with
    | false => rw [hb] at h0; exact absurd h0 (show ¬ (16 : Int) = 0 by decide)
    | true =>
      rw [if_pos hb] at h0
      obtain ⟨_, b, _⟩ := take_keeps _ _ _ _ ht hl (goes_nodup hx) (fun f hf _ => hf)
      refine ⟨rest, was, rfl, hb, ?_, h0, b⟩
      show (if (turnedOf x was).2 = true then putAll (comesOf x) (turnedOf x was).1 rest else ([], 16)).1 = _
      rw [if_pos hb]
theorem comes_fresh {l : List SField} {x : SLens} (h0 : (applyF l x).2 = 0) {r : SRef} (hc : r ∈ comesOf x) (hg : r ∉ goesOf x) : placeIn l r = none := by
  obtain ⟨hx, hl⟩ := apply_ok h0
  obtain ⟨rest, was, ht, hb, e, hp, hr⟩ := apply_parts h0
  obtain ⟨_, _, c⟩ := take_keeps _ _ _ _ ht hl (goes_nodup hx) (fun f hf _ => hf)
  have hn := put_fresh _ _ _ hp hr r hc
  cases q : placeIn l r with
  | none => rfl
  | some k =>
    obtain ⟨hk, hkp⟩ := place_some q
    obtain ⟨j, hj, _⟩ := find_mem hr ((c _).2 ⟨hk, by rw [hkp]; exact hg⟩)
    rw [hkp, hn] at hj; cases hj
/-- The first field that comes. -/
theorem apply_first {l : List SField} {x : SLens} (h0 : (applyF l x).2 = 0) {c : SRef} {cs : List SRef} (hc : comesOf x = c :: cs) :
    ∃ was, was = (goesOf x).map (fun r => (fieldAt l (placeIn l r)).1) ∧ (turnedOf x was).2 = true ∧ (∀ r ∈ goesOf x, ∃ j, placeIn l r = some j) ∧
      fieldAt (applyF l x).1 (placeIn (applyF l x).1 c) = ({ (turnedOf x was).1.getD 0 noField with place := c }, 0) := by
  obtain ⟨rest, was, ht, hb, e, hp, hr⟩ := apply_parts h0
  obtain ⟨w1, w2⟩ := take_was _ _ _ _ ht
  have hm := apply_right h0
  refine ⟨was, by simpa using w1, hb, w2, ?_⟩
  have hin : ({ (turnedOf x was).1.getD 0 noField with place := c } : SField) ∈ (applyF l x).1 := by
    rw [e, hc]
    rw [hc] at hp
    unfold putAll at hp ⊢
    cases q : iEq (withF rest { (turnedOf x was).1.getD 0 noField with place := c }).2 0 with
    | false => rw [q] at hp; exact absurd hp (show ¬ (16 : Int) = 0 by decide)
    | true =>
      rw [q] at hp
      obtain ⟨_, hf, hpn, h15, e2⟩ := with_zero q
      have hp : (putAll cs ((turnedOf x was).1.drop 1) (withF rest { (turnedOf x was).1.getD 0 noField with place := c }).1).2 = 0 := hp
      show _ ∈ (putAll cs ((turnedOf x was).1.drop 1) (withF rest { (turnedOf x was).1.getD 0 noField with place := c }).1).1
      rw [e2] at hp ⊢
      exact (put_keeps _ _ _ hp (put_right hr hf hpn h15)).2.2.2 _ (put_mem (.inr rfl))
  obtain ⟨j, hj, e3⟩ := find_mem hm hin
  have hj : placeIn (applyF l x).1 c = some j := hj
  rw [hj]
  show ((applyF l x).1.getD j noField, (0 : Int)) = _
  rw [e3]
theorem idx_mem {l : List SRef} {r : SRef} : idxRef l r = none ↔ r ∉ l := by
  constructor
  · intro h hr
    obtain ⟨i, hi, e⟩ := List.getElem_of_mem hr
    have := findUpto_none _ _ _ h i (Nat.zero_le _) (by omega)
    rw [List.getD_eq_getElem?_getD, List.getElem?_eq_getElem hi, show ((some l[i]).getD noRef : SRef) = r from e, sameRef_self] at this
    cases this
  · intro h
    cases q : idxRef l r with
    | none => rfl
    | some i =>
      obtain ⟨_, hi, hp, _⟩ := findUpto_some _ _ _ _ q
      have hi : i < l.length := by omega
      have := same_ref.1 hp
      rw [List.getD_eq_getElem?_getD, List.getElem?_eq_getElem hi] at this
      exact absurd (show r ∈ l from this ▸ List.getElem_mem hi) h
theorem idx_at {l : List SRef} {r : SRef} {i : Nat} (h : idxRef l r = some i) : i < l.length ∧ l.getD i noRef = r := by
  obtain ⟨_, hi, hp, _⟩ := findUpto_some _ _ _ _ h
  exact ⟨by omega, (same_ref.1 hp).symm⟩
/-- An op's place that a lens does not touch. -/
theorem untouched {l : List SField} {x : SLens} (h0 : (applyF l x).2 = 0) {r : SRef} {j : Nat} (hj : placeIn l r = some j) (hg : r ∉ goesOf x) : fieldAt (applyF l x).1 (placeIn (applyF l x).1 r) = fieldAt l (placeIn l r) := by
  refine (apply_keeps h0).2.2 r hg fun hc => ?_
  rw [comes_fresh h0 hc hg] at hj; cases hj
theorem pack_ok {n v : Int} (h1 : 1 ≤ v) (h2 : v ≤ 1048576) (h3 : (n * v).natAbs ≤ 4503599627370496) : packWorth n v = (n * v, 0) := by
  have wid : ∀ n : Int, -9223372036854775808 ≤ n → n ≤ 9223372036854775807 → wrapO .i64 n = n := fun n a b => wrap64_eq rfl a b
  have hs := quo_small h1
  have hq : quoI 4503599627370496 v = 4503599627370496 / v := by
    have : (4503599627370496 : Int).tdiv v = 4503599627370496 / v := Int.tdiv_eq_ediv_of_nonneg (by decide)
    have a := Int.ediv_nonneg (a := 4503599627370496) (b := v) (by decide) (by omega)
    have b := Int.ediv_le_self (a := 4503599627370496) v (by decide)
    unfold quoI; rw [this, wid _ (by omega) (by omega)]
  have hq2 : quoI (-4503599627370496) v = -(4503599627370496 / v) := by
    have : (-4503599627370496 : Int).tdiv v = -(4503599627370496 / v) := by rw [show (-4503599627370496 : Int) = -4503599627370496 from rfl, Int.neg_tdiv, Int.tdiv_eq_ediv_of_nonneg (by decide)]
    have a := Int.ediv_nonneg (a := 4503599627370496) (b := v) (by decide) (by omega)
    have b := Int.ediv_le_self (a := 4503599627370496) v (by decide)
    unfold quoI; rw [this, wid _ (by omega) (by omega)]
  have u1 : n ≤ 4503599627370496 / v := (Int.le_ediv_iff_mul_le (by omega)).2 (by omega)
  have u2 : -n ≤ 4503599627370496 / v := (Int.le_ediv_iff_mul_le (by omega)).2 (by rw [Int.neg_mul]; omega)
  unfold packWorth
  rw [iLt_f.2 (show 1 ≤ v from h1), iLt_f.2 (show v ≤ 1048576 from h2), hq, hq2, iLt_f.2 u1, iLt_f.2 (show -(4503599627370496 / v) ≤ n by omega), wid _ (by omega) (by omega)]
  rfl
end Go.Proofs.YtalpbdabeffnlaaGreat

/- StepWorth: the plain law, the awakening and the law's function. -/
set_option linter.unusedVariables false
set_option linter.unusedSimpArgs false
namespace Go.Proofs.YtalpbdabeffnlaaGreat
open Go Go.Av
set_option maxRecDepth 100000
set_option maxHeartbeats 4000000

theorem fits_facts {l : List SField} {o : SOp} (h : fitsOp l o = true) (k3 : iEq o.kind 3 = true) : o.delta.natAbs ≤ 1048576 ∧ (∃ j, placeIn l o.place = some j) ∧ iEq (fieldAt l (placeIn l o.place)).1.kind 1 = true := by
  unfold fitsOp at h
  rw [k3] at h
  simp only [Bool.not_true, Bool.false_and, Bool.false_eq_true, if_false, if_true, Bool.and_eq_true] at h
  obtain ⟨hr, hc, hk⟩ := h
  refine ⟨?_, ?_, hk⟩
  · unfold opRight opRest at hr
    rw [kinds 3 k3 5 (by decide), kinds 3 k3 1 (by decide), kinds 3 k3 2 (by decide)] at hr
    simp only [Bool.and_eq_true, Bool.or_self, Bool.false_eq_true, if_false, iLe_t] at hr
    have := hr.2.2.2.2.2.2.2.2.2
    have a := this.2.2.1
    have b := this.2.2.2.1
    omega
  · cases q : placeIn l o.place with
    | some j => exact ⟨j, rfl⟩
    | none =>
      rw [q] at hc
      have hc : iEq 6 0 = true := hc
      exact absurd (iEq_t.1 hc) (by decide)
theorem worth_range {f : SField} (h : fieldOk f = true) (k : iEq f.kind 1 = true) : 1 ≤ f.worth ∧ f.worth ≤ 1048576 := by
  unfold fieldOk at h
  rw [k] at h
  simp only [Bool.and_eq_true, Bool.or_eq_true, if_true, iLe_t] at h
  exact h.2.2.2.2
theorem mul_small {a b : Int} (ha : a.natAbs ≤ 1048576) (h1 : 1 ≤ b) (h2 : b ≤ 1048576) : (a * b).natAbs ≤ 4503599627370496 := by
  rw [Int.natAbs_mul]
  exact Nat.le_trans (Nat.mul_le_mul ha (show b.natAbs ≤ 1048576 by omega)) (by decide)
theorem worth_is {l : List SField} {o : SOp} (k3 : iEq o.kind 3 = true) {f : SField} (hf : fieldAt l (placeIn l o.place) = (f, 0)) (hk : iEq f.kind 1 = true) (h1 : 1 ≤ f.worth) (h2 : f.worth ≤ 1048576) (h3 : (o.delta * f.worth).natAbs ≤ 4503599627370496) : worthOp l o = (o.delta * f.worth, 0) := by
  unfold worthOp
  rw [k3, hf]
  show (if (false || (!iEq 0 0 || !iEq f.kind 1)) = true then _ else packWorth o.delta f.worth) = _
  rw [iEq_same, hk]
  exact pack_ok h1 h2 h3
theorem worth_law {l : List SField} {x : SLens} {o : SOp} (h0 : (applyF l x).2 = 0) (hf : fitsOp l o = true) (k3 : iEq o.kind 3 = true) :
    (worthOp l o).2 = 0 ∧ ((overF x o).2 = true → worthOp (applyF l x).1 (overF x o).1 = worthOp l o) := by
  obtain ⟨hx, hl⟩ := apply_ok h0
  obtain ⟨hd, ⟨j, hj⟩, hk⟩ := fits_facts hf k3
  have hjl := place_lt hj
  have hfo : fieldOk (l.getD j noField) = true := (right_step hl hjl).1
  have hfa : fieldAt l (placeIn l o.place) = (l.getD j noField, 0) := by rw [hj]; rfl
  rw [hfa] at hk
  obtain ⟨wl, wh⟩ := worth_range hfo hk
  have hw : worthOp l o = (o.delta * (l.getD j noField).worth, 0) := worth_is k3 hfa hk wl wh (mul_small hd wl wh)
  refine ⟨by rw [hw], fun hok => ?_⟩
  rw [hw]
  have k4 := kinds 3 k3 4 (by decide)
  have hkk : (!iEq o.kind 3 && !iEq o.kind 4) = false := by rw [k3]; rfl
  cases q : idxRef (goesOf x) o.place with
  | none =>
    have e : overF x o = (o, true) := by
      have ht : (traceF x o.place).2 = true := by unfold traceF; rw [hx, q]; rfl
      unfold overF; rw [hx, hkk, ht, q]; rfl
    rw [e]
    exact worth_is k3 ((untouched h0 hj (idx_mem.1 q)).trans hfa) hk wl wh (mul_small hd wl wh)
  | some i =>
    have hm1 : (traceF x o.place).2 = true := by
      cases t : (traceF x o.place).2 with
      | true => rfl
      | false =>
        have e : overF x o = (noOp, false) := by unfold overF; rw [hx, hkk, t]; rfl
        rw [e] at hok; cases hok
    have hov := over_some hx hkk hm1 q
    obtain ⟨hi, hig⟩ := idx_at q
    have nz : iEq ((comesOf x).length : Int) 0 = false := by
      cases t : iEq ((comesOf x).length : Int) 0 with
      | false => rfl
      | true => unfold traceF at hm1; rw [hx, q] at hm1; simp only [if_true, t] at hm1; cases hm1
    have htr : (traceF x o.place).1 = (comesOf x).getD 0 noRef := by unfold traceF; rw [hx, q]; simp only [if_true, nz]; rfl
    obtain ⟨c, cs, hc⟩ : ∃ c cs, comesOf x = c :: cs := by
      cases hcs : comesOf x with
      | nil => rw [hcs] at nz; rw [show iEq ((([] : List SRef).length : Nat) : Int) 0 = true from iEq_same 0] at nz; cases nz
      | cons c cs => exact ⟨c, cs, rfl⟩
    have htr : (traceF x o.place).1 = c := by rw [htr, hc]; rfl
    obtain ⟨was, hwas, hb, _, hfirst⟩ := apply_first h0 hc
    rw [htr, k3] at hov
    simp only [Bool.not_true, Bool.false_eq_true, if_false] at hov
    -- a field that moved as it was
    have moved : ∀ (g : SField), (turnedOf x was).1.getD 0 noField = g → overF x o = ({ o with place := c }, true) → (∃ p, g = { l.getD j noField with place := p }) → worthOp (applyF l x).1 (overF x o).1 = (o.delta * (l.getD j noField).worth, 0) := by
      rintro g e1 e2 ⟨p, rfl⟩
      rw [e2]
      refine worth_is (o := { o with place := c }) (f := { l.getD j noField with place := c }) k3 ?_ hk wl wh (mul_small hd wl wh)
      show fieldAt (applyF l x).1 (placeIn (applyF l x).1 c) = _
      rw [hfirst, e1]
    have one : goesOf x = [x.place] → was.getD 0 noField = l.getD j noField := fun hg => by
      rw [hg] at hi hig
      have : i = 0 := by simpa using hi
      subst this
      have hig : x.place = o.place := hig
      rw [hwas, hg]
      show (fieldAt l (placeIn l x.place)).1 = _
      rw [hig, hfa]
    rcases kind_range hx with k | k | k | k | k | k | k | k | k | k
    · have kk : iEq x.kind 1 = true := iEq_t.2 k
      have hg := goes_one hx (kinds 1 kk 2 (by decide)) (kinds 1 kk 3 (by decide)) (kinds 1 kk 9 (by decide))
      rw [kinds 1 kk 6 (by decide), kinds 1 kk 9 (by decide), kinds 1 kk 7 (by decide), kinds 1 kk 10 (by decide), kinds 1 kk 8 (by decide)] at hov
      exact moved (was.getD 0 noField) (by rw [was_moved was 1 kk (.inl rfl)]) hov ⟨(l.getD j noField).place, by rw [one hg]⟩
    · have kk : iEq x.kind 2 = true := iEq_t.2 k
      have : goesOf x = [] := by unfold goesOf; rw [hx, kk]; rfl
      rw [this] at hi; exact absurd hi (Nat.not_lt_zero _)
    · have kk : iEq x.kind 3 = true := iEq_t.2 k
      rw [comes_nil kk] at hc; cases hc
    · have kk : iEq x.kind 4 = true := iEq_t.2 k
      have hg := goes_one hx (kinds 4 kk 2 (by decide)) (kinds 4 kk 3 (by decide)) (kinds 4 kk 9 (by decide))
      rw [kinds 4 kk 6 (by decide), kinds 4 kk 9 (by decide), kinds 4 kk 7 (by decide), kinds 4 kk 10 (by decide), kinds 4 kk 8 (by decide)] at hov
      exact moved (was.getD 0 noField) (by rw [was_moved was 4 kk (.inr (.inl rfl))]) hov ⟨(l.getD j noField).place, by rw [one hg]⟩
    · have kk : iEq x.kind 5 = true := iEq_t.2 k
      have hg := goes_one hx (kinds 5 kk 2 (by decide)) (kinds 5 kk 3 (by decide)) (kinds 5 kk 9 (by decide))
      rw [kinds 5 kk 6 (by decide), kinds 5 kk 9 (by decide), kinds 5 kk 7 (by decide), kinds 5 kk 10 (by decide), kinds 5 kk 8 (by decide)] at hov
      exact moved (was.getD 0 noField) (by rw [was_moved was 5 kk (.inr (.inr rfl))]) hov ⟨(l.getD j noField).place, by rw [one hg]⟩
    · have kk : iEq x.kind 6 = true := iEq_t.2 k
      have hg := goes_one hx (kinds 6 kk 2 (by decide)) (kinds 6 kk 3 (by decide)) (kinds 6 kk 9 (by decide))
      have i0 : i = 0 := by rw [hg] at hi; simpa using hi
      rw [kk, i0, show iEq ((0 : Nat) : Int) 1 = false from iEq_f.2 (by decide)] at hov
      refine moved (was.getD 0 noField) ?_ hov ⟨(l.getD j noField).place, by rw [one hg]⟩
      unfold turnedOf; rw [kinds 6 kk 2 (by decide), kinds 6 kk 3 (by decide), kk]; rfl
    · have kk : iEq x.kind 7 = true := iEq_t.2 k
      rw [kinds 7 kk 6 (by decide), kinds 7 kk 9 (by decide), kk, k4] at hov
      have hov : overF x o = (noOp, false) := hov
      rw [hov] at hok; cases hok
    · have kk : iEq x.kind 8 = true := iEq_t.2 k
      rw [kinds 8 kk 6 (by decide), kinds 8 kk 9 (by decide), kinds 8 kk 7 (by decide), kinds 8 kk 10 (by decide), kk, k4] at hov
      have hov : overF x o = (noOp, false) := hov
      rw [hov] at hok; cases hok
    · have kk : iEq x.kind 9 = true := iEq_t.2 k
      have k2' := kinds 9 kk 2 (by decide)
      have k3' := kinds 9 kk 3 (by decide)
      have k6' := kinds 9 kk 6 (by decide)
      have hg : goesOf x = twoOf x := by unfold goesOf; rw [hx, k2', k3', kk]; rfl
      have hte : turnedOf x was = ([w0 was], iEq (w0 was).kind 1 && (iEq (w1 was).kind 1 && iEq (w1 was).worth (wrapO .i64 ((w0 was).worth * x.factor)))) := by unfold turnedOf; rw [k2', k3', k6', kk]; rfl
      rw [hte] at hb hfirst
      simp only [Bool.and_eq_true] at hb
      obtain ⟨hb1, hb2, hb3⟩ := hb
      have e0 : w0 was = (fieldAt l (placeIn l { x.place with name := x.name })).1 := by unfold w0; rw [hwas, hg]; rfl
      have e1 : w1 was = (fieldAt l (placeIn l { x.place with name := x.other })).1 := by unfold w1; rw [hwas, hg]; rfl
      have h2 : i = 0 ∨ i = 1 := by rw [hg] at hi; have hi : i < 2 := hi; omega
      rcases h2 with rfl | rfl
      · have hig : { x.place with name := x.name } = o.place := by rw [hg] at hig; exact hig
        rw [hig, hfa] at e0
        rw [k6', kk, show iEq ((0 : Nat) : Int) 1 = false from iEq_f.2 (by decide)] at hov
        exact moved (w0 was) (by rw [hte]; rfl) hov ⟨(l.getD j noField).place, by rw [e0]⟩
      · have hig : { x.place with name := x.other } = o.place := by rw [hg] at hig; exact hig
        rw [hig, hfa] at e1
        have e1 : w1 was = l.getD j noField := e1
        rw [k6', kk, show iEq ((1 : Nat) : Int) 1 = true from iEq_same 1] at hov
        have hov : overF x o = ({ o with place := c, delta := o.delta * x.factor }, true) := hov
        obtain ⟨ff1, ff2⟩ := factor_facts hx (.inr kk)
        have hex : ∃ j0, placeIn l { x.place with name := x.name } = some j0 := by
          cases qq : placeIn l { x.place with name := x.name } with
          | some j0 => exact ⟨j0, rfl⟩
          | none => rw [e0, qq] at hb1; exact absurd (iEq_t.1 hb1) (show ¬ (0 : Int) = 1 by decide)
        obtain ⟨j0, hj0⟩ := hex
        have hw0 : w0 was = l.getD j0 noField := by rw [e0, hj0]; rfl
        have hfo0 := (right_step hl (place_lt hj0)).1
        rw [hw0] at hb1 hb3
        obtain ⟨v1, v2⟩ := worth_range hfo0 hb1
        have hprod : (l.getD j noField).worth = (l.getD j0 noField).worth * x.factor := by
          rw [e1] at hb3
          have hb3 := iEq_t.1 hb3
          have : wrapO .i64 ((l.getD j0 noField).worth * x.factor) = (l.getD j0 noField).worth * x.factor := by
            have a : 0 ≤ (l.getD j0 noField).worth * x.factor := Int.mul_nonneg (by omega) (by omega)
            have b : (l.getD j0 noField).worth * x.factor ≤ 1048576 * 1000 := Int.mul_le_mul v2 ff2 (by omega) (by decide)
            exact wrap64_eq rfl (by omega) (by omega)
          rw [this] at hb3; exact hb3
        have hmul : o.delta * x.factor * (l.getD j0 noField).worth = o.delta * (l.getD j noField).worth := by
          rw [hprod, Int.mul_assoc, Int.mul_comm x.factor]
        rw [hov, ← hmul]
        refine worth_is (o := { o with place := c, delta := o.delta * x.factor }) (f := { l.getD j0 noField with place := c }) k3 ?_ hb1 v1 v2 ?_
        · show fieldAt (applyF l x).1 (placeIn (applyF l x).1 c) = _
          rw [hfirst, ← hw0]; rfl
        · show (o.delta * x.factor * (l.getD j0 noField).worth).natAbs ≤ _
          rw [hmul]; exact mul_small hd wl wh
    · have kk : iEq x.kind 10 = true := iEq_t.2 k
      rw [kinds 10 kk 6 (by decide), kinds 10 kk 9 (by decide), kinds 10 kk 7 (by decide), kk, k4] at hov
      have hov : overF x o = (noOp, false) := hov
      rw [hov] at hok; cases hok
end Go.Proofs.YtalpbdabeffnlaaGreat

/- StepWorth: the awakening and the law's function. -/
set_option linter.unusedVariables false
set_option linter.unusedSimpArgs false
namespace Go.Proofs.YtalpbdabeffnlaaGreat
open Go Go.Av
set_option maxRecDepth 100000
set_option maxHeartbeats 4000000

def mergeLens : SLens := { noLens with kind := 9, place := ⟨1, noS, word [113, 116, 121]⟩, name := word [117, 110, 105, 116], other := word [98, 111, 120], factor := 12 }
def adjOp : SOp := { noOp with kind := 3, place := ⟨1, noS, word [98, 111, 120]⟩, delta := 2 }
theorem merge_fit : fitLens mergeLens := ⟨Nat.zero_le _, Nat.zero_le _, Nat.zero_le _⟩
theorem adj_fit : fitOp adjOp := Nat.zero_le _
theorem wake_ok : (overF mergeLens adjOp).2 = true := by decide +kernel
theorem wake_delta : (overF mergeLens adjOp).1.delta = 24 := by decide +kernel
theorem wake_place : sameRef (overF mergeLens adjOp).1.place mergeLens.place = true := by decide +kernel
theorem f309 : PCall Tryz.prog 17 [] (.p (.val (.bool true))) [] := by
  refine gcode hT hM Tryz.func17 rfl rfl (rv := [(0, none)]) rfl rfl rfl fun G hG => ?_
  conv => whnf
  refine CallK.go [] (GCall.args (f314 mergeLens adjOp merge_fit adj_fit (by decide)) ?hh) rfl rfl rfl rfl rfl ?_
  case hh => exact allLe2 (PLe.rep (PLe.agg (by repeat' (first | refine PLes.cons ?_ ?_ | exact PLe.refl _ | exact PLe.nil | exact PLes.end)))) (PLe.rep (PLe.agg (by repeat' (first | refine PLes.cons ?_ ?_ | exact PLe.refl _ | exact PLe.nil | exact PLe.bool _ | exact PLes.end))))
  conv => whnf
  refine ⟨fun a1 => ?_, fun a1 => ?_⟩
  · conv => whnf
    refine ⟨fun a2 => ?_, fun a2 => ?_⟩
    · conv => whnf
      exact ⟨[], _, _, _, rfl, rfl, rfl, RepLe.vb (by rw [Bool.and_true]; exact wake_place), trivial⟩
    · rw [wake_delta, iEq_same] at a2; cases a2
  · rw [wake_ok] at a1; cases a1
theorem over_fit {x : SLens} {o : SOp} (ho : fitOp o) : fitOp (overF x o).1 := by
  unfold overF
  repeat' split
  all_goals first | exact ho | exact Nat.zero_le _
theorem f301 (l : List SField) (x : SLens) (o : SOp) (hl : fitFields l) (hx : fitLens x) (ho : fitOp o) : PCall Tryz.prog 4 [encFields l, encLens x, encOp o] (.p (.val (.bool true))) [] := by
  have hm := apply_fit hl hx
  refine gcode hT hM Tryz.func4 rfl rfl (rv := [(6, none)]) rfl rfl rfl fun G hG => ?_
  conv => whnf
  refine CallK.lent (f309) rfl ?_
  conv => whnf
  refine ⟨fun h => ?_, fun h => ?_⟩
  · cases h
  conv => whnf
  refine CallK.lent (f26 l hl.ok) rfl ?_
  conv => whnf
  refine ⟨fun h1 => ?_, fun h1 => ?_⟩
  · conv => whnf
    exact ⟨[], _, _, _, rfl, rfl, rfl, RepLe.bl rfl, trivial⟩
  conv => whnf
  refine CallK.lent (f21 x hx.ok) rfl ?_
  conv => whnf
  refine ⟨fun h2 => ?_, fun h2 => ?_⟩
  · conv => whnf
    exact ⟨[], _, _, _, rfl, rfl, rfl, RepLe.bl rfl, trivial⟩
  conv => whnf
  refine CallK.lent (f310 o) rfl ?_
  conv => whnf
  refine ⟨fun h3 => ?_, fun h3 => ?_⟩
  · conv => whnf
    exact ⟨[], _, _, _, rfl, rfl, rfl, RepLe.bl rfl, trivial⟩
  conv => whnf
  refine CallK.go [] (f311 l o hl) rfl rfl rfl rfl rfl ?_
  conv => whnf
  refine CallK.go [] (f312 l o hl) rfl rfl rfl rfl rfl ?_
  conv => whnf
  refine ⟨fun a1 => ?_, fun a1 => ?_⟩
  · rw [iEq_same] at a1; cases a1
  clear a1
  conv => whnf
  refine ⟨fun a1 => ?_, fun a1 => ?_⟩
  · rw [iEq_same] at a1; cases a1
  clear a1
  conv => whnf
  refine CallK.go [] (f49 l x hl hx) rfl rfl rfl rfl rfl ?_
  conv => whnf
  refine ⟨fun b1 => ?_, fun b1 => ?_⟩
  · conv => whnf
    exact ⟨[], _, _, _, rfl, rfl, rfl, RepLe.bl rfl, trivial⟩
  have hz : (applyF l x).2 = 0 := iEq_t.1 (notf b1)
  clear b1
  conv => whnf
  refine CallK.lent (f313 l o hl ho) rfl ?_
  conv => whnf
  refine ⟨fun b2 => ?_, fun b2 => ?_⟩
  · conv => whnf
    exact ⟨[], _, _, _, rfl, rfl, rfl, RepLe.bl rfl, trivial⟩
  have hf : fitsOp l o = true := notf b2
  clear b2
  conv => whnf
  refine ⟨fun b3 => ?_, fun b3 => ?_⟩
  · conv => whnf
    exact ⟨[], _, _, _, rfl, rfl, rfl, RepLe.bl rfl, trivial⟩
  have k3 : iEq o.kind 3 = true := notf b3
  clear b3
  obtain ⟨d1, _, _⟩ := fits_facts hf k3
  obtain ⟨q1, q2⟩ := worth_law hz hf k3
  conv => whnf
  refine CallK.go [] (f314 x o hx ho (Nat.le_trans d1 (by decide))) rfl rfl rfl rfl rfl ?_
  conv => whnf
  refine CallK.go [] (f311 (applyF l x).1 (overF x o).1 hm) rfl rfl rfl rfl rfl ?_
  conv => whnf
  refine ⟨fun c1 => ?_, fun c1 => ?_⟩
  · conv => whnf
    refine ⟨fun c2 => ?_, fun c2 => ?_⟩
    · conv => whnf
      exact ⟨[], _, _, _, rfl, rfl, rfl, RepLe.bl rfl, trivial⟩
    have hok : (overF x o).2 = true := notf c2
    have e := q2 hok
    conv => whnf
    refine ⟨fun c3 => ?_, fun c3 => ?_⟩
    · conv => whnf
      exact ⟨[], _, _, _, rfl, rfl, rfl, RepLe.vb (by rw [e]; exact iEq_same _), trivial⟩
    · rw [e, q1, iEq_same] at c3; cases c3
  · rw [q1, iEq_same] at c1; cases c1
end Go.Proofs.YtalpbdabeffnlaaGreat
