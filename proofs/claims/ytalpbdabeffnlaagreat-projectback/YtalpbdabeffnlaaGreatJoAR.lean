import Derived.Test.YtalpbdabeffnlaaGreatJoAP
/- What comes of the fields that go. -/
set_option linter.unusedVariables false
set_option linter.unusedSimpArgs false
namespace Go.Proofs.YtalpbdabeffnlaaGreat
open Go Go.Av
set_option maxRecDepth 100000
set_option maxHeartbeats 4000000

theorem PLe.rowsLe {k n m : Nat} {f g : Nat → Nat → PV} (h : n = m) (hf : ∀ i j, i < n → j < k → PLe (f i j) (g i j)) : PLe (.rs k n f) (.rs k m g) := by
  subst h
  rintro w F v ⟨A, c, e1, e2, e3, e4, e5⟩
  refine ⟨A, c, e1, e2, e3, e4, fun hn => ?_⟩
  obtain ⟨ad, q1, q2, q3⟩ := e5 hn
  refine ⟨ad, q1, q2, fun i j hi hj => ?_⟩
  obtain ⟨u, a1, a2, a3⟩ := q3 i j hi hj
  exact ⟨u, a1, a2, hf i j hi hj _ _ _ a3⟩
theorem fields1 {x : SField} {l : List SField} (h : l = [x]) {f : Nat → Nat → PV} (hf : ∀ j, j < 7 → PLe (f 0 j) (at_ .any (fieldCells x) j)) : PLe (.rs 7 1 f) (encFields l) := by
  subst h
  refine PLe.rowsLe rfl fun i j hi hj => ?_
  have : i = 0 := by omega
  subst this
  exact hf j hj
theorem fields2 {x y : SField} {l : List SField} (h : l = [x, y]) {f : Nat → Nat → PV} (hf : ∀ j, j < 7 → PLe (f 0 j) (at_ .any (fieldCells x) j)) (hg : ∀ j, j < 7 → PLe (f 1 j) (at_ .any (fieldCells y) j)) : PLe (.rs 7 2 f) (encFields l) := by
  subst h
  refine PLe.rowsLe rfl fun i j hi hj => ?_
  have hi : i = 0 ∨ i = 1 := by omega
  rcases hi with rfl | rfl
  · exact hf j hj
  · exact hg j hj
theorem nil_fields : PLe (.val (.slice none 0 0)) (encFields []) := PLe.nil
def encTurn (x : List SField × Bool) : AV := .tup 2 (at_ (.p .any) [.p (encFields x.1), .p (.val (.bool x.2))])
def w0 (was : List SField) : SField := was.getD 0 noField
def w1 (was : List SField) : SField := was.getD 1 noField
def turnedOf (x : SLens) (was : List SField) : List SField × Bool :=
  if iEq x.kind 2 then ([x.field], true)
  else if iEq x.kind 3 then ([], sameField (w0 was) x.field)
  else if iEq x.kind 6 then ([w0 was, { w0 was with worth := wrapO .i64 ((w0 was).worth * x.factor) }], iEq (w0 was).kind 1 && iLe (wrapO .i64 ((w0 was).worth * x.factor)) 1048576)
  else if iEq x.kind 9 then ([w0 was], iEq (w0 was).kind 1 && (iEq (w1 was).kind 1 && iEq (w1 was).worth (wrapO .i64 ((w0 was).worth * x.factor))))
  else if iEq x.kind 7 then ([{ noField with kind := 4 }], iEq (w0 was).kind 2 && sEq (w0 was).dflt x.other)
  else if iEq x.kind 10 then ([{ noField with kind := 2, dflt := x.other }], iEq (w0 was).kind 4)
  else if iEq x.kind 8 then ([{ noField with kind := 3, dflt := x.other, cases := fromsOf x.back }], iEq (w0 was).kind 3 && (sEq (w0 was).dflt x.name && sameStrs (w0 was).cases (fromsOf x.forth)))
  else (was, true)
theorem turn_ret {a : PV} {b : Bool} {p : List SField × Bool} {l : List SField} (h : p = (l, b)) (ha : PLe a (encFields l)) : RepLe (.tup 2 (at_ (.p .any) [.p a, .p (.val (.bool b))])) (encTurn p) := by
  subst h; exact RepLe.tup2 (PLe.rep ha) (RepLe.refl _)
theorem turn_bl {a : PV} {b : Bool} {p : List SField × Bool} {l : List SField} (h : p = (l, b)) (ha : PLe a (encFields l)) : RepLe (.tup 2 (at_ (.p .any) [.p a, .p (.bl b)])) (encTurn p) := by
  subst h; exact RepLe.tup2 (PLe.rep ha) (RepLe.bl rfl)

theorem f99 (x : SLens) (was : List SField) (hx : fitLens x) (hw : okFields was) (h1 : iEq x.kind 2 = false → 0 < was.length) (h2 : iEq x.kind 9 = true → 1 < was.length) : PCall Tryz.prog 54 [encLens x, encFields was] (encTurn (turnedOf x was)) [] := by
  refine gcode hT hM Tryz.func54 rfl rfl (rv := [(4, none), (5, none)]) rfl rfl rfl fun G hG => ?_
  conv => whnf
  refine ⟨fun k2 => ?_, fun k2 => ?_⟩
  · conv => whnf
    exact ⟨[], _, _, _, rfl, rfl, rfl, turn_bl (by unfold turnedOf; rw [k2]; rfl) (fields1 rfl (seven (PLe.refl _) (PLe.refl _) (PLe.refl _) (PLe.refl _) (PLe.refl _) (PLe.refl _) (PLe.refl _))), trivial⟩
  have hl := h1 k2
  conv => whnf
  refine ⟨fun k3 => ?_, fun k3 => ?_⟩
  · conv => whnf
    refine ⟨by omega, ?_⟩
    conv => whnf
    refine CallK.lent (f66 (w0 was) x.field (hw.at 0)) rfl ?_
    conv => whnf
    refine ⟨rfl, ?_⟩
    conv => whnf
    exact ⟨[], _, _, _, rfl, rfl, rfl, turn_ret (by unfold turnedOf; rw [k2, k3]; rfl) nil_fields, trivial⟩
  conv => whnf
  refine ⟨fun k6 => ?_, fun k6 => ?_⟩
  · conv => whnf
    refine ⟨by omega, ?_⟩
    conv => whnf
    intro z hz
    subst hz
    conv => whnf
    refine ⟨fun g1 => ?_, fun g1 => ?_⟩
    · conv => whnf
      refine ⟨rfl, ?_⟩
      conv => whnf
      exact ⟨[], _, _, _, rfl, rfl, rfl, turn_ret (by unfold turnedOf; rw [k2, k3, k6, show iEq (w0 was).kind 1 = true from g1]; rfl) (fields2 (x := w0 was) (y := { w0 was with worth := wrapO .i64 ((w0 was).worth * x.factor) }) rfl (seven (PLe.refl _) (PLe.refl _) (PLe.refl _) (PLe.refl _) (PLe.refl _) (PLe.refl _) (PLe.refl _)) (seven (PLe.refl _) (PLe.refl _) (PLe.refl _) (PLe.refl _) (PLe.refl _) (PLe.refl _) (PLe.refl _))), trivial⟩
    · conv => whnf
      refine ⟨rfl, ?_⟩
      conv => whnf
      exact ⟨[], _, _, _, rfl, rfl, rfl, turn_bl (by unfold turnedOf; rw [k2, k3, k6, show iEq (w0 was).kind 1 = false from g1]; rfl) (fields2 (x := w0 was) (y := { w0 was with worth := wrapO .i64 ((w0 was).worth * x.factor) }) rfl (seven (PLe.refl _) (PLe.refl _) (PLe.refl _) (PLe.refl _) (PLe.refl _) (PLe.refl _) (PLe.refl _)) (seven (PLe.refl _) (PLe.refl _) (PLe.refl _) (PLe.refl _) (PLe.refl _) (PLe.refl _) (PLe.refl _))), trivial⟩
  conv => whnf
  refine ⟨fun k9 => ?_, fun k9 => ?_⟩
  · have hl2 := h2 k9
    conv => whnf
    refine ⟨by omega, ?_⟩
    conv => whnf
    refine ⟨by omega, ?_⟩
    conv => whnf
    refine ⟨rfl, ?_⟩
    conv => whnf
    refine ⟨fun g1 => ?_, fun g1 => ?_⟩
    · conv => whnf
      refine ⟨fun g2 => ?_, fun g2 => ?_⟩
      · conv => whnf
        intro z hz
        subst hz
        conv => whnf
        refine ⟨rfl, ?_⟩
        conv => whnf
        exact ⟨[], _, _, _, rfl, rfl, rfl, turn_ret (by unfold turnedOf; rw [k2, k3, k6, k9, show iEq (w0 was).kind 1 = true from g1, show iEq (w1 was).kind 1 = true from g2]; rfl) (fields1 (x := w0 was) rfl (seven (PLe.refl _) (PLe.refl _) (PLe.refl _) (PLe.refl _) (PLe.refl _) (PLe.refl _) (PLe.refl _))), trivial⟩
      · conv => whnf
        refine ⟨rfl, ?_⟩
        conv => whnf
        exact ⟨[], _, _, _, rfl, rfl, rfl, turn_bl (by unfold turnedOf; rw [k2, k3, k6, k9, show iEq (w0 was).kind 1 = true from g1, show iEq (w1 was).kind 1 = false from g2]; rfl) (fields1 (x := w0 was) rfl (seven (PLe.refl _) (PLe.refl _) (PLe.refl _) (PLe.refl _) (PLe.refl _) (PLe.refl _) (PLe.refl _))), trivial⟩
    · conv => whnf
      refine ⟨rfl, ?_⟩
      conv => whnf
      exact ⟨[], _, _, _, rfl, rfl, rfl, turn_bl (by unfold turnedOf; rw [k2, k3, k6, k9, show iEq (w0 was).kind 1 = false from g1]; rfl) (fields1 (x := w0 was) rfl (seven (PLe.refl _) (PLe.refl _) (PLe.refl _) (PLe.refl _) (PLe.refl _) (PLe.refl _) (PLe.refl _))), trivial⟩
  conv => whnf
  refine ⟨fun k7 => ?_, fun k7 => ?_⟩
  · conv => whnf
    refine ⟨by omega, ?_⟩
    conv => whnf
    refine ⟨fun g1 => ?_, fun g1 => ?_⟩
    · conv => whnf
      refine ⟨by omega, ?_⟩
      conv => whnf
      refine ⟨rfl, ?_⟩
      conv => whnf
      exact ⟨[], _, _, _, rfl, rfl, rfl, turn_ret (by unfold turnedOf; rw [k2, k3, k6, k9, k7, show iEq (w0 was).kind 2 = true from g1]; rfl) (fields1 (x := { noField with kind := 4 }) rfl (seven (PLe.refl _) (PLe.refl _) (PLe.refl _) (PLe.refl _) (PLe.refl _) (PLe.nil) (PLe.refl _))), trivial⟩
    · conv => whnf
      refine ⟨rfl, ?_⟩
      conv => whnf
      exact ⟨[], _, _, _, rfl, rfl, rfl, turn_bl (by unfold turnedOf; rw [k2, k3, k6, k9, k7, show iEq (w0 was).kind 2 = false from g1]; rfl) (fields1 (x := { noField with kind := 4 }) rfl (seven (PLe.refl _) (PLe.refl _) (PLe.refl _) (PLe.refl _) (PLe.refl _) (PLe.nil) (PLe.refl _))), trivial⟩
  conv => whnf
  refine ⟨fun k10 => ?_, fun k10 => ?_⟩
  · conv => whnf
    refine ⟨by omega, ?_⟩
    conv => whnf
    refine ⟨rfl, ?_⟩
    conv => whnf
    exact ⟨[], _, _, _, rfl, rfl, rfl, turn_ret (by unfold turnedOf; rw [k2, k3, k6, k9, k7, k10]; rfl) (fields1 (x := { noField with kind := 2, dflt := x.other }) rfl (seven (PLe.refl _) (PLe.refl _) (PLe.refl _) (PLe.refl _) (PLe.refl _) (PLe.nil) (PLe.refl _))), trivial⟩
  conv => whnf
  refine ⟨fun k8 => ?_, fun k8 => ?_⟩
  · conv => whnf
    refine ⟨by omega, ?_⟩
    conv => whnf
    refine CallK.go [] (f116 x.back hx.2.2) rfl rfl rfl rfl rfl ?_
    conv => whnf
    refine ⟨fun g1 => ?_, fun g1 => ?_⟩
    · conv => whnf
      refine ⟨fun g2 => ?_, fun g2 => ?_⟩
      · conv => whnf
        refine CallK.go [] (f116 x.forth hx.2.1) rfl rfl rfl rfl rfl ?_
        conv => whnf
        refine CallK.lent (f113 (w0 was).cases (fromsOf x.forth) (hw.at 0)) rfl ?_
        conv => whnf
        refine ⟨rfl, ?_⟩
        conv => whnf
        exact ⟨[], _, _, _, rfl, rfl, rfl, turn_ret (by unfold turnedOf; rw [k2, k3, k6, k9, k7, k10, k8, show iEq (w0 was).kind 3 = true from g1, show sEq (w0 was).dflt x.name = true from g2]; rfl) (fields1 (x := { noField with kind := 3, dflt := x.other, cases := fromsOf x.back }) rfl (seven (PLe.refl _) (PLe.refl _) (PLe.refl _) (PLe.refl _) (PLe.refl _) (PLe.refl _) (PLe.refl _))), trivial⟩
      · conv => whnf
        refine ⟨rfl, ?_⟩
        conv => whnf
        exact ⟨[], _, _, _, rfl, rfl, rfl, turn_bl (by unfold turnedOf; rw [k2, k3, k6, k9, k7, k10, k8, show iEq (w0 was).kind 3 = true from g1, show sEq (w0 was).dflt x.name = false from g2]; rfl) (fields1 (x := { noField with kind := 3, dflt := x.other, cases := fromsOf x.back }) rfl (seven (PLe.refl _) (PLe.refl _) (PLe.refl _) (PLe.refl _) (PLe.refl _) (PLe.refl _) (PLe.refl _))), trivial⟩
    · conv => whnf
      refine ⟨rfl, ?_⟩
      conv => whnf
      exact ⟨[], _, _, _, rfl, rfl, rfl, turn_bl (by unfold turnedOf; rw [k2, k3, k6, k9, k7, k10, k8, show iEq (w0 was).kind 3 = false from g1]; rfl) (fields1 (x := { noField with kind := 3, dflt := x.other, cases := fromsOf x.back }) rfl (seven (PLe.refl _) (PLe.refl _) (PLe.refl _) (PLe.refl _) (PLe.refl _) (PLe.refl _) (PLe.refl _))), trivial⟩
  conv => whnf
  exact ⟨[], _, _, _, rfl, rfl, rfl, turn_bl (by unfold turnedOf; rw [k2, k3, k6, k9, k7, k10, k8]; rfl) (PLe.refl _), trivial⟩
end Go.Proofs.YtalpbdabeffnlaaGreat

/- SchemaTurns: the law itself. -/
set_option linter.unusedVariables false
set_option linter.unusedSimpArgs false
namespace Go.Proofs.YtalpbdabeffnlaaGreat
open Go Go.Av
set_option maxRecDepth 100000
set_option maxHeartbeats 4000000

theorem nil_fit : fitFields [] := ⟨by simp, fun x hx => by simp at hx⟩
theorem with_cases (l : List SField) (f : SField) : ((withF l f).1 = [] ∧ (withF l f).2 ≠ 0) ∨ (rightFields l = true ∧ fieldOk f = true ∧ placeIn l f.place = none ∧ l.length ≤ 15 ∧ withF l f = (putIn l f, 0)) := by
  unfold withF
  cases h1 : rightFields l
  · exact .inl ⟨rfl, by show (5 : Int) ≠ 0; decide⟩
  cases h2 : fieldOk f
  · exact .inl ⟨rfl, by show (5 : Int) ≠ 0; decide⟩
  cases hp : placeIn l f.place with
  | some j => exact .inl ⟨rfl, by show (7 : Int) ≠ 0; decide⟩
  | none =>
    show ((if iLt 15 l.length = true then (([] : List SField), (14 : Int)) else (putIn l f, 0)).1 = [] ∧ (if iLt 15 l.length = true then (([] : List SField), (14 : Int)) else (putIn l f, 0)).2 ≠ 0) ∨ (_ ∧ _ ∧ _ ∧ _ ∧ (if iLt 15 l.length = true then (([] : List SField), (14 : Int)) else (putIn l f, 0)) = _)
    by_cases h : iLt 15 l.length = true
    · rw [if_pos h]; exact .inl ⟨rfl, by decide⟩
    · rw [if_neg h]
      have h : iLt 15 (l.length : Int) = false := by simpa using h
      rw [iLt_f] at h
      exact .inr ⟨rfl, rfl, rfl, by omega, rfl⟩
theorem put_fit {l : List SField} {f : SField} (hl : fitFields l) (hf : fitField f) (h15 : l.length ≤ 15) : fitFields (putIn l f) := by
  have hp := put_perm l f
  refine ⟨by rw [hp.length_eq]; simp; omega, fun x hx => ?_⟩
  have := hp.mem_iff.1 hx
  simp only [List.mem_append, List.mem_singleton] at this
  rcases this with h | rfl
  · exact hl.2 x h
  · exact hf
theorem with_fit {l : List SField} {f : SField} (hl : fitFields l) (hf : fitField f) : fitFields (withF l f).1 := by
  rcases with_cases l f with ⟨h, _⟩ | ⟨_, _, _, h15, h⟩
  · rw [h]; exact nil_fit
  · rw [h]; exact put_fit hl hf h15
theorem without_fit {l : List SField} {r : SRef} (hl : fitFields l) : fitFields (withoutF l r).1 := by
  unfold withoutF
  split
  · split
    · exact nil_fit
    · refine ⟨?_, fun x hx => hl.2 x (List.mem_filter.1 hx).1⟩
      have h1 : (notAt l r).length ≤ l.length := List.length_filter_le _ _
      have h2 := hl.1
      show (notAt l r).length * 96 ≤ _
      omega
  · exact nil_fit
theorem iEq_same (a : Int) : iEq a a = true := iEq_t.2 rfl

end Go.Proofs.YtalpbdabeffnlaaGreat

/- lens.Apply: where a lens leads. -/
set_option linter.unusedVariables false
set_option linter.unusedSimpArgs false
namespace Go.Proofs.YtalpbdabeffnlaaGreat
open Go Go.Av
set_option maxRecDepth 100000
set_option maxHeartbeats 4000000

/-- A row is read-only from here on. -/
theorem stleF {σ σ' : St} {t b e k n : Nat} {f : Nat → Nat → PV} (hτ : σ.τ t = .sl b) (hη : σ.η b = some (.row e k n f)) (h : StLe ⟨σ.N, upd σ.τ t (.p (.rs k n f)), upds σ.η (frees [b]), σ.us⟩ σ') : StLe σ σ' := by
  intro G a w ⟨h1, h2, F, ν, hi⟩ hu
  refine h G a w ⟨h1, h2, (fun b' => F b' ∨ Base ν σ.η [b] b'), ν, ?_⟩ hu
  have hf := hi.freeze [b]
  refine ⟨hf.heap, fun s => ?_, hf.names, hf.ext, hf.same, hf.owns, hf.fl, hf.fr, hf.used⟩
  rcases upd_cases σ.τ t s (.p (.rs k n f)) with ⟨rfl, e1⟩ | ⟨hne, e1⟩
  · show RepV _ _ _ (upd σ.τ t (.p (.rs k n f)) t) _
    rw [e1]
    have ht := hi.tmps t
    rw [hτ] at ht
    exact viewOf_rep (η := σ.η) (ns := [b]) hi.heap ht (by simp [viewOf, hη]) (fun _ => .inl) (fun _ => .inr)
  · show RepV _ _ _ (upd σ.τ t (.p (.rs k n f)) s) _
    rw [e1]
    exact hf.tmps s

def takeAll (l : List SField) : List SRef → List SField → List SField → Option (List SField × List SField)
  | [], rest, was => some (rest, was)
  | r :: rs, rest, was => match placeIn l r with
    | none => none
    | some j => takeAll l rs (withoutF rest r).1 (was ++ [l.getD j noField])
def putAll : List SRef → List SField → List SField → List SField × Int
  | [], _, rest => (rest, 0)
  | r :: rs, now, rest => if iEq (withF rest { now.getD 0 noField with place := r }).2 0 then putAll rs (now.drop 1) (withF rest { now.getD 0 noField with place := r }).1 else ([], 16)
def applyF (l : List SField) (x : SLens) : List SField × Int :=
  if rightFields l && lensOk x then (match takeAll l (goesOf x) l [] with
    | none => ([], 16)
    | some (rest, was) => if (turnedOf x was).2 then putAll (comesOf x) (turnedOf x was).1 rest else ([], 16))
  else ([], 5)

theorem take_step (l : List SField) (gs : List SRef) (rest was : List SField) {i : Nat} (h : i < gs.length) : takeAll l (gs.drop i) rest was = (match placeIn l (gs.getD i noRef) with | none => none | some j => takeAll l (gs.drop (i + 1)) (withoutF rest (gs.getD i noRef)).1 (was ++ [l.getD j noField])) := by
  rw [List.drop_eq_getElem_cons h, List.getD_eq_getElem?_getD, List.getElem?_eq_getElem h]
  rfl
theorem put_step (cs : List SRef) (now rest : List SField) {i : Nat} (h : i < cs.length) : putAll (cs.drop i) (now.drop i) rest = (if iEq (withF rest { now.getD i noField with place := cs.getD i noRef }).2 0 then putAll (cs.drop (i + 1)) (now.drop (i + 1)) (withF rest { now.getD i noField with place := cs.getD i noRef }).1 else ([], 16)) := by
  rw [List.drop_eq_getElem_cons h]
  have e1 : cs.getD i noRef = cs[i] := by rw [List.getD_eq_getElem?_getD, List.getElem?_eq_getElem h]; rfl
  have e2 : (now.drop i).getD 0 noField = now.getD i noField := by simp [List.getD_eq_getElem?_getD]
  have e3 : (now.drop i).drop 1 = now.drop (i + 1) := by simp
  show (if iEq (withF rest { (now.drop i).getD 0 noField with place := cs[i] }).2 0 then putAll (cs.drop (i + 1)) ((now.drop i).drop 1) (withF rest { (now.drop i).getD 0 noField with place := cs[i] }).1 else ([], 16)) = _
  rw [e1, e2, e3]
theorem goes_len {x : SLens} (h : lensOk x = true) : (goesOf x).length = if iEq x.kind 2 then 0 else if iEq x.kind 3 then 1 else if iEq x.kind 9 then 2 else 1 := by
  unfold goesOf
  rw [h]
  cases iEq x.kind 2
  · cases iEq x.kind 3
    · cases iEq x.kind 9 <;> rfl
    · rfl
  · rfl
theorem comes_len {x : SLens} (h : lensOk x = true) (h3 : iEq x.kind 3 = false) : (comesOf x).length ≤ if iEq x.kind 6 then 2 else 1 := by
  unfold comesOf
  rw [h, h3]
  cases iEq x.kind 2
  · cases iEq x.kind 1
    · cases iEq x.kind 4
      · cases iEq x.kind 5
        · cases iEq x.kind 6 <;> exact Nat.le_refl _
        · cases iEq x.kind 6 <;> first | exact (by decide : 1 ≤ 1) | exact (by decide : 1 ≤ 2)
      · cases iEq x.kind 6 <;> first | exact (by decide : 1 ≤ 1) | exact (by decide : 1 ≤ 2)
    · cases iEq x.kind 6 <;> first | exact (by decide : 1 ≤ 1) | exact (by decide : 1 ≤ 2)
  · cases iEq x.kind 6 <;> first | exact (by decide : 1 ≤ 1) | exact (by decide : 1 ≤ 2)
theorem comes_nil {x : SLens} (h3 : iEq x.kind 3 = true) : comesOf x = [] := by
  unfold comesOf
  rw [h3]
  cases lensOk x <;> rfl
theorem now_len {x : SLens} (h : lensOk x = true) {was : List SField} (hw : was.length = (goesOf x).length) : (comesOf x).length ≤ (turnedOf x was).1.length := by
  rw [goes_len h] at hw
  cases h3 : iEq x.kind 3 with
  | true => rw [comes_nil h3]; exact Nat.zero_le _
  | false =>
    have hc := comes_len h h3
    unfold turnedOf
    rw [h3]
    rw [h3] at hw
    cases h2 : iEq x.kind 2 with
    | true =>
      have h6 : iEq x.kind 6 = false := by rw [iEq_t] at h2; rw [iEq_f]; omega
      rw [h6] at hc
      exact hc
    | false =>
      rw [h2] at hw
      cases h6 : iEq x.kind 6 with
      | true => rw [h6] at hc; exact hc
      | false =>
        rw [h6] at hc
        cases h9 : iEq x.kind 9 with
        | true => exact hc
        | false =>
          rw [h9] at hw
          cases iEq x.kind 7 with
          | true => exact hc
          | false =>
            cases iEq x.kind 10 with
            | true => exact hc
            | false =>
              cases iEq x.kind 8 with
              | true => exact hc
              | false =>
                have hw : was.length = 1 := hw
                show _ ≤ was.length
                rw [hw]; exact hc
theorem now_fit {x : SLens} (hx : fitLens x) {was : List SField} (hw : ∀ i, fitField (was.getD i noField)) : ∀ i, fitField ((turnedOf x was).1.getD i noField) := by
  have none_fit : fitField noField := Nat.zero_le _
  have one : ∀ {f : SField}, fitField f → ∀ i, fitField ([f].getD i noField) := by
    intro f hf i
    match i with
    | 0 => exact hf
    | i + 1 => exact none_fit
  unfold turnedOf
  cases iEq x.kind 2
  · cases iEq x.kind 3
    · cases iEq x.kind 6
      · cases iEq x.kind 9
        · cases iEq x.kind 7
          · cases iEq x.kind 10
            · cases iEq x.kind 8
              · exact hw
              · exact one (show (fromsOf x.back).length ≤ 8796093022208 by rw [froms_len]; exact Nat.le_trans hx.2.2 (by decide))
            · exact one (show ([] : List ByteArray).length ≤ 8796093022208 by decide)
          · exact one (show ([] : List ByteArray).length ≤ 8796093022208 by decide)
        · exact one (hw 0)
      · intro i
        match i with
        | 0 => exact hw 0
        | 1 => exact hw 0
        | i + 2 => exact none_fit
    · intro i; exact none_fit
  · exact one hx.1

/-! ### The walk -/
theorem rowOne {y : SField} {g : Nat → Nat → PV} (hg : ∀ b, b < 7 → PLe (g 0 b) (at_ .any (fieldCells y) b)) : BlkLe (.row 39 7 1 g) (.row 39 7 ([] ++ [y] : List SField).length fun i => at_ .any (fieldCells (([] ++ [y] : List SField).getD i noField))) := by
  refine BlkLe.rowLe rfl fun a b ha hb => ?_
  have : a = 0 := by omega
  subst this
  exact hg b hb
def ap0 (l : List SField) (x : SLens) (rest : List SField) : St :=
  told 86 [(0, .p (encFields l)), (3, .pt 0 0), (6, .p (encFields rest)), (7, .p (.val (.slice none 0 0))), (29, .p (encRefs (goesOf x))), (30, vI .i64 ((goesOf x).length : Int)), (31, vI .i64 0)] [(0, some (.box 42 ((lensCells x).map .p)))] [0]
def ap1 (l : List SField) (x : SLens) (i : Nat) (rest was : List SField) : St :=
  told 86 [(0, .p (encFields l)), (3, .pt 0 0), (6, .p (encFields rest)), (7, .sl 4096), (29, .p (encRefs (goesOf x))), (30, vI .i64 ((goesOf x).length : Int)), (31, vI .i64 (i : Int))] [(0, some (.box 42 ((lensCells x).map .p))), (4096, rowFields was)] [0, 4096]
def apS (l : List SField) (x : SLens) (p : Nat × List SField × List SField) : St :=
  match p with
  | (0, rest, _) => ap0 l x rest
  | (i + 1, rest, was) => ap1 l x (i + 1) rest was
def ap2 (x : SLens) (now rest : List SField) (i : Nat) : St :=
  told 86 [(6, .p (encFields rest)), (12, .p (encFields now)), (63, .p (encRefs (comesOf x))), (64, vI .i64 ((comesOf x).length : Int)), (65, vI .i64 (i : Int))] [] []

theorem f49 (l : List SField) (x : SLens) (hl : fitFields l) (hx : fitLens x) : PCall Tryz.prog 22 [encFields l, encLens x] (encTake (applyF l x)) [] := by
  have hlen := hl.1
  refine gcode hT hM Tryz.func22 rfl rfl (rv := [(4, none), (5, none)]) rfl rfl rfl fun G hG => ?_
  conv => whnf
  refine CallK.lent (f33 l hl.ok) rfl ?_
  conv => whnf
  refine ⟨fun h1 => ?_, fun h1 => ?_⟩
  · have h1 : rightFields l = false := by simpa using h1
    conv => whnf
    exact ⟨[], _, _, _, rfl, rfl, rfl, by unfold applyF; rw [h1]; exact nil_take, trivial⟩
  have h1 : rightFields l = true := by simpa using h1
  conv => whnf
  refine CallK.lent (f25 x hx.ok) rfl ?_
  conv => whnf
  refine ⟨fun h2 => ?_, fun h2 => ?_⟩
  · have h2 : lensOk x = false := by simpa using h2
    conv => whnf
    exact ⟨[], _, _, _, rfl, rfl, rfl, by unfold applyF; rw [h1, h2]; exact nil_take, trivial⟩
  have h2 : lensOk x = true := by simpa using h2
  conv => whnf
  refine CallK.go [] (f27 l hl) rfl rfl rfl rfl rfl ?_
  conv => whnf
  refine CallK.go [] (f51 x hx.ok) rfl rfl rfl rfl rfl ?_
  conv => whnf
  refine AW.loop (X := Nat × List SField × List SField) (apS l x) (fun p => p.1 ≤ (goesOf x).length ∧ p.2.2.length = p.1 ∧ fitFields p.2.1 ∧ (∀ y ∈ p.2.2, fitField y) ∧ takeAll l (goesOf x) l [] = takeAll l ((goesOf x).drop p.1) p.2.1 p.2.2) (fun p => (goesOf x).length - p.1) (used0 hG _) (0, l, []) ⟨Nat.zero_le _, rfl, hl, fun y hy => by simp at hy, rfl⟩
    (show StLe _ (ap0 l x l) from stleF (t := 6) rfl rfl (stle ⟨RepLe.refl _, RepLe.refl _, RepLe.refl _, RepLe.refl _, RepLe.refl _, RepLe.refl _, RepLe.refl _, trivial⟩ ⟨⟨_, rfl, BlkLe.refl _⟩, trivial⟩ rfl)) ?_
  rintro ⟨i, rest, was⟩ ⟨hi, hwl, hfr, hwf, hr⟩
  have hi : i ≤ (goesOf x).length := hi
  have hwl : was.length = i := hwl
  have hfr : fitFields rest := hfr
  have hwf : ∀ y ∈ was, fitField y := hwf
  have hr : takeAll l (goesOf x) l [] = takeAll l ((goesOf x).drop i) rest was := hr
  have hgl : (goesOf x).length ≤ 2 := by rw [goes_len h2]; cases iEq x.kind 2 <;> cases iEq x.kind 3 <;> cases iEq x.kind 9 <;> decide
  have hcl : (comesOf x).length ≤ 2 := by
    cases h3 : iEq x.kind 3 with
    | true => rw [comes_nil h3]; exact Nat.zero_le _
    | false => refine Nat.le_trans (comes_len h2 h3) ?_; cases iEq x.kind 6 <;> decide
  cases i with
  | zero =>
    have hw0 : was = [] := List.length_eq_zero_iff.1 hwl
    refine codeK_aw hT hM _ _ _ ?_
    conv => whnf
    refine ⟨fun h4 => ?_, fun h4 => ?_⟩
    · have hlt : 0 < (goesOf x).length := by rw [iLt_t] at h4; omega
      rw [take_step l (goesOf x) rest was hlt] at hr
      conv => whnf
      refine ⟨by omega, ?_⟩
      conv => whnf
      refine CallK.go [] (f30 l ((goesOf x).getD 0 noRef) hl) rfl rfl rfl rfl rfl ?_
      conv => whnf
      refine ⟨fun e1 => ?_, fun e1 => ?_⟩
      · have hn : placeIn l ((goesOf x).getD 0 noRef) = none := by
          cases q : placeIn l ((goesOf x).getD 0 noRef) with
          | none => rfl
          | some j =>
            rw [q] at e1
            have e1 : (!iEq 0 0) = true := e1
            rw [iEq_same] at e1; cases e1
        rw [hn] at hr
        have ha : applyF l x = ([], 16) := by unfold applyF; rw [h1, h2, hr]; rfl
        conv => whnf
        exact ⟨[], _, _, _, rfl, rfl, rfl, by rw [ha]; exact nil_take, trivial⟩
      obtain ⟨j, hj⟩ : ∃ j, placeIn l ((goesOf x).getD 0 noRef) = some j := by
        cases q : placeIn l ((goesOf x).getD 0 noRef) with
        | some j => exact ⟨j, rfl⟩
        | none =>
          rw [q] at e1
          have e1 : (!iEq 6 0) = false := e1
          rw [iEq_f.2 (by decide)] at e1; cases e1
      have hf : (fieldAt l (placeIn l ((goesOf x).getD 0 noRef))).1 = l.getD j noField := by rw [hj]; rfl
      rw [hj] at hr
      have hr : takeAll l (goesOf x) l [] = takeAll l ((goesOf x).drop (0 + 1)) (withoutF rest ((goesOf x).getD 0 noRef)).1 (was ++ [(fieldAt l (placeIn l ((goesOf x).getD 0 noRef))).1]) := by rw [hf]; exact hr
      have hff : fitField (fieldAt l (placeIn l ((goesOf x).getD 0 noRef))).1 := by rw [hf]; exact hl.at j
      conv => whnf
      refine ⟨⟨show 1 ≤ 9223372036854775807 by decide, show 1 * 96 ≤ 140737488355328 by decide⟩, ?_⟩
      conv => whnf
      refine CallK.go [] (f29 rest ((goesOf x).getD 0 noRef) hfr) rfl rfl rfl rfl rfl ?_
      conv => whnf
      intro z hz
      have hy := wrap64_eq hz (by omega) (by omega)
      clear hz
      subst hy
      conv => whnf
      refine ⟨(0 + 1, (withoutF rest ((goesOf x).getD 0 noRef)).1, was ++ [(fieldAt l (placeIn l ((goesOf x).getD 0 noRef))).1]), ⟨by omega, by simp [hwl], without_fit hfr, fun y hy => by
          rcases List.mem_append.1 hy with h | h
          · exact hwf y h
          · rw [List.mem_singleton.1 h]; exact hff, hr⟩, by show (goesOf x).length - (0 + 1) < (goesOf x).length - 0; omega,
        (show StLe _ (ap1 l x (0 + 1) (withoutF rest ((goesOf x).getD 0 noRef)).1 (was ++ [(fieldAt l (placeIn l ((goesOf x).getD 0 noRef))).1])) from stleR [(4096, 45080)] ⟨RepLe.refl _, RepLe.refl _, RepLe.refl _, RepLe.refl _, RepLe.refl _, RepLe.refl _, RepLe.of rfl, trivial⟩ ⟨⟨_, rfl, BlkLe.refl _⟩, ⟨_, rfl, by rw [hw0]; exact rowOne (seven (PLe.refl _) (PLe.refl _) (PLe.refl _) (PLe.refl _) (PLe.refl _) (PLe.refl _) (PLe.refl _))⟩, trivial⟩ rfl)⟩
    · have hge : 0 = (goesOf x).length := by rw [iLt_f] at h4; omega
      rw [hge, List.drop_length] at hr
      have hr : takeAll l (goesOf x) l [] = some (rest, was) := hr
      have hwn : was.length = (goesOf x).length := hwl.trans hge
      have hk1 : iEq x.kind 2 = false → 0 < was.length := fun h => by rw [hwn, goes_len h2, h]; cases iEq x.kind 3 <;> cases iEq x.kind 9 <;> decide
      have hk2 : iEq x.kind 9 = true → 1 < was.length := fun h => by rw [hwn, goes_len h2, h, show iEq x.kind 2 = false by rw [iEq_t] at h; rw [iEq_f]; omega, show iEq x.kind 3 = false by rw [iEq_t] at h; rw [iEq_f]; omega]; decide
      have hnl := now_len h2 hwn
      have hnf := now_fit hx (was := was) (fun i => by
        rw [List.getD_eq_getElem?_getD]
        rcases Nat.lt_or_ge i was.length with hi | hi
        · rw [List.getElem?_eq_getElem hi]; exact hwf _ (List.getElem_mem hi)
        · rw [List.getElem?_eq_none hi]; exact Nat.zero_le _)
      have hwo : okFields was := ⟨by rw [hwn, goes_len h2]; cases iEq x.kind 2 <;> cases iEq x.kind 3 <;> cases iEq x.kind 9 <;> decide, fun y hy => (hwf y hy).ok⟩
      conv => whnf
      refine CallK.go [] (GCall.args (f99 x was hx hwo hk1 hk2) ?hh) rfl rfl rfl rfl rfl ?_
      case hh => exact allLe2 (RepLe.refl _) (by rw [hw0]; exact PLe.rep nil_fields)
      conv => whnf
      refine ⟨fun t1 => ?_, fun t1 => ?_⟩
      · have t1 : (turnedOf x was).2 = false := by simpa using t1
        have ha : applyF l x = ([], 16) := by unfold applyF; rw [h1, h2, hr]; show (if (turnedOf x was).2 = true then _ else _) = _; rw [t1]; rfl
        conv => whnf
        exact ⟨[], _, _, _, rfl, rfl, rfl, by rw [ha]; exact nil_take, trivial⟩
      have t1 : (turnedOf x was).2 = true := by simpa using t1
      have ha : applyF l x = putAll (comesOf x) (turnedOf x was).1 rest := by unfold applyF; rw [h1, h2, hr]; show (if (turnedOf x was).2 = true then _ else _) = _; rw [t1]; rfl
      conv => whnf
      refine CallK.go [] (f52 x hx.ok) rfl rfl rfl rfl rfl ?_
      conv => whnf
      refine AW.loop (X := Nat × List SField) (fun p => ap2 x (turnedOf x was).1 p.2 p.1) (fun p => p.1 ≤ (comesOf x).length ∧ fitFields p.2 ∧ applyF l x = putAll ((comesOf x).drop p.1) ((turnedOf x was).1.drop p.1) p.2) (fun p => (comesOf x).length - p.1) (used0 hG _) (0, rest) ⟨Nat.zero_le _, hfr, ha⟩ (show StLe _ (ap2 x (turnedOf x was).1 rest 0) from stle ⟨RepLe.refl _, RepLe.refl _, RepLe.refl _, RepLe.refl _, RepLe.refl _, trivial⟩ trivial rfl) ?_
      rintro ⟨k, rest2⟩ ⟨hk, hfr2, hr2⟩
      have hk : k ≤ (comesOf x).length := hk
      have hfr2 : fitFields rest2 := hfr2
      have hr2 : applyF l x = putAll ((comesOf x).drop k) ((turnedOf x was).1.drop k) rest2 := hr2
      refine codeK_aw hT hM _ _ _ ?_
      conv => whnf
      refine ⟨fun g4 => ?_, fun g4 => ?_⟩
      · have hlt2 : k < (comesOf x).length := by rw [iLt_t] at g4; omega
        rw [put_step (comesOf x) (turnedOf x was).1 rest2 hlt2] at hr2
        conv => whnf
        refine ⟨by omega, ?_⟩
        conv => whnf
        refine ⟨by omega, ?_⟩
        conv => whnf
        refine CallK.go [] (f45 rest2 { (turnedOf x was).1.getD k noField with place := (comesOf x).getD k noRef } hfr2 (hnf k)) rfl rfl rfl rfl rfl ?_
        conv => whnf
        refine ⟨fun g5 => ?_, fun g5 => ?_⟩
        · have g5 : iEq (withF rest2 { (turnedOf x was).1.getD k noField with place := (comesOf x).getD k noRef }).2 0 = false := by simpa using g5
          rw [g5] at hr2
          have hr2 : applyF l x = ([], 16) := hr2
          conv => whnf
          exact ⟨[], _, _, _, rfl, rfl, rfl, by rw [hr2]; exact nil_take, trivial⟩
        have g5 : iEq (withF rest2 { (turnedOf x was).1.getD k noField with place := (comesOf x).getD k noRef }).2 0 = true := by simpa using g5
        rw [g5] at hr2
        conv => whnf
        intro z hz
        have hy := wrap64_eq hz (by omega) (by omega)
        clear hz
        subst hy
        conv => whnf
        exact ⟨(k + 1, (withF rest2 { (turnedOf x was).1.getD k noField with place := (comesOf x).getD k noRef }).1), ⟨by show k + 1 ≤ _; omega, with_fit hfr2 (hnf k), hr2⟩, by show (comesOf x).length - (k + 1) < (comesOf x).length - k; omega, (show StLe _ (ap2 x (turnedOf x was).1 (withF rest2 { (turnedOf x was).1.getD k noField with place := (comesOf x).getD k noRef }).1 (k + 1)) from stle ⟨RepLe.refl _, RepLe.refl _, RepLe.refl _, RepLe.refl _, RepLe.of rfl, trivial⟩ trivial rfl)⟩
      · have hge2 : k = (comesOf x).length := by rw [iLt_f] at g4; omega
        rw [hge2, List.drop_length] at hr2
        have hr2 : applyF l x = (rest2, 0) := hr2
        conv => whnf
        exact ⟨[], _, _, _, rfl, rfl, rfl, by rw [hr2]; exact RepLe.refl _, trivial⟩
  | succ i =>
    refine codeK_aw hT hM _ _ _ ?_
    conv => whnf
    refine ⟨fun h4 => ?_, fun h4 => ?_⟩
    · have hlt : (i + 1) < (goesOf x).length := by rw [iLt_t] at h4; omega
      rw [take_step l (goesOf x) rest was hlt] at hr
      conv => whnf
      refine ⟨by omega, ?_⟩
      conv => whnf
      refine CallK.go [] (f30 l ((goesOf x).getD (i + 1) noRef) hl) rfl rfl rfl rfl rfl ?_
      conv => whnf
      refine ⟨fun e1 => ?_, fun e1 => ?_⟩
      · have hn : placeIn l ((goesOf x).getD (i + 1) noRef) = none := by
          cases q : placeIn l ((goesOf x).getD (i + 1) noRef) with
          | none => rfl
          | some j =>
            rw [q] at e1
            have e1 : (!iEq 0 0) = true := e1
            rw [iEq_same] at e1; cases e1
        rw [hn] at hr
        have ha : applyF l x = ([], 16) := by unfold applyF; rw [h1, h2, hr]; rfl
        conv => whnf
        exact ⟨[], _, _, _, rfl, rfl, rfl, by rw [ha]; exact nil_take, trivial⟩
      obtain ⟨j, hj⟩ : ∃ j, placeIn l ((goesOf x).getD (i + 1) noRef) = some j := by
        cases q : placeIn l ((goesOf x).getD (i + 1) noRef) with
        | some j => exact ⟨j, rfl⟩
        | none =>
          rw [q] at e1
          have e1 : (!iEq 6 0) = false := e1
          rw [iEq_f.2 (by decide)] at e1; cases e1
      have hf : (fieldAt l (placeIn l ((goesOf x).getD (i + 1) noRef))).1 = l.getD j noField := by rw [hj]; rfl
      rw [hj] at hr
      have hr : takeAll l (goesOf x) l [] = takeAll l ((goesOf x).drop ((i + 1) + 1)) (withoutF rest ((goesOf x).getD (i + 1) noRef)).1 (was ++ [(fieldAt l (placeIn l ((goesOf x).getD (i + 1) noRef))).1]) := by rw [hf]; exact hr
      have hff : fitField (fieldAt l (placeIn l ((goesOf x).getD (i + 1) noRef))).1 := by rw [hf]; exact hl.at j
      conv => whnf
      refine ⟨⟨show was.length + 1 ≤ 9223372036854775807 by omega, show (was.length + 1) * 96 ≤ 140737488355328 by omega⟩, ?_⟩
      conv => whnf
      refine CallK.go [] (f29 rest ((goesOf x).getD (i + 1) noRef) hfr) rfl rfl rfl rfl rfl ?_
      conv => whnf
      intro z hz
      have hy := wrap64_eq hz (by omega) (by omega)
      clear hz
      subst hy
      conv => whnf
      refine ⟨((i + 1) + 1, (withoutF rest ((goesOf x).getD (i + 1) noRef)).1, was ++ [(fieldAt l (placeIn l ((goesOf x).getD (i + 1) noRef))).1]), ⟨by omega, by simp [hwl], without_fit hfr, fun y hy => by
          rcases List.mem_append.1 hy with h | h
          · exact hwf y h
          · rw [List.mem_singleton.1 h]; exact hff, hr⟩, by show (goesOf x).length - ((i + 1) + 1) < (goesOf x).length - (i + 1); omega,
        (show StLe _ (ap1 l x ((i + 1) + 1) (withoutF rest ((goesOf x).getD (i + 1) noRef)).1 (was ++ [(fieldAt l (placeIn l ((goesOf x).getD (i + 1) noRef))).1])) from stleR [(4096, 45080)] ⟨RepLe.refl _, RepLe.refl _, RepLe.refl _, RepLe.refl _, RepLe.refl _, RepLe.refl _, RepLe.of rfl, trivial⟩ ⟨⟨_, rfl, BlkLe.refl _⟩, ⟨_, rfl, rowSnoc _ _ (seven (PLe.refl _) (PLe.refl _) (PLe.refl _) (PLe.refl _) (PLe.refl _) (PLe.refl _) (PLe.refl _))⟩, trivial⟩ rfl)⟩
    · have hge : (i + 1) = (goesOf x).length := by rw [iLt_f] at h4; omega
      rw [hge, List.drop_length] at hr
      have hr : takeAll l (goesOf x) l [] = some (rest, was) := hr
      have hwn : was.length = (goesOf x).length := hwl.trans hge
      have hk1 : iEq x.kind 2 = false → 0 < was.length := fun h => by rw [hwn, goes_len h2, h]; cases iEq x.kind 3 <;> cases iEq x.kind 9 <;> decide
      have hk2 : iEq x.kind 9 = true → 1 < was.length := fun h => by rw [hwn, goes_len h2, h, show iEq x.kind 2 = false by rw [iEq_t] at h; rw [iEq_f]; omega, show iEq x.kind 3 = false by rw [iEq_t] at h; rw [iEq_f]; omega]; decide
      have hnl := now_len h2 hwn
      have hnf := now_fit hx (was := was) (fun i => by
        rw [List.getD_eq_getElem?_getD]
        rcases Nat.lt_or_ge i was.length with hi | hi
        · rw [List.getElem?_eq_getElem hi]; exact hwf _ (List.getElem_mem hi)
        · rw [List.getElem?_eq_none hi]; exact Nat.zero_le _)
      have hwo : okFields was := ⟨by rw [hwn, goes_len h2]; cases iEq x.kind 2 <;> cases iEq x.kind 3 <;> cases iEq x.kind 9 <;> decide, fun y hy => (hwf y hy).ok⟩
      conv => whnf
      refine CallK.go [] (f99 x was hx hwo hk1 hk2) rfl rfl rfl rfl rfl ?_
      conv => whnf
      refine ⟨fun t1 => ?_, fun t1 => ?_⟩
      · have t1 : (turnedOf x was).2 = false := by simpa using t1
        have ha : applyF l x = ([], 16) := by unfold applyF; rw [h1, h2, hr]; show (if (turnedOf x was).2 = true then _ else _) = _; rw [t1]; rfl
        conv => whnf
        exact ⟨[], _, _, _, rfl, rfl, rfl, by rw [ha]; exact nil_take, trivial⟩
      have t1 : (turnedOf x was).2 = true := by simpa using t1
      have ha : applyF l x = putAll (comesOf x) (turnedOf x was).1 rest := by unfold applyF; rw [h1, h2, hr]; show (if (turnedOf x was).2 = true then _ else _) = _; rw [t1]; rfl
      conv => whnf
      refine CallK.go [] (f52 x hx.ok) rfl rfl rfl rfl rfl ?_
      conv => whnf
      refine AW.loop (X := Nat × List SField) (fun p => ap2 x (turnedOf x was).1 p.2 p.1) (fun p => p.1 ≤ (comesOf x).length ∧ fitFields p.2 ∧ applyF l x = putAll ((comesOf x).drop p.1) ((turnedOf x was).1.drop p.1) p.2) (fun p => (comesOf x).length - p.1) (used0 hG _) (0, rest) ⟨Nat.zero_le _, hfr, ha⟩ (show StLe _ (ap2 x (turnedOf x was).1 rest 0) from stle ⟨RepLe.refl _, RepLe.refl _, RepLe.refl _, RepLe.refl _, RepLe.refl _, trivial⟩ trivial rfl) ?_
      rintro ⟨k, rest2⟩ ⟨hk, hfr2, hr2⟩
      have hk : k ≤ (comesOf x).length := hk
      have hfr2 : fitFields rest2 := hfr2
      have hr2 : applyF l x = putAll ((comesOf x).drop k) ((turnedOf x was).1.drop k) rest2 := hr2
      refine codeK_aw hT hM _ _ _ ?_
      conv => whnf
      refine ⟨fun g4 => ?_, fun g4 => ?_⟩
      · have hlt2 : k < (comesOf x).length := by rw [iLt_t] at g4; omega
        rw [put_step (comesOf x) (turnedOf x was).1 rest2 hlt2] at hr2
        conv => whnf
        refine ⟨by omega, ?_⟩
        conv => whnf
        refine ⟨by omega, ?_⟩
        conv => whnf
        refine CallK.go [] (f45 rest2 { (turnedOf x was).1.getD k noField with place := (comesOf x).getD k noRef } hfr2 (hnf k)) rfl rfl rfl rfl rfl ?_
        conv => whnf
        refine ⟨fun g5 => ?_, fun g5 => ?_⟩
        · have g5 : iEq (withF rest2 { (turnedOf x was).1.getD k noField with place := (comesOf x).getD k noRef }).2 0 = false := by simpa using g5
          rw [g5] at hr2
          have hr2 : applyF l x = ([], 16) := hr2
          conv => whnf
          exact ⟨[], _, _, _, rfl, rfl, rfl, by rw [hr2]; exact nil_take, trivial⟩
        have g5 : iEq (withF rest2 { (turnedOf x was).1.getD k noField with place := (comesOf x).getD k noRef }).2 0 = true := by simpa using g5
        rw [g5] at hr2
        conv => whnf
        intro z hz
        have hy := wrap64_eq hz (by omega) (by omega)
        clear hz
        subst hy
        conv => whnf
        exact ⟨(k + 1, (withF rest2 { (turnedOf x was).1.getD k noField with place := (comesOf x).getD k noRef }).1), ⟨by show k + 1 ≤ _; omega, with_fit hfr2 (hnf k), hr2⟩, by show (comesOf x).length - (k + 1) < (comesOf x).length - k; omega, (show StLe _ (ap2 x (turnedOf x was).1 (withF rest2 { (turnedOf x was).1.getD k noField with place := (comesOf x).getD k noRef }).1 (k + 1)) from stle ⟨RepLe.refl _, RepLe.refl _, RepLe.refl _, RepLe.refl _, RepLe.of rfl, trivial⟩ trivial rfl)⟩
      · have hge2 : k = (comesOf x).length := by rw [iLt_f] at g4; omega
        rw [hge2, List.drop_length] at hr2
        have hr2 : applyF l x = (rest2, 0) := hr2
        conv => whnf
        exact ⟨[], _, _, _, rfl, rfl, rfl, by rw [hr2]; exact RepLe.refl _, trivial⟩
end Go.Proofs.YtalpbdabeffnlaaGreat
