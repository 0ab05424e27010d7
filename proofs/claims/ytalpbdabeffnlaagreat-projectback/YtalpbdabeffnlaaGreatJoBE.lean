import Derived.Test.YtalpbdabeffnlaaGreatJoAR
/- The reference: a lens' places, a field put. -/
set_option linter.unusedVariables false
set_option linter.unusedSimpArgs false
namespace Go.Proofs.YtalpbdabeffnlaaGreat
open Go Go.Av
set_option maxRecDepth 100000
set_option maxHeartbeats 2000000

theorem f111 (r : SRef) (s : ByteArray) : PCall Tryz.prog 145 [encRef r, .val (.string s)] (.p (encRef { r with name := s })) [] := by
  refine gcode hT hM Tryz.func145 rfl rfl (rv := [(4, some 36)]) rfl rfl rfl fun G hG => ?_
  conv => whnf
  exact ⟨[], _, _, _, rfl, rfl, rfl, RepLe.refl _, trivial⟩
theorem f101 (f : SField) (r : SRef) : PCall Tryz.prog 88 [encField f, encRef r] (.p (encField { f with place := r })) [] := by
  refine gcode hT hM Tryz.func88 rfl rfl (rv := [(4, some 39)]) rfl rfl rfl fun G hG => ?_
  conv => whnf
  exact ⟨[], _, _, _, rfl, rfl, rfl, RepLe.refl _, trivial⟩
def goes2 (x : SLens) : List SRef := if iEq x.kind 2 then [] else if iEq x.kind 3 then [x.field.place] else if iEq x.kind 9 then twoOf x else [x.place]
theorem goes2_eq {x : SLens} (h : lensOk x = true) : goes2 x = goesOf x := by
  unfold goes2 goesOf
  rw [h]
  cases iEq x.kind 2 <;> rfl
theorem f59 (x : SLens) : PCall Tryz.prog 84 [encLens x] (.p (encRefs (goes2 x))) [] := by
  refine gcode hT hM Tryz.func84 rfl rfl (rv := [(2, none)]) rfl rfl rfl fun G hG => ?_
  conv => whnf
  refine ⟨fun k2 => ?_, fun k2 => ?_⟩
  · conv => whnf
    exact ⟨[], _, _, _, rfl, rfl, rfl, nil_refs (by unfold goes2; rw [k2]; rfl), trivial⟩
  conv => whnf
  refine ⟨fun k3 => ?_, fun k3 => ?_⟩
  · conv => whnf
    exact ⟨[], _, _, _, rfl, rfl, rfl, PLe.rep (refs1 (r := x.field.place) (by unfold goes2; rw [k2, k3]; rfl) (three rfl rfl rfl)), trivial⟩
  conv => whnf
  refine ⟨fun k9 => ?_, fun k9 => ?_⟩
  · conv => whnf
    refine CallK.go [] (f111 x.place x.name) rfl rfl rfl rfl rfl ?_
    conv => whnf
    refine CallK.go [] (f111 x.place x.other) rfl rfl rfl rfl rfl ?_
    conv => whnf
    refine ⟨rfl, ?_⟩
    conv => whnf
    exact ⟨[], _, _, _, rfl, rfl, rfl, PLe.rep (refs2 (r := { x.place with name := x.name }) (s := { x.place with name := x.other }) (by unfold goes2; rw [k2, k3, k9]; rfl) (three rfl rfl rfl) (three rfl rfl rfl)), trivial⟩
  conv => whnf
  exact ⟨[], _, _, _, rfl, rfl, rfl, PLe.rep (refs1 (r := x.place) (by unfold goes2; rw [k2, k3, k9]; rfl) (three rfl rfl rfl)), trivial⟩

def comes2 (x : SLens) : List SRef :=
  if iEq x.kind 2 then [x.field.place] else if iEq x.kind 3 then [] else if iEq x.kind 6 then twoOf x else if iEq x.kind 1 then [{ x.place with name := x.name }]
  else if iEq x.kind 4 then [{ x.place with group := noS }] else if iEq x.kind 5 then [{ x.place with group := x.name }] else [x.place]
theorem comes2_eq {x : SLens} (h : lensOk x = true) : comes2 x = comesOf x := by
  unfold comes2 comesOf
  rw [h]
  cases h2 : iEq x.kind 2 with
  | true =>
    rw [show iEq x.kind 3 = false by rw [iEq_t] at h2; rw [iEq_f]; omega]
    rfl
  | false =>
    cases h3 : iEq x.kind 3 with
    | true => rfl
    | false =>
      cases h6 : iEq x.kind 6 with
      | true =>
        rw [show iEq x.kind 1 = false by rw [iEq_t] at h6; rw [iEq_f]; omega, show iEq x.kind 4 = false by rw [iEq_t] at h6; rw [iEq_f]; omega, show iEq x.kind 5 = false by rw [iEq_t] at h6; rw [iEq_f]; omega]
        rfl
      | false => cases iEq x.kind 1 <;> cases iEq x.kind 4 <;> cases iEq x.kind 5 <;> rfl
theorem f60 (x : SLens) : PCall Tryz.prog 86 [encLens x] (.p (encRefs (comes2 x))) [] := by
  refine gcode hT hM Tryz.func86 rfl rfl (rv := [(2, none)]) rfl rfl rfl fun G hG => ?_
  conv => whnf
  refine ⟨fun k2 => ?_, fun k2 => ?_⟩
  · conv => whnf
    exact ⟨[], _, _, _, rfl, rfl, rfl, PLe.rep (refs1 (r := x.field.place) (by unfold comes2; rw [k2]; rfl) (three rfl rfl rfl)), trivial⟩
  conv => whnf
  refine ⟨fun k3 => ?_, fun k3 => ?_⟩
  · conv => whnf
    exact ⟨[], _, _, _, rfl, rfl, rfl, nil_refs (by unfold comes2; rw [k2, k3]; rfl), trivial⟩
  conv => whnf
  refine ⟨fun k6 => ?_, fun k6 => ?_⟩
  · conv => whnf
    refine CallK.go [] (f111 x.place x.name) rfl rfl rfl rfl rfl ?_
    conv => whnf
    refine CallK.go [] (f111 x.place x.other) rfl rfl rfl rfl rfl ?_
    conv => whnf
    refine ⟨rfl, ?_⟩
    conv => whnf
    exact ⟨[], _, _, _, rfl, rfl, rfl, PLe.rep (refs2 (r := { x.place with name := x.name }) (s := { x.place with name := x.other }) (by unfold comes2; rw [k2, k3, k6]; rfl) (three rfl rfl rfl) (three rfl rfl rfl)), trivial⟩
  conv => whnf
  refine ⟨fun k1 => ?_, fun k1 => ?_⟩
  · conv => whnf
    refine CallK.go [] (f111 x.place x.name) rfl rfl rfl rfl rfl ?_
    conv => whnf
    exact ⟨[], _, _, _, rfl, rfl, rfl, PLe.rep (refs1 (r := { x.place with name := x.name }) (by unfold comes2; rw [k2, k3, k6, k1]; rfl) (three rfl rfl rfl)), trivial⟩
  conv => whnf
  refine ⟨fun k4 => ?_, fun k4 => ?_⟩
  · have k5 : iEq x.kind 5 = false := by rw [iEq_t] at k4; rw [iEq_f]; omega
    conv => whnf
    refine ⟨fun h => Bool.noConfusion (k5.symm.trans h), fun _ => ?_⟩
    conv => whnf
    exact ⟨[], _, _, _, rfl, rfl, rfl, PLe.rep (refs1 (r := { x.place with group := noS }) (by unfold comes2; rw [k2, k3, k6, k1, k4]; rfl) (three rfl rfl rfl)), trivial⟩
  conv => whnf
  refine ⟨fun k5 => ?_, fun k5 => ?_⟩
  · conv => whnf
    exact ⟨[], _, _, _, rfl, rfl, rfl, PLe.rep (refs1 (r := { x.place with group := x.name }) (by unfold comes2; rw [k2, k3, k6, k1, k4, k5]; rfl) (three rfl rfl rfl)), trivial⟩
  conv => whnf
  exact ⟨[], _, _, _, rfl, rfl, rfl, PLe.rep (refs1 (r := x.place) (by unfold comes2; rw [k2, k3, k6, k1, k4, k5]; rfl) (three rfl rfl rfl)), trivial⟩

theorem f100 (l : List SField) (f : SField) (b : Bool) (hl : fitFields l) (hf : fitField f) : PCall Tryz.prog 87 [encFields l, encField f, .val (.bool b)] (encTurn ((withF l f).1, b && iEq (withF l f).2 0)) [] := by
  refine gcode hT hM Tryz.func87 rfl rfl (rv := [(6, none), (7, none)]) rfl rfl rfl fun G hG => ?_
  conv => whnf
  refine CallK.go [] (f46 l f hl hf) rfl rfl rfl rfl rfl ?_
  conv => whnf
  refine ⟨fun h => ?_, fun h => ?_⟩
  · conv => whnf
    exact ⟨[], _, _, _, rfl, rfl, rfl, turn_ret (by rw [h]; rfl) (PLe.refl _), trivial⟩
  conv => whnf
  exact ⟨[], _, _, _, rfl, rfl, rfl, turn_bl (by rw [h]; rfl) (PLe.refl _), trivial⟩

def hasRef (l : List SRef) (r : SRef) : Bool := !allUpto (fun i => !sameRef (l.getD i noRef) r) l.length 0
end Go.Proofs.YtalpbdabeffnlaaGreat

/- A row of lenses: where it leads. -/
set_option linter.unusedVariables false
set_option linter.unusedSimpArgs false
namespace Go.Proofs.YtalpbdabeffnlaaGreat
open Go Go.Av
set_option maxRecDepth 100000
set_option maxHeartbeats 4000000

/-! ### What fits stays so; what is right stays so -/
theorem take_fit {l : List SField} (hl : fitFields l) : ∀ (gs : List SRef) (rest was : List SField) (p : List SField × List SField), takeAll l gs rest was = some p → fitFields rest → (∀ y ∈ was, fitField y) → fitFields p.1 ∧ ∀ y ∈ p.2, fitField y
  | [], rest, was, p, h, h1, h2 => by injection h with h; subst h; exact ⟨h1, h2⟩
  | r :: gs, rest, was, p, h, h1, h2 => by
    unfold takeAll at h
    split at h
    · cases h
    · rename_i j hj
      refine take_fit hl gs _ _ p h (without_fit h1) fun y hy => ?_
      rcases List.mem_append.1 hy with h3 | h3
      · exact h2 y h3
      · rw [List.mem_singleton.1 h3]; exact hl.at j
theorem put_fit2 : ∀ (cs : List SRef) (now rest : List SField), fitFields rest → (∀ i, fitField (now.getD i noField)) → fitFields (putAll cs now rest).1
  | [], now, rest, h, _ => h
  | r :: cs, now, rest, h, hn => by
    unfold putAll
    split
    · refine put_fit2 cs _ _ (with_fit h (hn 0)) fun i => ?_
      have := hn (i + 1)
      simpa [List.getD_eq_getElem?_getD, Nat.add_comm] using this
    · exact nil_fit
theorem was_at {was : List SField} (h : ∀ y ∈ was, fitField y) (i : Nat) : fitField (was.getD i noField) := by
  rw [List.getD_eq_getElem?_getD]
  rcases Nat.lt_or_ge i was.length with hi | hi
  · rw [List.getElem?_eq_getElem hi]; exact h _ (List.getElem_mem hi)
  · rw [List.getElem?_eq_none hi]; exact Nat.zero_le _
theorem apply_fit {l : List SField} {x : SLens} (hl : fitFields l) (hx : fitLens x) : fitFields (applyF l x).1 := by
  unfold applyF
  split
  · split
    · exact nil_fit
    · rename_i rest was h
      obtain ⟨h1, h2⟩ := take_fit hl _ _ _ _ h hl (fun y hy => by simp at hy)
      split
      · exact put_fit2 _ _ _ h1 (now_fit hx fun i => was_at h2 i)
      · exact nil_fit
  · exact nil_fit
theorem nil_right : rightFields [] = true := by decide +kernel
theorem erase_get (l : List SField) (j i : Nat) : (l.eraseIdx j).getD i noField = if i < j then l.getD i noField else l.getD (i + 1) noField := by
  rw [List.getD_eq_getElem?_getD, List.getElem?_eraseIdx]
  by_cases h : i < j
  · rw [if_pos h, if_pos h, List.getD_eq_getElem?_getD]
  · rw [if_neg h, if_neg h, List.getD_eq_getElem?_getD]
theorem erase_right {l : List SField} (h : rightFields l = true) (j : Nat) (hj : j < l.length) : rightFields (l.eraseIdx j) = true := by
  have hlen : (l.eraseIdx j).length = l.length - 1 := by rw [List.length_eraseIdx, if_pos hj]
  have h16 : l.length ≤ 16 := by
    have := h
    unfold rightFields at this
    rw [Bool.and_eq_true, iLe_t] at this
    omega
  unfold rightFields
  rw [Bool.and_eq_true, iLe_t, allUpto_iff]
  refine ⟨by omega, fun i _ hi => ?_⟩
  have hi : i < l.length - 1 := by omega
  unfold rightStep
  rw [Bool.and_eq_true, Bool.or_eq_true]
  refine ⟨?_, ?_⟩
  · rw [erase_get]
    by_cases h1 : i < j
    · rw [if_pos h1]; exact (right_step h (by omega)).1
    · rw [if_neg h1]; exact (right_step h (by omega)).1
  · rcases Nat.eq_zero_or_pos i with h0 | h0
    · subst h0; exact .inl (iEq_t.2 rfl)
    · refine .inr ?_
      rw [erase_get, erase_get]
      by_cases h1 : i - 1 < j
      · rw [if_pos h1]
        by_cases h2 : i < j
        · rw [if_pos h2]; exact right_sorted h i (by omega) (i - 1) (by omega)
        · rw [if_neg h2]; exact right_sorted h (i + 1) (by omega) (i - 1) (by omega)
      · rw [if_neg h1, if_neg (by omega)]; exact right_sorted h (i + 1) (by omega) (i - 1 + 1) (by omega)
theorem without_right {l : List SField} (h : rightFields l = true) (r : SRef) : rightFields (withoutF l r).1 = true := by
  unfold withoutF
  rw [h]
  cases hp : placeIn l r with
  | none => exact nil_right
  | some j =>
    show rightFields (notAt l r) = true
    rw [notAt_erase h hp]
    exact erase_right h j (by have := (findUpto_some _ _ _ _ hp).2.1; omega)
theorem take_right {l : List SField} : ∀ (gs : List SRef) (rest was : List SField) (p : List SField × List SField), takeAll l gs rest was = some p → rightFields rest = true → rightFields p.1 = true
  | [], rest, was, p, h, h1 => by injection h with h; subst h; exact h1
  | r :: gs, rest, was, p, h, h1 => by
    unfold takeAll at h
    split at h
    · cases h
    · exact take_right gs _ _ p h (without_right h1 r)
theorem put_right2 : ∀ (cs : List SRef) (now rest : List SField), rightFields rest = true → (putAll cs now rest).2 = 0 → rightFields (putAll cs now rest).1 = true
  | [], now, rest, h, _ => h
  | r :: cs, now, rest, h, hc => by
    unfold putAll at hc ⊢
    split
    · rename_i hz
      rw [if_pos hz] at hc
      refine put_right2 cs _ _ ?_ hc
      rcases with_cases rest { now.getD 0 noField with place := r } with ⟨_, h2⟩ | ⟨k1, k2, k3, k4, k5⟩
      · rw [iEq_t] at hz; exact absurd hz h2
      · rw [k5]; exact put_right k1 k2 k3 k4
    · rename_i hz
      rw [if_neg hz] at hc
      exact absurd hc (by decide)
theorem apply_right {l : List SField} {x : SLens} (h : (applyF l x).2 = 0) : rightFields (applyF l x).1 = true := by
  unfold applyF at h ⊢
  split
  · rename_i hc
    rw [if_pos hc] at h
    rw [Bool.and_eq_true] at hc
    split
    · exact nil_right
    · rename_i rest was ht
      rw [ht] at h
      have hr := take_right _ _ _ _ ht hc.1
      simp only at h ⊢
      split
      · rename_i htu
        rw [if_pos htu] at h
        exact put_right2 _ _ _ hr h
      · exact nil_right
  · exact nil_right

/-! ### A row -/
def chainGo : List SLens → List SField → Nat → List SField × Nat × Int
  | [], cur, i => (cur, i, 0)
  | x :: xs, cur, i => if iEq (applyF cur x).2 0 then chainGo xs (applyF cur x).1 (i + 1) else ([], i, (applyF cur x).2)
def chainF (l : List SField) (row : List SLens) : List SField × Nat × Int := if rightFields l then chainGo row l 0 else ([], 0, 5)
theorem chain_fit : ∀ (row : List SLens) (cur : List SField) (i : Nat), fitFields cur → (∀ x ∈ row, fitLens x) → fitFields (chainGo row cur i).1
  | [], cur, i, h, _ => h
  | x :: xs, cur, i, h, hr => by
    unfold chainGo
    split
    · exact chain_fit xs _ _ (apply_fit h (hr x (by simp))) fun y hy => hr y (by simp [hy])
    · exact nil_fit
theorem chain_right : ∀ (row : List SLens) (cur : List SField) (i : Nat), rightFields cur = true → rightFields (chainGo row cur i).1 = true
  | [], cur, i, h => h
  | x :: xs, cur, i, h => by
    unfold chainGo
    split
    · rename_i hz
      rw [iEq_t] at hz
      exact chain_right xs _ _ (apply_right hz)
    · exact nil_right
theorem chain_shift : ∀ (row : List SLens) (cur : List SField) (i k : Nat), chainGo row cur (i + k) = ((chainGo row cur i).1, (chainGo row cur i).2.1 + k, (chainGo row cur i).2.2)
  | [], cur, i, k => rfl
  | x :: xs, cur, i, k => by
    unfold chainGo
    split
    · rw [show i + k + 1 = (i + 1) + k by omega]; exact chain_shift xs _ _ k
    · rfl
theorem chain_parts : ∀ (p q : List SLens) (cur : List SField) (i : Nat),
    ((chainGo p cur i).2.2 ≠ 0 → chainGo (p ++ q) cur i = chainGo p cur i ∧ (chainGo p cur i).1 = []) ∧
    ((chainGo p cur i).2.2 = 0 → chainGo (p ++ q) cur i = chainGo q (chainGo p cur i).1 (i + p.length))
  | [], q, cur, i => ⟨fun h => absurd rfl h, fun _ => rfl⟩
  | x :: p, q, cur, i => by
    have ih := chain_parts p q (applyF cur x).1 (i + 1)
    simp only [List.cons_append, chainGo]
    cases hz : iEq (applyF cur x).2 0 with
    | true =>
      simp only [if_true]
      rw [List.length_cons, show i + (p.length + 1) = i + 1 + p.length by omega]
      exact ih
    | false =>
      rw [iEq_f] at hz
      exact ⟨fun _ => ⟨rfl, rfl⟩, fun h => absurd h hz⟩
end Go.Proofs.YtalpbdabeffnlaaGreat

/- There and back: aids; the law's function, given the plain law. -/
set_option linter.unusedVariables false
set_option linter.unusedSimpArgs false
namespace Go.Proofs.YtalpbdabeffnlaaGreat
open Go Go.Av
set_option maxRecDepth 100000
set_option maxHeartbeats 2000000

theorem sorted_unique {a b : List SField} (ha : a.Pairwise fun x y => lessRef x.place y.place = true) (hb : b.Pairwise fun x y => lessRef x.place y.place = true) (p : a.Perm b) : a = b := by
  refine List.Perm.eq_of_pairwise (le := fun x y => lessRef x.place y.place = true) (fun x y hx hy h1 h2 => ?_) ha hb p
  have := less_trans h1 h2
  rw [less_irrefl] at this; cases this
theorem right_pairs {l : List SField} (h : rightFields l = true) : l.Pairwise fun x y => lessRef x.place y.place = true := by
  rw [List.pairwise_iff_getElem]
  intro i j hi hj hij
  have := right_sorted h j hj i hij
  rw [List.getD_eq_getElem?_getD, List.getD_eq_getElem?_getD, List.getElem?_eq_getElem hi, List.getElem?_eq_getElem hj] at this
  exact this
/-- What was taken is put back where it was. -/
theorem with_without {l : List SField} {r : SRef} (h : rightFields l = true) {j : Nat} (hp : placeIn l r = some j) : withF (withoutF l r).1 (l.getD j noField) = (l, 0) := by
  obtain ⟨_, hj, hpj, _⟩ := findUpto_some _ _ _ _ hp
  have hj : j < l.length := by omega
  have hpl : (l.getD j noField).place = r := same_ref.1 hpj
  have he : (withoutF l r).1 = l.eraseIdx j := by
    unfold withoutF
    rw [h, hp]
    exact notAt_erase h hp
  rw [he]
  have hr := erase_right h j hj
  have hel : (l.eraseIdx j).length = l.length - 1 := by rw [List.length_eraseIdx, if_pos hj]
  have h16 : l.length ≤ 16 := by
    have := h
    unfold rightFields at this
    rw [Bool.and_eq_true, iLe_t] at this
    omega
  have hno : placeIn (l.eraseIdx j) (l.getD j noField).place = none := by
    cases q : placeIn (l.eraseIdx j) (l.getD j noField).place with
    | none => rfl
    | some k =>
      obtain ⟨_, hk, hpk, _⟩ := findUpto_some _ _ _ _ q
      have hk : k < l.length - 1 := by omega
      have hpk := same_ref.1 hpk
      rw [erase_get] at hpk
      by_cases h1 : k < j
      · rw [if_pos h1] at hpk
        have := right_one h (by omega) hj hpk
        omega
      · rw [if_neg h1] at hpk
        have := right_one h (by omega) hj hpk
        omega
  have hput : putIn (l.eraseIdx j) (l.getD j noField) = l := by
    refine sorted_unique (put_pairs hr hno) (right_pairs h) ((put_perm _ _).trans ?_)
    have hl : l = l.take j ++ l.getD j noField :: l.drop (j + 1) := by
      rw [List.getD_eq_getElem?_getD, List.getElem?_eq_getElem hj]
      exact (List.take_append_drop j l).symm.trans (by rw [List.drop_eq_getElem_cons hj]; rfl)
    rw [List.eraseIdx_eq_take_drop_succ]
    conv => rhs; rw [hl]
    refine List.Perm.trans ?_ List.perm_middle.symm
    exact List.perm_append_comm (l₁ := l.take j ++ l.drop (j + 1)) (l₂ := [l.getD j noField])
  have hok := (right_step h hj).1
  unfold withF
  rw [hr, hok, hno]
  show (if iLt 15 (l.eraseIdx j).length = true then ([], 14) else (putIn (l.eraseIdx j) (l.getD j noField), 0)) = _
  rw [if_neg (by rw [iLt_t, hel]; omega), hput]

theorem turnOf_fit {x : SLens} (hx : fitLens x) : fitLens (turnOf x) := by
  unfold turnOf
  repeat' split
  all_goals first | exact hx | exact ⟨hx.1, hx.2.2, hx.2.1⟩
theorem apply_bad {l : List SField} {x : SLens} (h : (applyF l x).2 ≠ 0) : (applyF l x).1 = [] := by
  have put_bad : ∀ (cs : List SRef) (now rest : List SField), (putAll cs now rest).2 ≠ 0 → (putAll cs now rest).1 = [] := by
    intro cs
    induction cs with
    | nil => intro now rest h; exact absurd rfl h
    | cons r cs ih =>
      intro now rest h
      unfold putAll at h ⊢
      split
      · rename_i hz
        rw [if_pos hz] at h
        exact ih _ _ h
      · rfl
  unfold applyF at h ⊢
  split
  · rename_i hc
    rw [if_pos hc] at h
    split
    · rfl
    · rename_i rest was ht
      rw [ht] at h
      simp only at h ⊢
      split
      · rename_i htu
        rw [if_pos htu] at h
        exact put_bad _ _ _ h
      · rfl
  · rfl
theorem apply_ok {l : List SField} {x : SLens} (h : (applyF l x).2 = 0) : lensOk x = true ∧ rightFields l = true := by
  unfold applyF at h
  cases h1 : rightFields l with
  | false => rw [h1] at h; exact absurd h (show ¬ (5 : Int) = 0 by decide)
  | true =>
    cases h2 : lensOk x with
    | false => rw [h1, h2] at h; exact absurd h (show ¬ (5 : Int) = 0 by decide)
    | true => exact ⟨rfl, rfl⟩

end Go.Proofs.YtalpbdabeffnlaaGreat
