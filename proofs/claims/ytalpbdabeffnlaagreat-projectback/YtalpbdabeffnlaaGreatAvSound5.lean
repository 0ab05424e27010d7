/- The reckoner is right: calls. -/
import Derived.Test.YtalpbdabeffnlaaGreatAvSound4
set_option linter.unusedVariables false
set_option linter.unusedSimpArgs false
namespace Go.Av
open Go Go.RowKit

theorem idx_nth : ∀ (N : List Nat) (b i j : Nat), idx N b i = some j → i ≤ j ∧ nth? N (j - i) = some b
  | [], b, i, j, h => by simp [idx] at h
  | c :: l, b, i, j, h => by
    simp only [idx] at h
    split at h
    · rename_i hb
      injection h with h
      subst h
      exact ⟨Nat.le_refl _, by rw [Nat.sub_self]; show some c = some b; rw [beq_yes hb]⟩
    · obtain ⟨h1, h2⟩ := idx_nth l b (i + 1) j h
      refine ⟨by omega, ?_⟩
      rw [show j - i = (j - (i + 1)) + 1 from by omega]
      exact h2
theorem pcells_spec : ∀ (cells : List AV) (l : List PV), pcells cells = some l → l.length = cells.length ∧ ∀ (j : Nat) (x : AV), cells[j]? = some x → x = .p (at_ .any l j)
  | [], l, h => by simp [pcells] at h; subst h; exact ⟨rfl, fun j x hj => by simp at hj⟩
  | .p v :: cells, l, h => by
    simp only [pcells] at h
    split at h
    · rename_i m hm
      injection h with h
      subst h
      obtain ⟨h1, h2⟩ := pcells_spec cells m hm
      refine ⟨by simp [h1], fun j x hj => ?_⟩
      cases j with
      | zero => simp at hj; exact hj.symm
      | succ j => exact h2 j x (by simpa using hj)
    · cases h
  | .pt _ _ :: _, l, h => by simp [pcells] at h
  | .rpt _ _ _ _ :: _, l, h => by simp [pcells] at h
  | .ssl _ _ _ :: _, l, h => by simp [pcells] at h
  | .psl _ _ :: _, l, h => by simp [pcells] at h
  | .sl _ :: _, l, h => by simp [pcells] at h
  | .fnc _ _ :: _, l, h => by simp [pcells] at h
  | .tup _ _ :: _, l, h => by simp [pcells] at h
  | .ag _ _ :: _, l, h => by simp [pcells] at h

theorem boxView_rep {w : World} {F F' : Nat → Prop} {ν : Nat → Option Value} {η : Nat → Option Blk} (hh : HInv w F ν η) {b : Nat} {v : Value} {p : PV} (hp : boxView η b = some p)
    (hv : ∃ g, ν b = some (.pointer (some ⟨g, 0, none⟩)) ∧ v = .pointer (some ⟨g, 0, none⟩)) (hF : ∀ b, F b → F' b) (hB : ∀ c, Base ν η [b] c → F' c) : RepP w F' p v := by
  unfold boxView at hp
  split at hp
  · rename_i ty cells hb
    split at hp
    · rename_i l hl
      injection hp with hp
      subst hp
      obtain ⟨g, hν, rfl⟩ := hv
      obtain ⟨u, hu, g', cs, hu', hg', hs, hc⟩ := hh.rep b _ hb
      rw [hν] at hu
      injection hu with hu
      rw [hu'] at hu
      injection hu with hu
      injection hu with hu
      injection hu with hu
      subst hu
      obtain ⟨q1, q2⟩ := pcells_spec cells l hl
      refine ⟨_, rfl, hB g ⟨b, _, _, by simp, hb, hν, rfl⟩, fun j hj => ?_⟩
      have hj' : j < cells.length := by omega
      have hx := List.getElem?_eq_getElem hj'
      obtain ⟨c, a1, a2, a3⟩ := hc j _ hx
      rw [q2 j _ hx] at a3
      refine ⟨c, ?_, a2, RepP.mono (fun _ _ => rfl) hF _ _ a3⟩
      rw [add_at]
      unfold World.cell?
      rw [hg']
      simpa using a1
    · cases hp
  · cases hp

theorem boxViews_spec (η : Nat → Option Blk) : ∀ (l : List Nat) (vs : List PV), boxViews η l = some vs → vs.length = l.length ∧ ∀ (j b : Nat), l[j]? = some b → boxView η b = some (at_ .any vs j)
  | [], vs, h => by simp [boxViews] at h; subst h; exact ⟨rfl, fun j b hj => by simp at hj⟩
  | b :: l, vs, h => by
    simp only [boxViews] at h
    split at h
    · rename_i v hv
      split at h
      · rename_i m hm
        injection h with h
        subst h
        obtain ⟨h1, h2⟩ := boxViews_spec η l m hm
        refine ⟨by simp [h1], fun j c hj => ?_⟩
        cases j with
        | zero => simp at hj; subst hj; exact hv
        | succ j => exact h2 j c (by simpa using hj)
      · cases h
    · cases h

theorem viewOf_rep {w : World} {F F' : Nat → Prop} {ν : Nat → Option Value} {η : Nat → Option Blk} (hh : HInv w F ν η) {x : AV} {v : Value} (hx : RepV w F ν x v) {p : PV} {ns : List Nat}
    (hp : viewOf η x = some (p, ns)) (hF : ∀ b, F b → F' b) (hB : ∀ b, Base ν η ns b → F' b) : RepP w F' p v := by
  cases x with
  | p q =>
    simp only [viewOf] at hp
    injection hp with hp
    injection hp with h1 h2
    subst h1
    exact RepP.mono (fun _ _ => rfl) hF _ _ hx
  | sl b => exact pureOf_rep hh (x := .sl b) hx (by simpa [viewOf, pureOf] using hp) hF hB
  | pt b i =>
    cases i with
    | succ i => simp [viewOf] at hp
    | zero =>
      simp only [viewOf] at hp
      split at hp
      · rename_i q hq
        injection hp with hp
        injection hp with h1 h2
        subst h1 h2
        exact boxView_rep hh hq hx hF hB
      · cases hp
  | fnc g l =>
    simp only [viewOf] at hp
    split at hp
    · rename_i vs hvs
      injection hp with hp
      injection hp with h1 h2
      subst h1 h2
      obtain ⟨q1, q2⟩ := boxViews_spec η l vs hvs
      obtain ⟨cs, rfl, hs, hc⟩ := hx
      refine ⟨cs, rfl, by omega, fun j hj => ?_⟩
      have hl := List.getElem?_eq_getElem (show j < l.length by omega)
      obtain ⟨g', c1, c2⟩ := hc j _ hl
      exact ⟨_, c1, boxView_rep hh (q2 j _ hl) ⟨g', c2, rfl⟩ hF fun c hcB => hB c (hcB.mono fun n hn => by simp at hn; subst hn; exact List.getElem_mem _)⟩
    · cases hp
  | rpt b k i j => simp [viewOf] at hp
  | ssl b k i => simp [viewOf] at hp
  | psl b i =>
    simp only [viewOf] at hp
    split at hp
    · rename_i e k n f hb
      injection hp with hp
      injection hp with h1 h2
      subst h1 h2
      obtain ⟨u, hu, hr⟩ := hh.rep b _ hb
      obtain ⟨g, n', c, hν, hle, rfl⟩ := hx
      rw [hu] at hν
      injection hν with hν
      subst hν
      have := row_view hr hF fun g hg => hB g ⟨b, _, _, by simp, hb, hu, hg⟩
      obtain ⟨A, c', e1, e2, e3, e4, e5⟩ := this
      injection e1 with e1 e6 e7
      subst e1 e6 e7
      refine ⟨_, c, rfl, by omega, by omega, (fun h => by cases h), fun h0 => ?_⟩
      obtain ⟨ad, q1, q2, q3⟩ := e5 (by omega)
      exact ⟨ad, q1, q2, fun a j ha hj => q3 a j (by omega) hj⟩
    · cases hp
  | tup n f => simp [viewOf] at hp
  | ag n f => simp [viewOf] at hp

theorem argOf0_rep {w : World} {F F' : Nat → Prop} {ν νc : Nat → Option Value} {η : Nat → Option Blk} {N : List Nat} (hh : HInv w F ν η) {x : AV} {v : Value} (hx : RepV w F ν x v) {y : AV} {ns : List Nat}
    (hp : argOf0 η N x = some (y, ns)) (hF : ∀ b, F b → F' b) (hB : ∀ b, Base ν η ns b → F' b) (hν : ∀ j b u, nth? N j = some b → ν b = some u → νc j = some u) : RepV w F' νc y v := by
  have view : ∀ {p : PV} {ms : List Nat}, viewOf η x = some (p, ms) → y = .p p → ns = ms → RepV w F' νc y v := by
    intro p ms h1 h2 h3
    subst h2 h3
    exact viewOf_rep hh hx h1 hF hB
  cases x with
  | p q =>
    simp only [argOf0] at hp
    injection hp with hp
    injection hp with h1 h2
    subst h1
    exact RepP.mono (fun _ _ => rfl) hF _ _ hx
  | sl b =>
    simp only [argOf0] at hp
    split at hp
    · rename_i j hj
      injection hp with hp
      injection hp with h1 h2
      subst h1
      exact hν j b v (by simpa using (idx_nth N b 0 j hj).2) hx
    · split at hp
      · rename_i q ms hq
        injection hp with hp
        injection hp with h1 h2
        exact view hq h1.symm h2.symm
      · cases hp
  | pt b i =>
    simp only [argOf0] at hp
    split at hp
    · rename_i j hj
      injection hp with hp
      injection hp with h1 h2
      subst h1
      obtain ⟨g, c1, c2⟩ := hx
      exact ⟨g, hν j b _ (by simpa using (idx_nth N b 0 j hj).2) c1, c2⟩
    · split at hp
      · rename_i q ms hq
        injection hp with hp
        injection hp with h1 h2
        exact view hq h1.symm h2.symm
      · cases hp
  | fnc g l =>
    simp only [argOf0] at hp
    split at hp
    · rename_i q ms hq
      injection hp with hp
      injection hp with h1 h2
      exact view hq h1.symm h2.symm
    · cases hp
  | rpt b k i j => simp [argOf0] at hp
  | ssl b k i => simp [argOf0] at hp
  | psl b i =>
    simp only [argOf0] at hp
    split at hp
    · rename_i j hj
      injection hp with hp
      injection hp with h1 h2
      subst h1
      obtain ⟨g, n, c, c1, c2⟩ := hx
      exact ⟨g, n, c, hν j b _ (by simpa using (idx_nth N b 0 j hj).2) c1, c2⟩
    · split at hp
      · rename_i q ms hq
        injection hp with hp
        injection hp with h1 h2
        exact view hq h1.symm h2.symm
      · cases hp
  | tup n f => simp [argOf0] at hp
  | ag n f => simp [argOf0] at hp

theorem argsOf0_rep {w : World} {F F' : Nat → Prop} {ν νc : Nat → Option Value} {η : Nat → Option Blk} {N : List Nat} (hh : HInv w F ν η) (hF : ∀ b, F b → F' b)
    (hν : ∀ j b u, nth? N j = some b → ν b = some u → νc j = some u) : ∀ (xs ys : List AV) (ns : List Nat), argsOf0 η N xs = some (ys, ns) → (∀ b, Base ν η ns b → F' b) → ys.length = xs.length ∧
      ∀ (j : Nat) (y : AV), ys[j]? = some y → ∃ x, xs[j]? = some x ∧ ∀ v, RepV w F ν x v → RepV w F' νc y v
  | [], ys, ns, h, _ => by
    simp [argsOf0] at h
    obtain ⟨rfl, rfl⟩ := h
    exact ⟨rfl, fun j y hj => by simp at hj⟩
  | x :: xs, ys, ns, h, hB => by
    simp only [argsOf0] at h
    split at h
    · rename_i y1 ns1 h1
      split at h
      · rename_i vs2 ms2 h2
        injection h with h
        injection h with e1 e2
        subst e1 e2
        obtain ⟨q1, q2⟩ := argsOf0_rep hh hF hν xs vs2 ms2 h2 fun b hb => hB b (hb.mono fun n hn => List.mem_append.2 (.inr hn))
        refine ⟨by simp [q1], fun j y hj => ?_⟩
        cases j with
        | zero =>
          simp at hj
          subst hj
          exact ⟨x, rfl, fun v hv => argOf0_rep hh hv h1 hF (fun b hb => hB b (hb.mono fun n hn => List.mem_append.2 (.inl hn))) hν⟩
        | succ j =>
          obtain ⟨x', a1, a2⟩ := q2 j y (by simpa using hj)
          exact ⟨x', by simpa using a1, a2⟩
      · cases h
    · cases h

theorem argOf_rep {w : World} {F F' : Nat → Prop} {ν νc : Nat → Option Value} {η : Nat → Option Blk} {N : List Nat} (hh : HInv w F ν η) {x : AV} {v : Value} (hx : RepV w F ν x v) {y : AV} {ns : List Nat}
    (hp : argOf η N x = some (y, ns)) (hF : ∀ b, F b → F' b) (hB : ∀ b, Base ν η ns b → F' b) (hν : ∀ j b u, nth? N j = some b → ν b = some u → νc j = some u) : RepV w F' νc y v := by
  cases x with
  | ag n f =>
    simp only [argOf] at hp
    split at hp
    · rename_i ys ms hys
      obtain ⟨cs, rfl, hs, hc⟩ := hx
      have key : ns = ms → (∀ (j : Nat) (z : AV), ys[j]? = some z → ∃ u, cs[j]? = some u ∧ u.oneCell' = true ∧ RepV w F' νc z u) ∧ ys.length = n := by
        intro e
        subst e
        obtain ⟨q1, q2⟩ := argsOf0_rep hh hF hν _ _ _ hys hB
        rw [upto_len] at q1
        refine ⟨fun j z hz => ?_, q1⟩
        obtain ⟨x, a1, a2⟩ := q2 j z hz
        have hj : j < n := by
          have := (List.getElem?_eq_some_iff.1 hz).1
          omega
        rw [upto_get _ _ _ _ hj, Nat.zero_add] at a1
        injection a1 with a1
        subst a1
        obtain ⟨u, b1, b2, b3⟩ := hc j hj
        exact ⟨u, b1, b2, a2 u b3⟩
      split at hp
      · rename_i vs hvs
        injection hp with hp
        injection hp with h1 h2
        subst h1
        obtain ⟨k1, k2⟩ := key h2.symm
        obtain ⟨p1, p2⟩ := pcells_spec ys vs hvs
        refine ⟨cs, rfl, by omega, fun j hj => ?_⟩
        have hj' : j < ys.length := by omega
        have hg := List.getElem?_eq_getElem hj'
        obtain ⟨u, b1, b2, b3⟩ := k1 j _ hg
        rw [p2 j _ hg] at b3
        exact ⟨u, b1, b2, b3⟩
      · injection hp with hp
        injection hp with h1 h2
        subst h1
        obtain ⟨k1, k2⟩ := key h2.symm
        refine ⟨cs, rfl, by omega, fun j hj => ?_⟩
        have hg := List.getElem?_eq_getElem hj
        obtain ⟨u, b1, b2, b3⟩ := k1 j _ hg
        exact ⟨u, b1, b2, by rw [at_get _ _ _ _ hg]; exact b3⟩
    · cases hp
  | _ => exact argOf0_rep hh hx hp hF hB hν

theorem argsOf_rep {w : World} {F F' : Nat → Prop} {ν νc : Nat → Option Value} {η : Nat → Option Blk} {N : List Nat} (hh : HInv w F ν η) (hF : ∀ b, F b → F' b)
    (hν : ∀ j b u, nth? N j = some b → ν b = some u → νc j = some u) : ∀ (xs ys : List AV) (ns : List Nat), argsOf η N xs = some (ys, ns) → (∀ b, Base ν η ns b → F' b) → ys.length = xs.length ∧
      ∀ (j : Nat) (y : AV), ys[j]? = some y → ∃ x, xs[j]? = some x ∧ ∀ v, RepV w F ν x v → RepV w F' νc y v
  | [], ys, ns, h, _ => by
    simp [argsOf] at h
    obtain ⟨rfl, rfl⟩ := h
    exact ⟨rfl, fun j y hj => by simp at hj⟩
  | x :: xs, ys, ns, h, hB => by
    simp only [argsOf] at h
    split at h
    · rename_i y1 ns1 h1
      split at h
      · rename_i vs2 ms2 h2
        injection h with h
        injection h with e1 e2
        subst e1 e2
        obtain ⟨q1, q2⟩ := argsOf_rep hh hF hν xs vs2 ms2 h2 fun b hb => hB b (hb.mono fun n hn => List.mem_append.2 (.inr hn))
        refine ⟨by simp [q1], fun j y hj => ?_⟩
        cases j with
        | zero =>
          simp at hj
          subst hj
          exact ⟨x, rfl, fun v hv => argOf_rep hh hv h1 hF (fun b hb => hB b (hb.mono fun n hn => List.mem_append.2 (.inl hn))) hν⟩
        | succ j =>
          obtain ⟨x', a1, a2⟩ := q2 j y (by simpa using hj)
          exact ⟨x', by simpa using a1, a2⟩
      · cases h
    · cases h

/-! ### What looks at some names alone -/
theorem boxView_agree {η η' : Nat → Option Blk} {b : Nat} (h : η' b = η b) : boxView η' b = boxView η b := by unfold boxView; rw [h]
theorem boxViews_agree {η η' : Nat → Option Blk} : ∀ (l : List Nat), (∀ b, b ∈ l → η' b = η b) → boxViews η' l = boxViews η l
  | [], _ => rfl
  | b :: l, h => by
    simp only [boxViews]
    rw [boxView_agree (h b (by simp)), boxViews_agree l fun c hc => h c (by simp [hc])]
theorem viewOf_agree {η η' : Nat → Option Blk} {x : AV} {p : PV} {ns : List Nat} (h : viewOf η x = some (p, ns)) (ha : ∀ b, b ∈ ns → η' b = η b) : viewOf η' x = some (p, ns) := by
  cases x with
  | p q => exact h
  | sl b =>
    have h0 := h
    simp only [viewOf] at h ⊢
    split at h
    · rename_i e k n f hb
      injection h with h
      injection h with h1 h2
      subst h1 h2
      rw [ha b (by simp), hb]
    · cases h
  | pt b i =>
    cases i with
    | succ i => simp [viewOf] at h
    | zero =>
      simp only [viewOf] at h ⊢
      split at h
      · rename_i q hq
        injection h with h
        injection h with h1 h2
        subst h1 h2
        rw [boxView_agree (ha b (by simp)), hq]
      · cases h
  | fnc g l =>
    simp only [viewOf] at h ⊢
    split at h
    · rename_i vs hvs
      injection h with h
      injection h with h1 h2
      subst h1 h2
      rw [boxViews_agree l ha, hvs]
    · cases h
  | rpt b k i j => simp [viewOf] at h
  | ssl b k i => simp [viewOf] at h
  | psl b i =>
    simp only [viewOf] at h ⊢
    split at h
    · rename_i e k n f hb
      injection h with h
      injection h with h1 h2
      subst h1 h2
      rw [ha b (by simp), hb]
    · cases h
  | tup n f => simp [viewOf] at h
  | ag n f => simp [viewOf] at h
theorem argOf0_agree {η η' : Nat → Option Blk} {N : List Nat} {x y : AV} {ns : List Nat} (h : argOf0 η N x = some (y, ns)) (ha : ∀ b, b ∈ ns → η' b = η b) : argOf0 η' N x = some (y, ns) := by
  have view : ∀ (o : Option (PV × List Nat)) (o' : Option (PV × List Nat)), (∀ p ms, o = some (p, ms) → (∀ b, b ∈ ms → η' b = η b) → o' = some (p, ms)) →
      (match o with | some (v, ns) => some (AV.p v, ns) | none => none) = some (y, ns) → (match o' with | some (v, ns) => some (AV.p v, ns) | none => none) = some (y, ns) := by
    intro o o' hoo hm
    split at hm
    · rename_i p ms
      injection hm with hm
      injection hm with h1 h2
      subst h1 h2
      rw [hoo p ms rfl ha]
    · cases hm
  cases x with
  | p q => exact h
  | sl b =>
    simp only [argOf0] at h ⊢
    split at h
    · exact h
    · exact view _ _ (fun p ms h1 h2 => viewOf_agree h1 h2) h
  | pt b i =>
    simp only [argOf0] at h ⊢
    split at h
    · exact h
    · exact view _ _ (fun p ms h1 h2 => viewOf_agree h1 h2) h
  | fnc g l =>
    simp only [argOf0] at h ⊢
    exact view _ _ (fun p ms h1 h2 => viewOf_agree h1 h2) h
  | rpt b k i j => simp [argOf0] at h
  | ssl b k i => simp [argOf0] at h
  | psl b i =>
    simp only [argOf0] at h ⊢
    split at h
    · exact h
    · exact view _ _ (fun p ms h1 h2 => viewOf_agree h1 h2) h
  | tup n f => simp [argOf0] at h
  | ag n f => simp [argOf0] at h
theorem argsOf0_agree {η η' : Nat → Option Blk} {N : List Nat} : ∀ (xs ys : List AV) (ns : List Nat), argsOf0 η N xs = some (ys, ns) → (∀ b, b ∈ ns → η' b = η b) → argsOf0 η' N xs = some (ys, ns)
  | [], ys, ns, h, _ => h
  | x :: xs, ys, ns, h, ha => by
    simp only [argsOf0] at h ⊢
    split at h
    · rename_i y1 ns1 h1
      split at h
      · rename_i vs2 ms2 h2
        injection h with h
        injection h with e1 e2
        subst e1 e2
        rw [argOf0_agree h1 fun b hb => ha b (List.mem_append.2 (.inl hb)), argsOf0_agree xs _ _ h2 fun b hb => ha b (List.mem_append.2 (.inr hb))]
      · cases h
    · cases h
theorem argOf_agree {η η' : Nat → Option Blk} {N : List Nat} {x y : AV} {ns : List Nat} (h : argOf η N x = some (y, ns)) (ha : ∀ b, b ∈ ns → η' b = η b) : argOf η' N x = some (y, ns) := by
  cases x with
  | ag n f =>
    simp only [argOf] at h ⊢
    split at h
    · rename_i ys ms hys
      have e : ns = ms := by
        split at h
        · injection h with h; injection h with h1 h2; exact h2.symm
        · injection h with h; injection h with h1 h2; exact h2.symm
      rw [argsOf0_agree _ _ _ hys fun b hb => ha b (e ▸ hb)]
      exact h
    · cases h
  | p v => exact h
  | pt b i => exact (argOf0_agree (x := .pt b i) h ha : argOf0 η' N (.pt b i) = _)
  | rpt b k i j => exact (argOf0_agree (x := .rpt b k i j) h ha : argOf0 η' N (.rpt b k i j) = _)
  | ssl b k i => exact (argOf0_agree (x := .ssl b k i) h ha : argOf0 η' N (.ssl b k i) = _)
  | psl b i => exact (argOf0_agree (x := .psl b i) h ha : argOf0 η' N (.psl b i) = _)
  | sl b => exact (argOf0_agree (x := .sl b) h ha : argOf0 η' N (.sl b) = _)
  | fnc g l => exact (argOf0_agree (x := .fnc g l) h ha : argOf0 η' N (.fnc g l) = _)
  | tup n f => exact (argOf0_agree (x := .tup n f) h ha : argOf0 η' N (.tup n f) = _)
theorem argsOf_agree {η η' : Nat → Option Blk} {N : List Nat} : ∀ (xs ys : List AV) (ns : List Nat), argsOf η N xs = some (ys, ns) → (∀ b, b ∈ ns → η' b = η b) → argsOf η' N xs = some (ys, ns)
  | [], ys, ns, h, _ => h
  | x :: xs, ys, ns, h, ha => by
    simp only [argsOf] at h ⊢
    split at h
    · rename_i y1 ns1 h1
      split at h
      · rename_i vs2 ms2 h2
        injection h with h
        injection h with e1 e2
        subst e1 e2
        rw [argOf_agree h1 fun b hb => ha b (List.mem_append.2 (.inl hb)), argsOf_agree xs _ _ h2 fun b hb => ha b (List.mem_append.2 (.inr hb))]
      · cases h
    · cases h
theorem blksOf_spec {η η' : Nat → Option Blk} : ∀ (N : List Nat) (bs : List (Option Blk)), blksOf η N = some bs → (∀ b, b ∈ N → η' b = η b) → bs.length = N.length ∧ blksOf η' N = some bs ∧
    ∀ (j b : Nat), nth? N j = some b → enumB bs j = η b ∧ pureBlk (η b) = true ∧ ∃ blk, η b = some blk
  | [], bs, h, _ => by simp [blksOf] at h; subst h; exact ⟨rfl, rfl, fun j b hj => by simp [nth?] at hj⟩
  | b :: N, bs, h, ha => by
    simp only [blksOf] at h ⊢
    split at h
    · rename_i blk hblk
      split at h
      · rename_i hp
        split at h
        · rename_i m hm
          injection h with h
          subst h
          obtain ⟨h1, h2, h3⟩ := blksOf_spec N m hm fun c hc => ha c (by simp [hc])
          refine ⟨by simp [h1], by rw [ha b (by simp), hblk]; simp only [hp, h2], fun j c hj => ?_⟩
          cases j with
          | zero => simp [nth?] at hj; subst hj; rw [hblk]; exact ⟨rfl, hp, _, rfl⟩
          | succ j => exact h3 j c hj
        · cases h
      · cases h
    · cases h
end Go.Av
