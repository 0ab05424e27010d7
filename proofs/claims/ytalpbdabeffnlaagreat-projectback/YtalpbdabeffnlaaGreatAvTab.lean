/- A table of types, from facts on each. -/
import Derived.Test.YtalpbdabeffnlaaGreatAvRules
import Derived.Laws.StructEq
set_option linter.unusedVariables false
set_option linter.unusedSimpArgs false
namespace Go.Av
open Go Go.RowKit

def FieldsOk (P : Program) : List Field → List (Nat × Nat × Bool) → Prop
  | [], [] => True
  | f :: fl, (o, s, a) :: l => f.offset = o ∧ (∀ w, (sizeOf f.type).run P w = .ok s w) ∧ (∀ w, (isAgg f.type).run P w = .ok a w) ∧ (a = false → s = 1) ∧ FieldsOk P fl l
  | _, _ => False
theorem fieldsOk_get {P : Program} : ∀ (fl : List Field) (l : List (Nat × Nat × Bool)), FieldsOk P fl l → ∀ i off size agg, nth? l i = some (off, size, agg) → ∃ f : Field, fl[i]? = some f ∧ f.offset = off ∧
      (∀ w, (sizeOf f.type).run P w = .ok size w) ∧ (∀ w, (isAgg f.type).run P w = .ok agg w) ∧ (agg = false → size = 1)
  | [], [], _, i, off, size, agg, h => by simp [nth?] at h
  | [], _ :: _, h, _, _, _, _, _ => h.elim
  | _ :: _, [], h, _, _, _, _, _ => h.elim
  | f :: fl, (o, s, a) :: l, h, 0, off, size, agg, hn => by
    simp [nth?] at hn
    obtain ⟨rfl, rfl, rfl⟩ := hn
    exact ⟨f, rfl, h.1, h.2.1, h.2.2.1, h.2.2.2.1⟩
  | f :: fl, (o, s, a) :: l, h, i + 1, off, size, agg, hn => fieldsOk_get fl l h.2.2.2.2 i off size agg hn

theorem fieldsOk_len {P : Program} : ∀ (fl : List Field) (l : List (Nat × Nat × Bool)), FieldsOk P fl l → fl.length = l.length
  | [], [], _ => rfl
  | [], _ :: _, h => h.elim
  | _ :: _, [], h => h.elim
  | f :: fl, (o, s, a) :: l, h => by simp [fieldsOk_len fl l h.2.2.2.2]

def FlatOk (P : Program) : List Field → List (Option IntKind) → Nat → Prop
  | [], [], _ => True
  | f :: fl, some k :: l, off => f.name ≠ "_" ∧ f.offset = off ∧ P.underlying f.type = some (.int k) ∧ (∀ w, (isAgg f.type).run P w = .ok false w) ∧ FlatOk P fl l (off + 1)
  | f :: fl, none :: l, off => f.name ≠ "_" ∧ f.offset = off ∧ P.underlying f.type = some .string ∧ (∀ w, (isAgg f.type).run P w = .ok false w) ∧ FlatOk P fl l (off + 1)
  | _, _, _ => False

theorem eqFields_flat {P : Program} (w : World) (d : Nat) (xs ys : Array Value) : ∀ (fl : List Field) (l : List (Option IntKind)) (off : Nat), FlatOk P fl l off → FlatCells l (xs.toList.drop off) → FlatCells l (ys.toList.drop off) →
    (Op.eqFields (d + 1) xs ys fl).run P w = .ok (flatEqV (xs.toList.drop off) (ys.toList.drop off)) w
  | [], [], off, _, hx, hy => by
    have hx : xs.toList.drop off = [] := hx
    rw [hx]
    rfl
  | [], _ :: _, _, h, _, _ => h.elim
  | _ :: _, [], _, h, _, _ => h.elim
  | f :: fl, some k :: l, off, h, hx, hy => by
    obtain ⟨h1, h2, h3, h4, h5⟩ := h
    obtain ⟨a, m, ex, cx⟩ := hx
    obtain ⟨b, m', ey, cy⟩ := hy
    have gx : xs[off]? = some (.int k a) := by
      have := congrArg (fun l : List Value => l[0]?) ex
      simpa [List.getElem?_drop] using this
    have gy : ys[off]? = some (.int k b) := by
      have := congrArg (fun l : List Value => l[0]?) ey
      simpa [List.getElem?_drop] using this
    have dx : xs.toList.drop (off + 1) = m := by rw [← List.drop_drop, ex]; rfl
    have dy : ys.toList.drop (off + 1) = m' := by rw [← List.drop_drop, ey]; rfl
    have ih := eqFields_flat w d xs ys fl l (off + 1) h5 (by rw [dx]; exact cx) (by rw [dy]; exact cy)
    rw [dx, dy] at ih
    subst h2
    simp only [Op.eqFields, if_pos h1, Sem.run_bind, part, h4, Result.andThen_ok, gx, gy, Sem.run_pure, Bool.false_eq_true, if_false, run_equalIn_int w d f.type k k a b h3, Sem.run_ite, ex, ey, flatEqV, ih]
    by_cases hab : a = b
    · simp [hab]
    · simp [hab]
  | f :: fl, none :: l, off, h, hx, hy => by
    obtain ⟨h1, h2, h3, h4, h5⟩ := h
    obtain ⟨a, m, ex, cx⟩ := hx
    obtain ⟨b, m', ey, cy⟩ := hy
    have gx : xs[off]? = some (.string a) := by
      have := congrArg (fun l : List Value => l[0]?) ex
      simpa [List.getElem?_drop] using this
    have gy : ys[off]? = some (.string b) := by
      have := congrArg (fun l : List Value => l[0]?) ey
      simpa [List.getElem?_drop] using this
    have dx : xs.toList.drop (off + 1) = m := by rw [← List.drop_drop, ex]; rfl
    have dy : ys.toList.drop (off + 1) = m' := by rw [← List.drop_drop, ey]; rfl
    have ih := eqFields_flat w d xs ys fl l (off + 1) h5 (by rw [dx]; exact cx) (by rw [dy]; exact cy)
    rw [dx, dy] at ih
    subst h2
    have hse : (a.toList == b.toList) = decide (a = b) := by rw [← sEq_eq]; unfold sEq; rfl
    simp only [Op.eqFields, if_pos h1, Sem.run_bind, part, h4, Result.andThen_ok, gx, gy, Sem.run_pure, Bool.false_eq_true, if_false, run_equalIn_string w d f.type a b h3, Sem.run_ite, ex, ey, flatEqV, ih, hse]
    by_cases hab : a = b
    · simp [hab]
    · simp [hab]

/-- The facts on one type. -/
structure TOk (P : Program) (t : Nat) (ti : TI) : Prop where
  und : ∃ d, P.underlying t = some d ∧ TKok P d ti.kind
  size : ∀ w, (sizeOf t).run P w = .ok ti.size w
  agg : ∀ w, (isAgg t).run P w = .ok ti.agg w
  one : ti.agg = false → ti.size = 1
  info : (P.info? t).map (fun i => (i.size, i.bytes)) = some (ti.size, ti.bytes)
  zero : ti.zero ≠ [] → ∃ z, (P.info? t).map (·.zero) = some (some z) ∧ z.cells = ti.zero.toArray ∧ ti.zero.length = ti.size ∧ allB' Value.oneCell' ti.zero = true ∧ (ti.agg = true → ∃ cs, z = .agg cs)
  flat : ti.flat ≠ [] → P.stoodInHeld t = false ∧ P.eqGuardType P.depth t = false ∧ P.underlying t = some (.struct (P.fieldsOf t)) ∧ FlatOk P (P.fieldsOf t).toList ti.flat 0
theorem TKok.struct {P : Program} {fields : Array Field} {fs : List (Nat × Nat × Bool)} (h : FieldsOk P fields.toList fs) : TKok P (.struct fields) (.struct fs) :=
  ⟨fields, rfl, by rw [← Array.length_toList]; exact fieldsOk_len _ _ h, fun i off size agg hn => let ⟨f, h1, h2⟩ := fieldsOk_get _ _ h i off size agg hn; ⟨f, by simpa using h1, h2⟩⟩

def tabOf (l : List (Nat × TI)) (t : Nat) : Option TI := look l t
where look : List (Nat × TI) → Nat → Option TI
  | [], _ => none
  | (k, x) :: l, t => match Nat.beq k t with | true => some x | false => look l t
def AllOk (P : Program) : List (Nat × TI) → Prop
  | [] => True
  | (t, ti) :: l => TOk P t ti ∧ AllOk P l
theorem tab_ok {P : Program} : ∀ (l : List (Nat × TI)), AllOk P l → ∀ t ti, tabOf.look l t = some ti → TOk P t ti
  | [], _, t, ti, h => by simp [tabOf.look] at h
  | (k, x) :: l, ha, t, ti, h => by
    simp only [tabOf.look] at h
    split at h
    · rename_i hb
      injection h with h
      subst h
      rw [← beq_yes hb]; exact ha.1
    · exact tab_ok l ha.2 t ti h
theorem tabOk {P : Program} {l : List (Nat × TI)} (h : AllOk P l) : TabOk P (tabOf l) := by
  have ok : ∀ t ti, tabOf l t = some ti → TOk P t ti := fun t ti ht => tab_ok l h t ti ht
  refine ⟨fun t ti ht => (ok t ti ht).und, fun t ti ht => (ok t ti ht).size, fun t ti ht => (ok t ti ht).agg, fun t ti ht => (ok t ti ht).one, fun t ti ht => ?_, fun t ti ht hz => let ⟨z, a, b, c, d, e⟩ := (ok t ti ht).zero hz; ⟨z, a, b, c, allB'_spec _ d, e⟩, fun t ti fs ht hk hne w xs ys x y hx hy => ?_⟩
  · have := (ok t ti ht).info
    cases hi : P.info? t with
    | none => rw [hi] at this; cases this
    | some i => rw [hi] at this; simp at this; exact ⟨i, rfl, this.1, this.2⟩
  · obtain ⟨h1, h2, h3, h4⟩ := (ok t ti ht).flat hne
    have he : ∀ w, (Op.equal t (.agg xs.toArray) (.agg ys.toArray)).run P w = .ok (flatEqV xs ys) w := by
      intro w
      unfold Op.equal Op.maxDepth
      rw [show (10000 : Nat) = 9998 + 1 + 1 from rfl, run_equalIn_struct w (9998 + 1) t _ _ h3 h1, eqFields_flat w 9998 xs.toArray ys.toArray _ _ 0 h4 (by simpa using hx) (by simpa using hy)]
      simp
    have hg : ∀ op w, (eqGuard op t x y (.agg xs.toArray) (.agg ys.toArray)).run P w = .ok () w := by
      intro op w
      unfold eqGuard
      cases op <;> simp [h2]
    refine ⟨hg _ _, hg _ _, ?_, ?_⟩
    · simp [binOp, he]
    · simp [binOp, he]
end Go.Av
