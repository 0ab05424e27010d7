/- The reckoner is right: regions whose order is drawn. -/
import Derived.Test.YtalpbdabeffnlaaGreatAvSound7
set_option linter.unusedVariables false
set_option linter.unusedSimpArgs false
namespace Go.Av
open Go Go.RowKit
section
variable {P : Program} {T : Nat → Option TI}

theorem andB_iff {a b : Bool} : andB a b = true ↔ a = true ∧ b = true := by cases a <;> simp [andB]
theorem orB_iff {a b : Bool} : orB a b = true ↔ a = true ∨ b = true := by cases a <;> simp [orB]
theorem notB_iff {a : Bool} : notB a = true ↔ a = false := by cases a <;> simp [notB]

theorem tmps_mem : ∀ (l : List Operand) (t : Nat), Operand.tmp t ∈ l → t ∈ tmpsOf l
  | [], t, h => by simp at h
  | .tmp u :: l, t, h => by
    simp only [tmpsOf, List.mem_cons] at h ⊢
    rcases h with h | h
    · injection h with h; exact .inl h
    · exact .inr (tmps_mem l t h)
  | .const _ :: l, t, h => by
    simp only [tmpsOf]
    exact tmps_mem l t (by simpa using h)
  | .global _ :: l, t, h => by
    simp only [tmpsOf]
    exact tmps_mem l t (by simpa using h)
  | .func _ :: l, t, h => by
    simp only [tmpsOf]
    exact tmps_mem l t (by simpa using h)
theorem reads_mem {ops : List Oper} {o : Oper} {t : Nat} (h : Operand.tmp t ∈ o.op.operands.toList) : t ∈ readsT ops o := by
  have := tmps_mem _ t h
  unfold readsT
  split
  · split
    · exact List.mem_cons.2 (.inr this)
    · exact this
  · exact this
theorem reads_guard {ops : List Oper} {o : Oper} {j t : Nat} {want : Bool} (hg : o.guard = some (j, want)) (ht : dstOf ops j = some t) : t ∈ readsT ops o := by
  unfold readsT
  rw [hg]
  simp [ht]
theorem fsts_mem {α : Type} : ∀ (l : List (Nat × α)) (k : Nat) (x : α), (k, x) ∈ l → k ∈ fsts l
  | [], k, x, h => by simp at h
  | (c, y) :: l, k, x, h => by
    simp only [fsts, List.mem_cons, Prod.mk.injEq] at h ⊢
    rcases h with ⟨h, _⟩ | h
    · exact .inl h
    · exact .inr (fsts_mem l k x h)
theorem mem_fsts {α : Type} : ∀ (l : List (Nat × α)) (k : Nat), k ∈ fsts l → ∃ x, (k, x) ∈ l
  | [], k, h => by simp [fsts] at h
  | (c, y) :: l, k, h => by
    simp only [fsts, List.mem_cons] at h
    rcases h with h | h
    · exact ⟨y, by simp [h]⟩
    · obtain ⟨x, hx⟩ := mem_fsts l k h; exact ⟨x, by simp [hx]⟩
theorem upds_other {α : Type} : ∀ (l : List (Nat × α)) (f : Nat → α) (k : Nat), k ∉ fsts l → upds f l k = f k
  | [], f, k, _ => rfl
  | (c, y) :: l, f, k, h => by
    simp only [fsts, List.mem_cons, not_or] at h
    show upds (upd f c y) l k = _
    rw [upds_other l _ k h.2, upd_other _ _ (Ne.symm h.1)]
theorem upds_congr {α : Type} : ∀ (l : List (Nat × α)) (f g : Nat → α) (k : Nat), k ∈ fsts l → upds f l k = upds g l k
  | [], f, g, k, h => by simp [fsts] at h
  | (c, y) :: l, f, g, k, h => by
    show upds (upd f c y) l k = upds (upd g c y) l k
    by_cases hl : k ∈ fsts l
    · exact upds_congr l _ _ k hl
    · rw [upds_other l _ k hl, upds_other l _ k hl]
      simp only [fsts, List.mem_cons] at h
      rcases h with rfl | h
      · rw [upd_same, upd_same]
      · exact (hl h).elim
theorem upds_comm {α : Type} (l m : List (Nat × α)) (f : Nat → α) (h : ∀ k, k ∈ fsts l → k ∉ fsts m) : upds (upds f l) m = upds (upds f m) l := by
  funext k
  by_cases hl : k ∈ fsts l
  · rw [upds_other m _ k (h k hl)]
    exact upds_congr l _ _ k hl
  · rw [upds_other l _ k hl]
    by_cases hm : k ∈ fsts m
    · exact upds_congr m _ _ k hm
    · rw [upds_other m _ k hm, upds_other m _ k hm, upds_other l _ k hl]
theorem upds_true : ∀ (l : List Nat) (us : Nat → Bool) (b : Nat), upds us (l.map (·, true)) b = (memB b l || us b)
  | [], us, b => by simp [upds, memB]
  | c :: l, us, b => by
    show upds (upd us c true) (l.map (·, true)) b = _
    rw [upds_true l]
    simp only [memB]
    rcases upd_cases us c b true with ⟨rfl, e⟩ | ⟨hne, e⟩
    · rw [e]; simp
    · rw [e]
      split
      · rename_i hb; exact absurd (beq_yes hb) hne
      · rfl

structure Indep (ops : List Oper) (x y : Item) : Prop where
  t1 : ∀ d, x.o.dst = some d → d ∉ readsT ops y.o
  t2 : ∀ d, y.o.dst = some d → d ∉ readsT ops x.o
  t3 : ∀ d, x.o.dst = some d → y.o.dst ≠ some d
  n1 : ∀ b, b ∈ fsts x.e.ups ∨ b ∈ x.e.nw → b ∉ y.e.rd ∧ b ∉ y.e.nw
  n2 : ∀ b, b ∈ fsts y.e.ups ∨ b ∈ y.e.nw → b ∉ x.e.rd ∧ b ∉ x.e.nw
theorem memO_no {d : Option Nat} {l : List Nat} (h : memO d l = false) : ∀ t, d = some t → t ∉ l := by
  rintro t rfl hm
  simp only [memO] at h
  rw [(memB_iff l).2 hm] at h; cases h
theorem indepB_spec {ops : List Oper} {x y : Item} (h : indepB ops x.o x.e y.o y.e = true) : Indep ops x y := by
  unfold indepB at h
  simp only [andB_iff, notB_iff] at h
  obtain ⟨h1, h2, h3, h4, h5⟩ := h
  refine ⟨memO_no h1, memO_no h2, ?_, ?_, ?_⟩
  · intro d hd hd'
    rw [hd, hd'] at h3
    simp [sameO] at h3
  · intro b hb
    have := apartB_spec _ _ h4 b (List.mem_append.2 hb)
    simpa [not_or] using this
  · intro b hb
    have := apartB_spec _ _ h5 b (List.mem_append.2 hb)
    simpa [not_or] using this

theorem put_other {σ : St} {ops : List Oper} {x : Item} (hx : ∀ d v, x.e.dst = some (d, v) → x.o.dst = some d) {t : Nat} (ht : ∀ d, x.o.dst = some d → d ≠ t) : (σ.app x.e).τ t = σ.τ t := by
  show σ.put x.e.dst t = _
  cases hd : x.e.dst with
  | none => rfl
  | some d =>
    obtain ⟨d, v⟩ := d
    exact upd_other _ _ (ht d (hx d v hd))

/-- What an operation looks at is as it was. -/
theorem item_past {ops : List Oper} {σ : St} {x y : Item} (hx : ∀ d v, x.e.dst = some (d, v) → x.o.dst = some d) (hi : Indep ops x y) : ItemOk P ops σ y ↔ ItemOk P ops (σ.app x.e) y := by
  have hτ : ∀ t, t ∈ readsT ops y.o → (σ.app x.e).τ t = σ.τ t := fun t ht => put_other (ops := ops) hx fun d hd e => hi.t1 d hd (e ▸ ht)
  have hη : ∀ b, b ∈ y.e.rd → (σ.app x.e).η b = σ.η b := fun b hb => upds_other _ _ _ fun hm => (hi.n1 b (.inl hm)).1 hb
  have hus : ∀ b, b ∈ y.e.nw → (σ.app x.e).us b = σ.us b := by
    intro b hb
    show upds σ.us _ b = _
    rw [upds_true]
    cases hm : memB b x.e.nw with
    | false => rfl
    | true => exact ((hi.n1 b (.inr ((memB_iff _).1 hm))).2 hb).elim
  have hg : GuardVal ops σ y.o y.on ↔ GuardVal ops (σ.app x.e) y.o y.on := by
    unfold GuardVal
    split
    · exact .rfl
    · rename_i j want hgd
      constructor
      · rintro ⟨t, h1, h2⟩; exact ⟨t, h1, by rw [hτ t (reads_guard hgd h1)]; exact h2⟩
      · rintro ⟨t, h1, h2⟩; exact ⟨t, h1, by rw [← hτ t (reads_guard hgd h1)]; exact h2⟩
  have hE : EffOk P y.o σ y.e ↔ EffOk P y.o (σ.app x.e) y.e := by
    constructor
    · intro h G σ2 a w K Q ha
      exact h G σ2 a w K Q ⟨ha.N, fun t ht w F ν v hv => by have := ha.τ t ht w F ν v hv; rwa [hτ t (reads_mem ht)] at this, fun b hb => (ha.η b hb).trans (hη b hb), ha.us⟩
    · intro h G σ2 a w K Q ha
      exact h G σ2 a w K Q ⟨ha.N, fun t ht w F ν v hv => by rw [hτ t (reads_mem ht)]; exact ha.τ t ht w F ν v hv, fun b hb => (ha.η b hb).trans (hη b hb).symm, ha.us⟩
  constructor
  · intro h; exact ⟨hg.1 h.gv, h.dst, h.ed, h.eds, fun b hb => by rw [hus b hb]; exact h.nw b hb, h.ups, fun ho => hE.1 (h.yes ho), h.no⟩
  · intro h; exact ⟨hg.2 h.gv, h.dst, h.ed, h.eds, fun b hb => by rw [← hus b hb]; exact h.nw b hb, h.ups, fun ho => hE.2 (h.yes ho), h.no⟩

theorem app_comm {ops : List Oper} {σ : St} {x y : Item} (hx : ItemOk P ops σ x) (hy : ∀ d v, y.e.dst = some (d, v) → y.o.dst = some d) (hyu : ∀ b u, (b, u) ∈ y.e.ups → b ∈ y.e.rd ∨ b ∈ y.e.nw) (hi : Indep ops x y) : (σ.app x.e).app y.e = (σ.app y.e).app x.e := by
  have h1 : ((σ.app x.e).app y.e).τ = ((σ.app y.e).app x.e).τ := by
    show (σ.app x.e).put y.e.dst = (σ.app y.e).put x.e.dst
    cases hxd : x.e.dst with
    | none =>
      show (σ.app x.e).put y.e.dst = (σ.app y.e).τ
      have : (σ.app x.e).τ = σ.τ := by show σ.put x.e.dst = _; rw [hxd]; rfl
      cases hyd : y.e.dst with
      | none => show (σ.app x.e).τ = σ.put y.e.dst; rw [this, hyd]; rfl
      | some d => obtain ⟨d, v⟩ := d; show upd (σ.app x.e).τ d v = σ.put y.e.dst; rw [this, hyd]; rfl
    | some dv =>
      obtain ⟨d, v⟩ := dv
      have hxt : (σ.app x.e).τ = upd σ.τ d v := by show σ.put x.e.dst = _; rw [hxd]; rfl
      cases hyd : y.e.dst with
      | none =>
        have : (σ.app y.e).τ = σ.τ := by show σ.put y.e.dst = _; rw [hyd]; rfl
        show (σ.app x.e).τ = upd (σ.app y.e).τ d v
        rw [hxt, this]
      | some d2 =>
        obtain ⟨d2, v2⟩ := d2
        have hyt : (σ.app y.e).τ = upd σ.τ d2 v2 := by show σ.put y.e.dst = _; rw [hyd]; rfl
        show upd (σ.app x.e).τ d2 v2 = upd (σ.app y.e).τ d v
        rw [hxt, hyt]
        have hne : d ≠ d2 := by
          intro e
          subst e
          exact hi.t3 d (hx.ed d v hxd) (hy d v2 hyd)
        funext t
        rcases upd_cases (upd σ.τ d v) d2 t v2 with ⟨rfl, e⟩ | ⟨h, e⟩
        · rw [e, upd_other _ _ hne, upd_same]
        · rw [e]
          rcases upd_cases σ.τ d t v with ⟨rfl, e'⟩ | ⟨h', e'⟩
          · rw [e', upd_same]
          · rw [e', upd_other _ _ h', upd_other _ _ h]
  have h2 : ((σ.app x.e).app y.e).η = ((σ.app y.e).app x.e).η := by
    refine upds_comm _ _ _ fun k hk hk' => ?_
    obtain ⟨u, hu⟩ := mem_fsts _ _ hk'
    have := hi.n1 k (.inl hk)
    rcases hyu k u hu with h | h
    · exact this.1 h
    · exact this.2 h
  have h3 : ((σ.app x.e).app y.e).us = ((σ.app y.e).app x.e).us := by
    funext b
    show upds (upds σ.us _) _ b = upds (upds σ.us _) _ b
    rw [upds_true, upds_true, upds_true, upds_true]
    cases memB b x.e.nw <;> cases memB b y.e.nw <;> rfl
  show St.mk _ _ _ _ = St.mk _ _ _ _
  congr 1

theorem Indep.symm {ops : List Oper} {x y : Item} (h : Indep ops x y) : Indep ops y x := ⟨h.t2, h.t1, fun d hd hd' => h.t3 d hd' hd, h.n2, h.n1⟩

theorem chain_swap {ops : List Oper} {σ σ' : St} {x y : Item} {its : List Item} (h : Chain P ops σ (x :: y :: its) σ') (hi : Indep ops x y) : Chain P ops σ (y :: x :: its) σ' := by
  cases h with
  | cons hx k => cases k with
    | cons hy k =>
      have hy0 := (item_past hx.ed hi).2 hy
      have hx1 := (item_past (P := P) hy.ed hi.symm).1 hx
      refine .cons hy0 (.cons hx1 ?_)
      rw [← app_comm hx hy.ed hy.ups hi]
      exact k
theorem chain_pull {ops : List Oper} : ∀ (A : List Item) (σ σ' : St) (x : Item) (B : List Item), Chain P ops σ (A ++ x :: B) σ' → (∀ y, y ∈ A → Indep ops y x) → Chain P ops σ (x :: (A ++ B)) σ'
  | [], σ, σ', x, B, h, _ => h
  | y :: A, σ, σ', x, B, h, hi => by
    cases h with
    | cons hy k =>
      have := chain_pull A _ _ x B k fun z hz => hi z (by simp [hz])
      exact chain_swap (.cons hy this) (hi y (by simp))

/-! ### What goes ahead in every order -/
def OnesAt (ops : List Oper) (i k : Nat) : Prop := ∃ o, ops[i]? = some o ∧ k ∈ onesOf o.after.toList
def AncOk (ops : List Oper) (j k : Nat) : Prop := ∀ L : Nat → Prop, (∀ i, L i → ∀ k, OnesAt ops i k → L k) → (∀ k, OnesAt ops j k → L k) → L k

theorem nthL_get : ∀ (l : List (List Nat)) (i : Nat), unionAt.nthL l i = (l[i]?).getD []
  | [], i => by simp [unionAt.nthL]
  | x :: l, 0 => rfl
  | x :: l, i + 1 => by simpa [unionAt.nthL] using nthL_get l i
theorem union_mem (anc : List (List Nat)) : ∀ (l : List Nat) (k : Nat), k ∈ unionAt anc l → k ∈ l ∨ ∃ m, m ∈ l ∧ k ∈ unionAt.nthL anc m
  | [], k, h => by simp [unionAt] at h
  | m :: l, k, h => by
    simp only [unionAt, List.mem_cons, List.mem_append] at h
    rcases h with h | h | h
    · exact .inl (by simp [h])
    · exact .inr ⟨m, by simp, h⟩
    · rcases union_mem anc l k h with h | ⟨m', h1, h2⟩
      · exact .inl (by simp [h])
      · exact .inr ⟨m', by simp [h1], h2⟩
theorem ancs_spec (ops : List Oper) : ∀ (l : List Oper) (acc : List (List Nat)), (∀ j, l[j]? = ops[acc.length + j]?) → (∀ j k, k ∈ unionAt.nthL acc j → AncOk ops j k) → ∀ j k, k ∈ unionAt.nthL (ancs l acc) j → AncOk ops j k
  | [], acc, _, h, j, k, hk => h j k hk
  | o :: l, acc, hl, h, j, k, hk => by
    refine ancs_spec ops l (acc ++ [unionAt acc (onesOf o.after.toList)]) (fun j => ?_) (fun j k hk => ?_) j k hk
    · have := hl (j + 1)
      simp only [List.getElem?_cons_succ] at this
      rw [this, List.length_append]
      congr 1
      simp
      omega
    · rw [nthL_get, List.getElem?_append] at hk
      split at hk
      · exact h j k (by rw [nthL_get]; exact hk)
      · rename_i hge
        cases hj : j - acc.length with
        | succ n => rw [hj] at hk; simp at hk
        | zero =>
          rw [hj] at hk
          simp only [List.getElem?_cons_zero, Option.getD_some] at hk
          have hjl : j = acc.length := by omega
          subst hjl
          have ho : ops[acc.length]? = some o := by have := hl 0; simpa using this.symm
          intro L hL hjL
          rcases union_mem acc _ k hk with h1 | ⟨m, h1, h2⟩
          · exact hjL k ⟨o, ho, h1⟩
          · exact h m k h2 L hL (hL m (hjL m ⟨o, ho, h1⟩))
theorem back_spec : ∀ (l : List Oper) (i : Nat), backB i l = true → ∀ j o, l[j]? = some o → ∀ k, k ∈ onesOf o.after.toList → k < i + j
  | [], i, _, j, o, h, _, _ => by simp at h
  | o' :: l, i, hb, j, o, h, k, hk => by
    simp only [backB, andB_iff] at hb
    have lt : ∀ (m : List Nat), backB.allLt i m = true → ∀ k, k ∈ m → k < i := by
      intro m
      induction m with
      | nil => intro _ k h; simp at h
      | cons c m ih =>
        intro h k hk
        simp only [backB.allLt, andB_iff] at h
        rcases List.mem_cons.1 hk with rfl | hk
        · exact Nat.le_of_ble_eq_true h.1
        · exact ih h.2 k hk
    cases j with
    | zero => simp at h; subst h; exact lt _ hb.1 k hk
    | succ j =>
      have := back_spec l (i + 1) hb.2 j o (by simpa using h) k hk
      omega
theorem row_spec (ops : List Oper) (an : List Nat) (o : Oper) (e : Eff) : ∀ (l : List Oper) (m : List Eff) (k : Nat), rowB ops an o e k l m = true → ∀ j o' e', l[j]? = some o' → m[j]? = some e' →
    indepB ops o' e' o e = true ∨ (k + j) ∈ an
  | [], m, k, _, j, o', e', h, _ => by simp at h
  | _ :: _, [], k, _, j, o', e', _, h => by simp at h
  | x :: l, y :: m, k, hb, j, o', e', h1, h2 => by
    simp only [rowB, andB_iff, orB_iff] at hb
    cases j with
    | zero =>
      simp at h1 h2
      subst h1 h2
      rcases hb.1 with h | h
      · exact .inl h
      · exact .inr ((memB_iff _).1 h)
    | succ j =>
      rcases row_spec ops an o e l m (k + 1) hb.2 j o' e' (by simpa using h1) (by simpa using h2) with h | h
      · exact .inl h
      · exact .inr (by rw [show k + (j + 1) = k + 1 + j from by omega]; exact h)
theorem take_get' {α : Type} : ∀ (n : Nat) (l : List α) (j : Nat), j < n → (take_ n l)[j]? = l[j]?
  | 0, l, j, h => by omega
  | n + 1, [], j, h => by simp [take_]
  | n + 1, y :: l, 0, h => by simp [take_]
  | n + 1, y :: l, j + 1, h => by simpa [take_] using take_get' n l j (by omega)
theorem all_spec (ops : List Oper) (anc : List (List Nat)) (effs : List Eff) : ∀ (l : List Oper) (m : List Eff) (i : Nat), allB ops anc effs i l m = true → ∀ j o e, l[j]? = some o → m[j]? = some e →
    ∀ k o' e', k < i + j → ops[k]? = some o' → effs[k]? = some e' → indepB ops o' e' o e = true ∨ k ∈ unionAt.nthL anc (i + j)
  | [], m, i, _, j, o, e, h, _, _, _, _, _, _, _ => by simp at h
  | _ :: _, [], i, _, j, o, e, _, h, _, _, _, _, _, _ => by simp at h
  | x :: l, y :: m, i, hb, j, o, e, h1, h2, k, o', e', hk, h3, h4 => by
    simp only [allB, andB_iff] at hb
    cases j with
    | zero =>
      simp at h1 h2
      subst h1 h2
      have := row_spec ops _ x y _ _ 0 hb.1 k o' e' (by rw [take_get' _ _ _ (by omega)]; exact h3) (by rw [take_get' _ _ _ (by omega)]; exact h4)
      simpa using this
    | succ j =>
      have := all_spec ops anc effs l m (i + 1) hb.2 j o e (by simpa using h1) (by simpa using h2) k o' e' (by omega) h3 h4
      rw [show i + (j + 1) = i + 1 + j from by omega]; exact this
theorem revE_eq : ∀ (l acc : List Eff), revE l acc = l.reverse ++ acc
  | [], acc => rfl
  | e :: l, acc => by simp [revE, revE_eq l]

/-- What the check says. -/
structure OrderOk (ops : List Oper) (its : List Item) : Prop where
  back : ∀ i k, OnesAt ops i k → k < i
  row : ∀ (i j : Nat) x y, i < j → its[i]? = some x → its[j]? = some y → Indep ops x y ∨ AncOk ops j i
theorem orderB_spec {ops : List Oper} {its : List Item} (ho : its.map (·.o) = ops) (h : orderB ops ((its.map (·.e)).reverse) = true) : OrderOk ops its := by
  unfold orderB at h
  rw [andB_iff, revE_eq] at h
  simp only [List.reverse_reverse, List.append_nil] at h
  refine ⟨fun i k ⟨o, h1, h2⟩ => by simpa using back_spec ops 0 h.1 i o h1 k h2, fun i j x y hij hx hy => ?_⟩
  have g1 : ∀ (i : Nat) (z : Item), its[i]? = some z → ops[i]? = some z.o := fun i z hz => by rw [← ho, List.getElem?_map, hz]; rfl
  have g2 : ∀ (i : Nat) (z : Item), its[i]? = some z → (its.map (·.e))[i]? = some z.e := fun i z hz => by rw [List.getElem?_map, hz]; rfl
  rcases all_spec ops _ _ _ _ 0 h.2 j y.o y.e (g1 j y hy) (g2 j y hy) i x.o x.e (by omega) (g1 i x hx) (g2 i x hx) with h1 | h1
  · exact .inl (indepB_spec h1)
  · refine .inr (ancs_spec ops ops [] (fun j => by simp) (fun j k hk => by rw [nthL_get] at hk; simp at hk) j i (by simpa using h1))

/-! ### Every order -/
theorem ready_iff {ops : List Oper} {listed : Array Bool} {i : Nat} : i ∈ Region.ready .any ops.toArray listed ↔ i < ops.length ∧ listed.getD i true = false ∧ ∀ k, OnesAt ops i k → listed.getD k false = true := by
  unfold Region.ready
  rw [List.mem_filter, List.mem_range]
  simp only [List.size_toArray, Bool.and_eq_true, Bool.not_eq_true', List.getElem?_toArray]
  constructor
  · rintro ⟨h1, h2, h3⟩
    refine ⟨h1, h2, fun k ⟨o, ho, hk⟩ => ?_⟩
    rw [ho] at h3
    simp only [Option.map_some, Option.getD_some, Array.all_eq_true'] at h3
    have : ∃ e, e ∈ o.after.toList ∧ Region.binds .any e = true ∧ e.on = k := by
      clear h3 ho
      generalize o.after.toList = l at hk ⊢
      induction l with
      | nil => simp [onesOf] at hk
      | cons e l ih =>
        simp only [onesOf] at hk
        split at hk
        · rename_i hb
          rcases List.mem_cons.1 hk with rfl | hk
          · exact ⟨e, by simp, hb, rfl⟩
          · obtain ⟨e', a, b⟩ := ih hk; exact ⟨e', by simp [a], b⟩
        · obtain ⟨e', a, b⟩ := ih hk; exact ⟨e', by simp [a], b⟩
    obtain ⟨e, h4, h5, rfl⟩ := this
    have := h3 e (by simpa using h4)
    simpa [h5] using this
  · rintro ⟨h1, h2, h3⟩
    refine ⟨h1, h2, ?_⟩
    rw [List.getElem?_eq_getElem h1]
    simp only [Option.map_some, Option.getD_some]
    rw [Array.all_eq_true']
    intro e he
    cases hb : Region.binds .any e with
    | false => rfl
    | true =>
      have := h3 e.on ⟨_, List.getElem?_eq_getElem h1, ?_⟩
      · simpa using this
      · have he' : e ∈ (ops[i]).after.toList := by simpa using he
        revert he'
        induction (ops[i]).after.toList with
        | nil => intro h; simp at h
        | cons e' l ih =>
          intro h
          simp only [onesOf]
          rcases List.mem_cons.1 h with rfl | h
          · rw [hb]; simp
          · split
            · exact List.mem_cons.2 (.inr (ih h))
            · exact ih h

theorem chain_any {ops : List Oper} {its : List Item} (hits : its.map (·.o) = ops) (hok : OrderOk ops its) {Q : Exit → Act → World → Prop} {G : Gh} : ∀ (n : Nat) (R : List (Nat × Item)) (listed : Array Bool) (σ σ' : St),
    R.length = n → listed.size = ops.length → (∀ i, i < ops.length → (listed.getD i true = false ↔ ∃ x, (i, x) ∈ R)) → (∀ i x, (i, x) ∈ R → its[i]? = some x) → R.Pairwise (·.1 < ·.1) →
    (∀ i, i < ops.length → listed.getD i true = true → ∀ k, OnesAt ops i k → listed.getD k true = true) →
    Chain P ops σ (R.map (·.2)) σ' → (∀ a w, Inv G σ' a w → Q .normal a w) → ∀ a w, Inv G σ a w → wpAny P .any ops.toArray Q n listed a w := by
  intro n
  induction n with
  | zero =>
    intro R listed σ σ' hn hsz hl hR hp hcl hc hQ a w hi
    have : R = [] := List.eq_nil_of_length_eq_zero hn
    subst this
    refine ⟨List.eq_nil_iff_forall_not_mem.2 fun i h => ?_, ?_⟩
    · obtain ⟨h1, h2, _⟩ := ready_iff.1 h
      obtain ⟨x, hx⟩ := (hl i h1).1 h2
      simp at hx
    · cases hc with | nil k => exact hQ a w (k.inv hi)
  | succ n ih =>
    intro R listed σ σ' hn hsz hl hR hp hcl hc hQ a w hi
    have hlen : its.length = ops.length := by rw [← hits, List.length_map]
    have gd : ∀ k, k < ops.length → listed.getD k true = listed.getD k false := by
      intro k hk
      have hk' : k < listed.size := by omega
      simp [Array.getD, hk']
    refine ⟨fun hr => ?_, fun i hi' => ?_⟩
    · cases R with
      | nil => simp at hn
      | cons x R =>
        obtain ⟨i, x⟩ := x
        exfalso
        have hix := hR i x (by simp)
        have hil : i < ops.length := by rw [← hlen]; exact (List.getElem?_eq_some_iff.1 hix).1
        have : i ∈ Region.ready .any ops.toArray listed := ready_iff.2 ⟨hil, (hl i hil).2 ⟨x, by simp⟩, fun k hk => by
          have hki := hok.back i k hk
          rw [← gd k (by omega)]
          cases hb : listed.getD k true with
          | true => rfl
          | false =>
            obtain ⟨y, hy⟩ := (hl k (by omega)).1 hb
            rcases List.mem_cons.1 hy with hy | hy
            · simp only [Prod.mk.injEq] at hy; omega
            · have := (List.pairwise_cons.1 hp).1 _ hy
              simp at this; omega⟩
        rw [hr] at this
        simp at this
    · obtain ⟨h1, h2, h3⟩ := ready_iff.1 hi'
      obtain ⟨x, hx⟩ := (hl i h1).1 h2
      obtain ⟨A, B, rfl⟩ := List.append_of_mem hx
      have hpA := List.pairwise_append.1 hp
      have hind : ∀ y, y ∈ A.map (·.2) → Indep ops y x := by
        intro y hy
        obtain ⟨⟨k, y'⟩, hk, rfl⟩ := List.mem_map.1 hy
        have hki : k < i := hpA.2.2 (k, y') hk (i, x) (by simp)
        rcases hok.row k i y' x hki (hR k y' (by simp [hk])) (hR i x (by simp)) with h | h
        · exact h
        · exfalso
          have := h (fun m => listed.getD m true = true) (fun m hm k' hk' => by
            rcases Nat.lt_or_ge m ops.length with hml | hml
            · exact hcl m hml hm k' hk'
            · obtain ⟨o, ho, _⟩ := hk'
              rw [List.getElem?_eq_none hml] at ho; cases ho) (fun k' hk' => by
            have := h3 k' hk'
            have hlt := hok.back i k' hk'
            rw [gd k' (by omega)]; exact this)
          rw [(hl k (by omega)).2 ⟨y', by simp [hk]⟩] at this
          cases this
      have hc' : Chain P ops σ (x :: (A.map (·.2) ++ B.map (·.2))) σ' := chain_pull _ _ _ x _ (by simpa using hc) hind
      cases hc' with
      | cons hix k =>
        have hixo : ops[i]? = some x.o := by rw [← hits, List.getElem?_map, hR i x (by simp)]; rfl
        have hstep := item_step hix hi (K := wpAny P .any ops.toArray Q n (listed.setIfInBounds i true)) (Q := Q) fun a' w' hi2 => by
          refine ih (A ++ B) _ _ σ' (by simp at hn ⊢; omega) (by simpa using hsz) (fun j hj => ?_) (fun j y hy => hR j y (by
              rcases List.mem_append.1 hy with h | h
              · simp [h]
              · simp [h])) ?_ (fun j hj hlj k' hk' => ?_) (by simpa using k) hQ a' w' hi2
          · have hjs : j < listed.size := by omega
            by_cases hji : j = i
            · subst hji
              have : (listed.setIfInBounds j true).getD j true = true := by simp [Array.getD, hjs]
              rw [this]
              refine ⟨fun h => (by cases h), fun ⟨y, hy⟩ => ?_⟩
              exfalso
              rcases List.mem_append.1 hy with h | h
              · have := hpA.2.2 (j, y) h (j, x) (by simp)
                simp at this
              · have := (List.pairwise_cons.1 hpA.2.1).1 (j, y) h
                simp at this
            · have : (listed.setIfInBounds i true).getD j true = listed.getD j true := by
                simp only [Array.getD_eq_getD_getElem?]
                rw [Array.getElem?_setIfInBounds_ne (Ne.symm hji)]
              rw [this, hl j hj]
              constructor
              · rintro ⟨y, hy⟩
                rcases List.mem_append.1 hy with h | h
                · exact ⟨y, by simp [h]⟩
                · rcases List.mem_cons.1 h with h | h
                  · simp only [Prod.mk.injEq] at h; exact absurd h.1 hji
                  · exact ⟨y, by simp [h]⟩
              · rintro ⟨y, hy⟩
                refine ⟨y, ?_⟩
                rcases List.mem_append.1 hy with h | h
                · simp [h]
                · simp [h]
          · rw [List.pairwise_append]
            exact ⟨hpA.1, (List.pairwise_cons.1 hpA.2.1).2, fun u hu v hv => hpA.2.2 u hu v (by simp [hv])⟩
          · have mono : ∀ m, listed.getD m true = true → (listed.setIfInBounds i true).getD m true = true := by
              intro m hm
              by_cases hmi : m = i
              · subst hmi
                have hjs : m < listed.size := by omega
                simp [Array.getD, hjs]
              · simp only [Array.getD_eq_getD_getElem?] at hm ⊢
                rw [Array.getElem?_setIfInBounds_ne (Ne.symm hmi)]
                exact hm
            by_cases hji : j = i
            · subst hji
              refine mono k' ?_
              have hlt := hok.back j k' hk'
              rw [gd k' (by omega)]
              exact h3 k' hk'
            · refine mono k' (hcl j hj ?_ k' hk')
              simp only [Array.getD_eq_getD_getElem?] at hlj ⊢
              rw [Array.getElem?_setIfInBounds_ne (Ne.symm hji)] at hlj
              exact hlj
        unfold wpOp
        rw [List.getElem?_toArray, hixo]
        show if Region.wanted x.o (yielded ops.toArray a.tmps) = true then _ else _
        by_cases hw : Region.wanted x.o (yielded ops.toArray a.tmps) = true
        · rw [if_pos hw] at hstep ⊢; exact .inl hstep
        · rw [if_neg hw] at hstep ⊢; exact hstep

theorem enum_pairs (its : List Item) : ∀ (i : Nat), ∃ R : List (Nat × Item), R.map (·.2) = its ∧ R.length = its.length ∧ (∀ j x, (j, x) ∈ R ↔ i ≤ j ∧ its[j - i]? = some x) ∧ R.Pairwise (·.1 < ·.1) := by
  induction its with
  | nil => intro i; exact ⟨[], rfl, rfl, by simp, List.Pairwise.nil⟩
  | cons y its ih =>
    intro i
    obtain ⟨R, h1, h2, h3, h4⟩ := ih (i + 1)
    refine ⟨(i, y) :: R, by simp [h1], by simp [h2], fun j x => ?_, List.pairwise_cons.2 ⟨fun (p : Nat × Item) h => by have := ((h3 p.1 p.2).1 h).1; show i < p.1; omega, h4⟩⟩
    constructor
    · intro h
      rcases List.mem_cons.1 h with h | h
      · simp only [Prod.mk.injEq] at h
        obtain ⟨rfl, rfl⟩ := h
        simp
      · obtain ⟨a, b⟩ := (h3 j x).1 h
        refine ⟨by omega, ?_⟩
        rw [show j - i = (j - (i + 1)) + 1 from by omega]
        simpa using b
    · rintro ⟨a, b⟩
      by_cases hj : j = i
      · subst hj
        simp at b
        subst b
        simp
      · refine List.mem_cons.2 (.inr ((h3 j x).2 ⟨by omega, ?_⟩))
        rw [show j - i = (j - (i + 1)) + 1 from by omega] at b
        simpa using b

/-- THE REGION, whatever order is drawn. -/
theorem region_sound (hT : TabOk P T) {ops : List Oper} {nm : Nat} {id : Nat} {σ : St} {draws : Bool} (hm : P.follows .mixedOrders = true) {K : St → Prop}
    (h : opsK P T ops nm ops [] σ fun acc σ' => (draws = true → orderB ops acc = true) ∧ K σ') {G : Gh} {Q : Exit → Act → World → Prop} (hQ : ∀ σ' a w, K σ' → Inv G σ' a w → Q .normal a w) {a : Act} {w : World} (hi : Inv G σ a w) :
    (Code.region id ops.toArray draws).wp P Q a w := by
  obtain ⟨its, σ', h1, ⟨h2, h3⟩, h4⟩ := opsK_chain hT ops ops nm [] σ _ h
  cases draws with
  | false =>
    refine wp_region_lit ?_
    have := chain_list (Q := Q) (G := G) its σ σ' h4 (fun a w hi' => hQ σ' a w h3 hi') a w hi
    rwa [h1] at this
  | true =>
    have hok := orderB_spec h1 (by simpa using h2 rfl)
    refine wp_region_any hm ?_
    obtain ⟨R, r1, r2, r3, r4⟩ := enum_pairs its 0
    have hlen : its.length = ops.length := by rw [← h1, List.length_map]
    have hi' : Inv G σ a { w with drawn := w.drawn + 1 } := by
      obtain ⟨a1, a2, F, ν, hf⟩ := hi
      have hme : ∀ (F : Nat → Prop) (ν : Nat → Option Value) x v, RepV w F ν x v → RepV { w with drawn := w.drawn + 1 } F ν x v := fun F ν x v hv => RepV.mono (w := w) (w' := { w with drawn := w.drawn + 1 }) (F := F) (ν := ν) (fun _ _ => rfl) (fun _ h => h) (fun _ _ h => h) x v hv
      exact ⟨⟨a1.1, Nat.le_trans a1.2 (Nat.le_succ _)⟩, a2, F, ν, ⟨⟨hf.heap.fb, fun n bn hn => let ⟨u, hu, hr⟩ := hf.heap.rep n bn hn; ⟨u, hu, hr.mono (w := w) (w' := { w with drawn := w.drawn + 1 }) (F := F) (fun _ _ => rfl) (fun _ h => h) (fun _ _ h => h) (fun _ _ => rfl)⟩, hf.heap.sep, hf.heap.out⟩,
        fun t => hme _ _ _ _ (hf.tmps t), hf.names, ⟨hf.ext.size, hf.ext.blk, hf.ext.os, hf.ext.tape, hf.ext.output⟩, hf.same, hf.owns, hf.fl, hf.fr, hf.used⟩⟩
    have := chain_any (P := P) h1 hok (Q := Q) (G := G) ops.length R (Array.replicate ops.length false) σ σ' (by omega) (by simp) (fun i hl => by
        have : (Array.replicate ops.length false).getD i true = false := by simp [Array.getD, hl]
        rw [this]
        refine ⟨fun _ => ⟨its[i]'(by omega), (r3 i _).2 ⟨by omega, by simp⟩⟩, fun _ => rfl⟩) (fun i x hx => by simpa using ((r3 i x).1 hx).2) r4 (fun i hl hlt => by
        have : (Array.replicate ops.length false).getD i true = false := by simp [Array.getD, hl]
        rw [this] at hlt; cases hlt) (by rw [r1]; exact h4) (fun a w hh => hQ σ' a w h3 hh) a _ hi'
    simpa using this
end
end Go.Av
