/- The reckoner is right: what it answers of a region is true of every run, in every order that may be drawn. -/
import Derived.Test.YtalpbdabeffnlaaGreatAvDef
import Derived.Below
import Derived.Laws.OwnMore
import Derived.Deep.AppendLies
set_option linter.unusedVariables false
set_option linter.unusedSimpArgs false
namespace Go.Av
open Go
/-! A run draws no less than it did. -/
theorem ask_drawn {α : Type} (m : Ask α) : ∀ (w : World), w.drawn ≤ (w.ask m).2.drawn := by
  induction m with
  | done a => intro w; exact Nat.le_refl _
  | ask what range k ih =>
    intro w
    unfold World.ask
    simp only
    split
    · exact ih _ _
    · have q := ih (Question.cut (.extern what range) (w.tape w.drawn (.extern what range))) { w with drawn := w.drawn + 1 }
      exact Nat.le_trans (Nat.le_succ _) q
theorem sys_drawn (w : World) (c : Sys) : w.drawn ≤ (w.sys c).2.drawn := by
  unfold World.sys
  have := ask_drawn (Kernel.perform c w.os) w
  split
  · exact Nat.le_refl _
  · rename_i r os w' h
    rw [h] at this
    exact this
theorem viewStore_drawn {P : Program} {w w' : World} {at_ : Addr} {u : TypeId} {k : Addr} {v : Value} {b : Bool} {l : List Addr} (h : w.viewStore P at_ u k v b = .ok (w', l)) : w.drawn ≤ w'.drawn := by
  unfold World.viewStore at h
  simp only [bind, Except.bind, pure, Except.pure] at h
  repeat' split at h
  all_goals first | (cases h; done) | (injection h with h; injection h with h; subst h; exact Nat.le_refl _) | skip
theorem drawn_run {P : Program} {α : Type} (m : Sem α) : ∀ {w w' : World} {a : α}, m.run P w = .ok a w' → w.drawn ≤ w'.drawn := by
  induction m with
  | pure a => intro w w' b h; simp only [Sem.run] at h; injection h with _ h; subst h; exact Nat.le_refl _
  | load m a k ih =>
    intro w w' b h
    simp only [Sem.run] at h
    split at h
    · exact ih _ h
    · split at h
      · exact ih _ h
      · cases h
  | store m a v k ih =>
    intro w w' b h
    have key : (match w.cell? a with
      | some _ => if w.frozen? a then .halt (.unsupported (.unsafePointer "a write to bytes that a string shares")) w else k.run P (w.setCell a v)
      | none => match w.farStore P a v (m == .atomic) with
        | .ok (w, _) => k.run P w
        | .error h => .halt h w) = Result.ok b w' → w.drawn ≤ w'.drawn := by
      intro h
      split at h
      · split at h
        · cases h
        · have q := ih h
          exact q
      · split at h
        · rename_i w2 l hfs
          refine Nat.le_trans ?_ (ih h)
          unfold World.farStore at hfs
          split at hfs
          · split at hfs
            · rename_i r hr
              injection hfs with hfs
              subst hfs
              exact viewStore_drawn hr
            · cases hfs
          · cases hfs
        · cases h
    cases v with
    | agg cs => simp only [Sem.run] at h; cases h
    | tuple cs => simp only [Sem.run] at h; cases h
    | _ => exact key h
  | new o k ih =>
    intro w w' b h
    simp only [Sem.run] at h
    have q := ih _ h
    exact q
  | shape r k ih => intro w w' b h; simp only [Sem.run] at h; exact ih _ h
  | freeze a n k ih =>
    intro w w' b h
    simp only [Sem.run] at h
    refine Nat.le_trans ?_ (ih h)
    unfold World.freeze
    first | exact Nat.le_refl _ | (split <;> exact Nat.le_refl _)
  | frozen a k ih => intro w w' b h; simp only [Sem.run] at h; exact ih _ h
  | getObj r k ih =>
    intro w w' b h
    simp only [Sem.run] at h
    split at h
    · cases h
    · exact ih _ h
    · cases h
  | setObj r o k ih =>
    intro w w' b h
    simp only [Sem.run] at h
    split at h
    · cases h
    · have q := ih h
      exact q
    · cases h
  | choose q k ih =>
    intro w w' b h
    simp only [Sem.run] at h
    split at h
    · exact ih _ h
    · exact Nat.le_trans (Nat.le_succ _) (ih _ h)
  | sys c k ih => intro w w' b h; simp only [Sem.run] at h; exact Nat.le_trans (sys_drawn w c) (ih _ h)
  | program k ih => intro w w' b h; simp only [Sem.run] at h; exact ih _ h
  | mark m k ih => intro w w' b h; simp only [Sem.run] at h; exact ih h
  | halt h => intro w w' b h; simp only [Sem.run] at h; cases h

theorem beq_yes {a b : Nat} (h : Nat.beq a b = true) : a = b := Nat.eq_of_beq_eq_true h
theorem beq_no {a b : Nat} (h : Nat.beq a b = false) : a ≠ b := Nat.ne_of_beq_eq_false h
theorem upd_same {α : Type} (f : Nat → α) (k : Nat) (x : α) : upd f k x k = x := by
  unfold upd; simp
theorem upd_other {α : Type} (f : Nat → α) {k t : Nat} (x : α) (h : k ≠ t) : upd f k x t = f t := by
  unfold upd
  cases hb : Nat.beq k t with
  | false => rfl
  | true => exact absurd (beq_yes hb) h
theorem upd_cases {α : Type} (f : Nat → α) (k t : Nat) (x : α) : (k = t ∧ upd f k x t = x) ∨ (k ≠ t ∧ upd f k x t = f t) := by
  by_cases h : k = t
  · subst h; exact .inl ⟨rfl, upd_same _ _ _⟩
  · exact .inr ⟨h, upd_other _ _ h⟩

theorem block_add (a : Addr) (n : Nat) : (a.add n).block = a.block := by unfold Addr.add; split <;> rfl
theorem add_add' (a : Addr) (i j : Nat) : (a.add i).add j = a.add (i + j) := by
  unfold Addr.add
  by_cases hi : i = 0 <;> by_cases hj : j = 0 <;> simp [hi, hj, Nat.add_assoc]
theorem add_at (g i : Nat) : (⟨g, 0, none⟩ : Addr).add i = ⟨g, i, none⟩ := by unfold Addr.add; split <;> simp_all
theorem at_add (g i j : Nat) : (⟨g, i, none⟩ : Addr).add j = ⟨g, i + j, none⟩ := by unfold Addr.add; split <;> simp_all

theorem cell_of_heap {w w' : World} {a : Addr} (h : w'.heap[a.block]? = w.heap[a.block]?) : w'.cell? a = w.cell? a := by
  unfold World.cell?; rw [h]

theorem RepP.mono {w w' : World} {F F' : Nat → Prop} (hb : ∀ b, F b → w'.heap[b]? = w.heap[b]?) (hF : ∀ b, F b → F' b) :
    ∀ (p : PV) (v : Value), RepP w F p v → RepP w' F' p v := by
  intro p
  induction p with
  | any => intro v h; exact trivial
  | bl b => intro v h; exact h
  | val u => intro v h; exact h
  | agg n f ih =>
    rintro v ⟨cs, rfl, hs, hc⟩
    exact ⟨cs, rfl, hs, fun j hj => let ⟨u, h1, h2, h3⟩ := hc j hj; ⟨u, h1, h2, ih j u h3⟩⟩
  | fn g n f ih =>
    rintro v ⟨cs, rfl, hs, hc⟩
    exact ⟨cs, rfl, hs, fun j hj => let ⟨u, h1, h3⟩ := hc j hj; ⟨u, h1, ih j u h3⟩⟩
  | rs k n f ih =>
    rintro v ⟨A, c, rfl, h1, h2, h3, hc⟩
    refine ⟨A, c, rfl, h1, h2, h3, fun hn => ?_⟩
    obtain ⟨ad, rfl, hf, hcell⟩ := hc hn
    refine ⟨ad, rfl, hF _ hf, fun i j hi hj => ?_⟩
    obtain ⟨u, hu, ho, hr⟩ := hcell i j hi hj
    exact ⟨u, by rw [← hu]; exact cell_of_heap (by rw [block_add]; exact hb _ hf), ho, ih i j u hr⟩
  | rn k n f ih =>
    rintro v ⟨ad, c, rfl, h1, h2, hc⟩
    refine ⟨ad, c, rfl, h1, h2, fun hn => ?_⟩
    obtain ⟨hf, hcell⟩ := hc hn
    refine ⟨hF _ hf, fun i j hi hj => ?_⟩
    obtain ⟨u, hu, ho, hr⟩ := hcell i j hi hj
    exact ⟨u, by rw [← hu]; exact cell_of_heap (by rw [block_add]; exact hb _ hf), ho, ih i j u hr⟩
  | rp k f ih =>
    rintro v ⟨ad, rfl, hf, hc⟩
    refine ⟨ad, rfl, hF _ hf, fun j hj => ?_⟩
    obtain ⟨u, hu, ho, hr⟩ := hc j hj
    exact ⟨u, by rw [← hu]; exact cell_of_heap (by rw [block_add]; exact hb _ hf), ho, ih j u hr⟩

theorem RepV.mono {w w' : World} {F F' : Nat → Prop} {ν ν' : Nat → Option Value} (hb : ∀ b, F b → w'.heap[b]? = w.heap[b]?) (hF : ∀ b, F b → F' b)
    (hν : ∀ b u, ν b = some u → ν' b = some u) : ∀ (x : AV) (v : Value), RepV w F ν x v → RepV w' F' ν' x v := by
  intro x
  induction x with
  | p a => exact fun v h => RepP.mono hb hF a v h
  | pt b i => rintro v ⟨g, h1, h2⟩; exact ⟨g, hν _ _ h1, h2⟩
  | rpt b k i j => rintro v ⟨g, n, c, h1, h2⟩; exact ⟨g, n, c, hν _ _ h1, h2⟩
  | ssl b k i => rintro v ⟨g, n, c, q, ad, h1, h2⟩; exact ⟨g, n, c, q, ad, hν _ _ h1, h2⟩
  | psl b i => rintro v ⟨g, n, c, h1, h2⟩; exact ⟨g, n, c, hν _ _ h1, h2⟩
  | sl b => exact fun v h => hν _ _ h
  | fnc g l =>
    rintro v ⟨cs, rfl, hs, hc⟩
    exact ⟨cs, rfl, hs, fun j b hj => let ⟨g', h1, h2⟩ := hc j b hj; ⟨g', h1, hν _ _ h2⟩⟩
  | tup n f ih =>
    rintro v ⟨vs, rfl, hs, hc⟩
    exact ⟨vs, rfl, hs, fun j hj => let ⟨u, h1, h2⟩ := hc j hj; ⟨u, h1, ih j u h2⟩⟩
  | ag n f ih =>
    rintro v ⟨vs, rfl, hs, hc⟩
    exact ⟨vs, rfl, hs, fun j hj => let ⟨u, h1, h0, h2⟩ := hc j hj; ⟨u, h1, h0, ih j u h2⟩⟩

theorem own_block {w : World} {e k n : Nat} {u : Value} {xs : List Value} (h : w.ownsRow 0 e k u n xs) {g : Nat} (hg : baseOf u = some g) :
    ∃ cap cur, u = .slice (some ⟨g, 0, none⟩) n cap ∧ w.heap[g]? = some (.cells cur e (0, 0)) ∧ n ≤ cap ∧ cap ≤ maxLen ∧ cur.size = cap * k ∧ cur.toList.take (n * k) = xs := by
  rcases h.2 with ⟨rfl, _⟩ | ⟨g', cap, cur, rfl, _, h1, h2, h3, h4, h5⟩
  · simp [baseOf] at hg
  · simp [baseOf] at hg
    subst hg
    exact ⟨cap, cur, rfl, h1, h2, h3, h4, h5⟩

theorem BlkRep.mono {w w' : World} {F F' : Nat → Prop} {ν ν' : Nat → Option Value} {u : Value} {blk : Blk} (hb : ∀ b, F b → w'.heap[b]? = w.heap[b]?) (hF : ∀ b, F b → F' b)
    (hν : ∀ b u, ν b = some u → ν' b = some u) (hg : ∀ g, baseOf u = some g → w'.heap[g]? = w.heap[g]?) (h : BlkRep w F ν u blk) : BlkRep w' F' ν' u blk := by
  cases blk with
  | box ty cells =>
    obtain ⟨g, cs, rfl, h1, h2, h3⟩ := h
    exact ⟨g, cs, rfl, (hg g rfl).trans h1, h2, fun j x hx => let ⟨c, a1, a2, a3⟩ := h3 j x hx; ⟨c, a1, a2, RepV.mono hb hF hν x c a3⟩⟩
  | row e k n f =>
    obtain ⟨xs, h1, h2⟩ := h
    refine ⟨xs, ⟨h1.1, ?_⟩, fun i j hi hj => let ⟨c, a1, a2, a3⟩ := h2 i j hi hj; ⟨c, a1, a2, RepP.mono hb hF (f i j) c a3⟩⟩
    rcases h1.2 with h0 | ⟨g, cap, cur, rfl, q1, q2, q3⟩
    · exact .inl h0
    · exact .inr ⟨g, cap, cur, rfl, q1, (hg g rfl).trans q2, q3⟩

/-- What an operation does, at whatever frame agrees with 'σ' on what it looks at. -/
structure AgreeOn (o : Oper) (e : Eff) (σ σ' : St) : Prop where
  N : σ'.N = σ.N
  τ : ∀ t, .tmp t ∈ o.op.operands.toList → ∀ w F ν v, RepV w F ν (σ'.τ t) v → RepV w F ν (σ.τ t) v
  η : ∀ b, b ∈ e.rd → σ'.η b = σ.η b
  us : ∀ b, b ∈ e.nw → σ'.us b = false
def EffOk (P : Program) (o : Oper) (σ : St) (e : Eff) : Prop :=
  ∀ (G : Gh) (σ' : St) (a : Act) (w : World) (K : Act → World → Prop) (Q : Exit → Act → World → Prop), AgreeOn o e σ σ' → Inv G σ' a w →
    (∀ a' w', Inv G (σ'.app e) a' w' → K a' w') → o.wp P a w K Q

theorem AgreeOn.refl (o : Oper) (e : Eff) (σ : St) (h : ∀ b, b ∈ e.nw → σ.us b = false) : AgreeOn o e σ σ := ⟨rfl, fun _ _ _ _ _ _ h => h, fun _ _ => rfl, h⟩

theorem ev_agree {o : Oper} {e : Eff} {σ σ' : St} (h : AgreeOn o e σ σ') {x : Operand} (hx : x ∈ o.op.operands.toList) {w : World} {F : Nat → Prop} {ν : Nat → Option Value} {v : Value}
    (hr : RepV w F ν (ev σ' x) v) : RepV w F ν (ev σ x) v := by
  cases x with
  | tmp t => exact h.τ t hx w F ν v hr
  | _ => exact hr
theorem ev_rep {G : Gh} {σ : St} {a : Act} {w : World} {F : Nat → Prop} {ν : Nat → Option Value} (h : FInv G σ a w F ν) (x : Operand) : RepV w F ν (ev σ x) (a.eval x) := by
  cases x with
  | tmp t => exact h.tmps t
  | const v => cases v <;> exact rfl
  | global g => exact trivial
  | func f => exact ⟨#[], rfl, rfl, fun j hj => absurd hj (by omega)⟩

theorem FInv.put {G : Gh} {σ : St} {a : Act} {w : World} {F : Nat → Prop} {ν : Nat → Option Value} (h : FInv G σ a w F ν) (hN : a.tmps.size = σ.N)
    {d : Option Nat} (hd : dstOk d σ.N = true) {x : AV} {v : Value} (hv : RepV w F ν x v) (rd : List Nat) :
    FInv G (σ.app { dst := dstE d x, rd }) (a.put d v) w F ν := by
  refine ⟨h.heap, fun t => ?_, h.names, h.ext, h.same, h.owns, h.fl, h.fr, h.used⟩
  cases d with
  | none => exact h.tmps t
  | some t0 =>
    have hlt : t0 < a.tmps.size := by rw [hN]; exact Nat.le_of_ble_eq_true hd
    show RepV w F ν (upd σ.τ t0 x t) _
    rcases upd_cases σ.τ t0 t x with ⟨rfl, e⟩ | ⟨hne, e⟩
    · rw [e]; simpa [Act.put, hlt] using hv
    · rw [e]
      have := h.tmps t
      simpa [Act.put, Array.getElem?_setIfInBounds_ne hne] using this

theorem size_put (a : Act) (d : Option Nat) (v : Value) : (a.put d v).tmps.size = a.tmps.size := by cases d <;> simp [Act.put]
theorem defers_put (a : Act) (d : Option Nat) (v : Value) : (a.put d v).defers = a.defers := by cases d <;> simp [Act.put]
theorem N_app (σ : St) (e : Eff) : (σ.app e).N = σ.N := rfl

/-- An operation that only reckons. -/
theorem effok_value {P : Program} {o : Oper} {σ : St} {x : AV} {rd : List Nat} (hd : dstOk o.dst σ.N = true)
    (h : ∀ (G : Gh) (σ' : St) (a : Act) (w : World) (F : Nat → Prop) (ν : Nat → Option Value), AgreeOn o { dst := dstE o.dst x, rd } σ σ' → FInv G σ' a w F ν →
      ∃ v, (execOp a.eval o).run P w = .ok (.value v) w ∧ RepV w F ν x v) : EffOk P o σ { dst := dstE o.dst x, rd } := by
  intro G σ' a w K Q ha ⟨hdef, hN, F, ν, hi⟩ hK
  obtain ⟨v, hrun, hv⟩ := h G σ' a w F ν ha hi
  unfold Oper.wp
  rw [hrun, Oper.upon_value]
  exact hK _ _ ⟨⟨by rw [defers_put]; exact hdef.1, hdef.2⟩, by rw [size_put, N_app]; exact hN, F, ν, hi.put hN (by rw [ha.N]; exact hd) hv rd⟩

theorem forceK_elim {x : AV} {K : AV → Prop} (h : forceK x K) : K x := by
  cases x with
  | p v => cases v <;> exact h
  | _ => exact h

theorem boolK_elim {x : AV} {K : Bool → Prop} (h : boolK x K) : ∃ c, K c ∧ ∀ w F ν v, RepV w F ν x v → v = .bool c := by
  unfold boolK at h
  split at h
  · rename_i c
    cases c
    · exact ⟨false, h, fun _ _ _ _ hv => hv⟩
    · exact ⟨true, h, fun _ _ _ _ hv => hv⟩
  · rename_i c
    cases c
    · exact ⟨false, h.2 rfl, fun _ _ _ _ hv => hv⟩
    · exact ⟨true, h.1 rfl, fun _ _ _ _ hv => hv⟩
  · exact h.elim
end Go.Av
