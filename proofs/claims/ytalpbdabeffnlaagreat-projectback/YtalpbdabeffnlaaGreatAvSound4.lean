/- The reckoner is right: loads, stores, new variables. -/
import Derived.Test.YtalpbdabeffnlaaGreatAvSound3
set_option linter.unusedVariables false
set_option linter.unusedSimpArgs false
namespace Go.Av
open Go Go.RowKit

theorem blk_lt {w : World} {F : Nat → Prop} {ν : Nat → Option Value} {u : Value} {blk : Blk} (h : BlkRep w F ν u blk) {g : Nat} (hg : baseOf u = some g) : g < w.heap.size := by
  cases blk with
  | box ty cells =>
    obtain ⟨g', cs, rfl, h1, _⟩ := h
    simp [baseOf] at hg
    subst hg
    exact (Array.getElem?_eq_some_iff.1 h1).1
  | row e k n f =>
    obtain ⟨xs, h1, _⟩ := h
    obtain ⟨cap, cur, _, h2, _⟩ := own_block h1 hg
    exact (Array.getElem?_eq_some_iff.1 h2).1

/-- The blocks of some names. -/
def Base (ν : Nat → Option Value) (η : Nat → Option Blk) (ns : List Nat) (b : Nat) : Prop := ∃ n bn u, n ∈ ns ∧ η n = some bn ∧ ν n = some u ∧ baseOf u = some b
theorem Base.owns {ν : Nat → Option Value} {η : Nat → Option Blk} {ns : List Nat} {b : Nat} (h : Base ν η ns b) : Owns ν η b := by
  obtain ⟨n, bn, u, _, h⟩ := h; exact ⟨n, bn, u, h⟩

theorem upds_frees (η : Nat → Option Blk) : ∀ (ns : List Nat) (n : Nat), upds η (frees ns) n = if n ∈ ns then none else η n := by
  intro ns
  induction ns generalizing η with
  | nil => intro n; simp [frees, upds]
  | cons b l ih =>
    intro n
    show upds (upd η b none) (frees l) n = _
    rw [ih]
    by_cases hl : n ∈ l
    · simp [hl]
    · rw [if_neg hl]
      rcases upd_cases η b n none with ⟨rfl, e⟩ | ⟨hne, e⟩
      · rw [e]; simp
      · rw [e]; simp [hl, Ne.symm hne]

theorem mem_frees {b : Nat} {u : Option Blk} : ∀ (l : List Nat), (b, u) ∈ frees l → b ∈ l
  | [], h => by simp [frees] at h
  | y :: l, h => by
    simp only [frees, List.mem_cons, Prod.mk.injEq] at h
    rcases h with ⟨h, _⟩ | h
    · rw [h]; exact List.mem_cons_self
    · exact List.mem_cons.2 (.inr (mem_frees l h))

theorem FInv.freeze {G : Gh} {σ : St} {a : Act} {w : World} {F : Nat → Prop} {ν : Nat → Option Value} (h : FInv G σ a w F ν) (ns : List Nat) :
    FInv G { σ with η := upds σ.η (frees ns) } a w (fun b => F b ∨ Base ν σ.η ns b) ν := by
  have hη : ∀ n bn, upds σ.η (frees ns) n = some bn → n ∉ ns ∧ σ.η n = some bn := by
    intro n bn hn
    rw [upds_frees] at hn
    split at hn
    · cases hn
    · exact ⟨by assumption, hn⟩
  refine ⟨⟨?_, ?_, ?_, ?_⟩, fun t => RepV.mono (fun _ _ => rfl) (fun _ => .inl) (fun _ _ => id) _ _ (h.tmps t), h.names, h.ext, h.same, ?_, fun b hb => .inl (h.fl b hb), ?_, h.used⟩
  · rintro b (hb | ⟨n, bn, u, _, h1, h2, h3⟩)
    · exact h.heap.fb b hb
    · obtain ⟨u', hu', hr⟩ := h.heap.rep n bn h1
      rw [h2] at hu'
      injection hu' with hu'
      subst hu'
      exact blk_lt hr h3
  · intro n bn hn
    obtain ⟨u, hu, hr⟩ := h.heap.rep n bn (hη n bn hn).2
    exact ⟨u, hu, hr.mono (fun _ _ => rfl) (fun _ => .inl) (fun _ _ => id) (fun _ _ => rfl)⟩
  · intro n m bn bm u u' g h1 h2
    exact h.heap.sep n m bn bm u u' g (hη _ _ h1).2 (hη _ _ h2).2
  · rintro n bn u g h1 h2 h3 (hF | ⟨m, bm, u', hm, a1, a2, a3⟩)
    · exact h.heap.out n bn u g (hη _ _ h1).2 h2 h3 hF
    · exact (hη _ _ h1).1 (h.heap.sep n m bn bm u u' g (hη _ _ h1).2 a1 h2 a2 h3 a3 ▸ hm)
  · rintro g ⟨n, bn, u, h1, h2, h3⟩
    exact h.owns g ⟨n, bn, u, (hη _ _ h1).2, h2, h3⟩
  · rintro b (hb | hb)
    · exact h.fr b hb
    · exact .inr (h.owns b hb.owns)

theorem row_view {w : World} {F F' : Nat → Prop} {ν : Nat → Option Value} {u : Value} {e k n : Nat} {f : Nat → Nat → PV} (h : BlkRep w F ν u (.row e k n f)) (hF : ∀ b, F b → F' b)
    (hg : ∀ g, baseOf u = some g → F' g) : RepP w F' (.rs k n f) u := by
  obtain ⟨xs, hown, hc⟩ := h
  rcases hown.2 with ⟨rfl, rfl⟩ | ⟨g, cap, cur, rfl, _, h1, h2, h3, h4, h5⟩
  · exact ⟨none, 0, rfl, Nat.le_refl _, Nat.zero_le _, fun _ => rfl, fun h0 => absurd h0 (by omega)⟩
  · refine ⟨_, cap, rfl, h2, Nat.le_trans h2 h3, fun h => (by cases h), fun _ => ⟨_, rfl, hg g rfl, fun i j hi hj => ?_⟩⟩
    obtain ⟨c, a1, a2, a3⟩ := hc i j hi hj
    exact ⟨c, hown.cells rfl _ _ a1, a2, RepP.mono (fun _ _ => rfl) hF _ _ a3⟩

theorem pureOf_rep {w : World} {F F' : Nat → Prop} {ν : Nat → Option Value} {η : Nat → Option Blk} (hh : HInv w F ν η) {x : AV} {v : Value} (hx : RepV w F ν x v) {p : PV} {ns : List Nat}
    (hp : pureOf η x = some (p, ns)) (hF : ∀ b, F b → F' b) (hB : ∀ b, Base ν η ns b → F' b) : RepP w F' p v := by
  unfold pureOf at hp
  split at hp
  · injection hp with hp
    injection hp with h1 h2
    subst h1
    exact RepP.mono (fun _ _ => rfl) hF _ _ hx
  · rename_i b
    split at hp
    · rename_i e k n f hb
      injection hp with hp
      injection hp with h1 h2
      subst h1 h2
      obtain ⟨u, hu, hr⟩ := hh.rep b _ hb
      have hx : ν b = some v := hx
      rw [hu] at hx
      injection hx with hx
      subst hx
      exact row_view hr hF fun g hg => hB g ⟨b, _, u, by simp, hb, hu, hg⟩
    · cases hp
  · cases hp

theorem Base.mono {ν : Nat → Option Value} {η : Nat → Option Blk} {ns ms : List Nat} (h : ∀ n, n ∈ ns → n ∈ ms) {b : Nat} (hb : Base ν η ns b) : Base ν η ms b := by
  obtain ⟨n, bn, u, h1, h2⟩ := hb; exact ⟨n, bn, u, h n h1, h2⟩

theorem purify_rep {w : World} {F F' : Nat → Prop} {ν : Nat → Option Value} {η : Nat → Option Blk} (hh : HInv w F ν η) (hF : ∀ b, F b → F' b) :
    ∀ (l : List AV) (vs : List PV) (ns : List Nat), purify η l = some (vs, ns) → (∀ b, Base ν η ns b → F' b) → vs.length = l.length ∧
      ∀ (j : Nat) (x : AV) (v : Value), l[j]? = some x → RepV w F ν x v → RepP w F' (at_ .any vs j) v
  | [], vs, ns, h, _ => by
    simp [purify] at h
    obtain ⟨rfl, rfl⟩ := h
    exact ⟨rfl, fun j x v hj => by simp at hj⟩
  | x :: l, vs, ns, h, hB => by
    simp only [purify] at h
    split at h
    · rename_i p ns1 h1
      split at h
      · rename_i vs2 ms2 h2
        injection h with h
        injection h with e1 e2
        subst e1 e2
        obtain ⟨q1, q2⟩ := purify_rep hh hF l vs2 ms2 h2 fun b hb => hB b (hb.mono fun n hn => List.mem_append.2 (.inr hn))
        refine ⟨by simp [q1], fun j y v hj hy => ?_⟩
        cases j with
        | zero =>
          simp at hj
          subst hj
          exact pureOf_rep hh hy h1 hF fun b hb => hB b (hb.mono fun n hn => List.mem_append.2 (.inl hn))
        | succ j => exact q2 j y v (by simpa using hj) hy
      · cases h
    · cases h

theorem drop_get {α : Type} : ∀ (i : Nat) (l : List α) (j : Nat), (drop_ i l)[j]? = l[i + j]?
  | 0, l, j => by simp [drop_]
  | i + 1, [], j => by simp [drop_]
  | i + 1, x :: l, j => by
    show (drop_ i l)[j]? = _
    rw [drop_get i l j, show i + 1 + j = (i + j) + 1 from by omega]
    rfl
theorem take_get {α : Type} : ∀ (n : Nat) (l : List α) (j : Nat) (x : α), (take_ n l)[j]? = some x → l[j]? = some x ∧ j < n
  | 0, l, j, x, h => by simp [take_] at h
  | n + 1, [], j, x, h => by simp [take_] at h
  | n + 1, y :: l, 0, x, h => ⟨by simpa [take_] using h, by omega⟩
  | n + 1, y :: l, j + 1, x, h => by
    obtain ⟨h1, h2⟩ := take_get n l j x (by simpa [take_] using h)
    exact ⟨by simpa using h1, by omega⟩
theorem take_len {α : Type} : ∀ (n : Nat) (l : List α), (take_ n l).length ≤ n
  | 0, l => by simp [take_]
  | n + 1, [] => by simp [take_]
  | n + 1, y :: l => by simp [take_]; exact take_len n l

theorem purify_len {η : Nat → Option Blk} : ∀ (l : List AV) (vs : List PV) (ns : List Nat), purify η l = some (vs, ns) → vs.length = l.length
  | [], vs, ns, h => by simp [purify] at h; rw [h.1]; rfl
  | x :: l, vs, ns, h => by
    simp only [purify] at h
    split at h
    · split at h
      · rename_i vs2 ms2 h2
        injection h with h
        injection h with e1 e2
        subst e1
        simp [purify_len l vs2 ms2 h2]
      · cases h
    · cases h
/-- A variable is read as it lies: its rows stay the frame's own. -/
theorem load_ag {P : Program} {T : Nat → Option TI} (hT : TabOk P T) {ty : Nat} {ti : TI} (hti : T ty = some ti) (hag : ti.agg = true) {w : World} {F : Nat → Prop} {ν : Nat → Option Value} {cells : List AV} {cs : Array Value} {g i tt : Nat}
    (hc : ∀ (j : Nat) (x : AV), cells[j]? = some x → ∃ c, cs[j]? = some c ∧ c.oneCell' = true ∧ RepV w F ν x c) (hg : w.heap[g]? = some (.cells cs tt (0, 0))) (hlen : (take_ ti.size (drop_ i cells)).length = ti.size) :
    ∃ v, (loadVar ty ⟨g, i, none⟩).run P w = .ok v w ∧ RepV w F ν (.ag ti.size (at_ (.p .any) (take_ ti.size (drop_ i cells)))) v := by
  have one : ∀ j, j < ti.size → ∃ x u, (take_ ti.size (drop_ i cells))[j]? = some x ∧ cs[i + j]? = some u ∧ u.oneCell' = true ∧ RepV w F ν x u := by
    intro j hj
    have hj' : j < (take_ ti.size (drop_ i cells)).length := by omega
    have hget := List.getElem?_eq_getElem hj'
    generalize (take_ ti.size (drop_ i cells))[j] = y at hget
    have hcl := (take_get _ _ _ _ hget).1
    rw [drop_get] at hcl
    obtain ⟨z, z1, z2, z3⟩ := hc (i + j) y hcl
    exact ⟨y, z, hget, z1, z2, z3⟩
  obtain ⟨v, hr, hpv⟩ := run_loadVar_rep (P := P) hT hti (w := w) (F := F) (a := ⟨g, i, none⟩) (f := fun j => .val ((cs[i + j]?).getD undef)) fun j hj => by
    obtain ⟨x, u, h1, h2, h3, h4⟩ := one j hj
    refine ⟨u, ?_, h3, ?_⟩
    · rw [at_add]
      unfold World.cell?
      rw [hg]
      simpa using h2
    · show u = (cs[i + j]?).getD undef
      rw [h2]; rfl
  refine ⟨v, hr, ?_⟩
  rw [hag] at hpv
  obtain ⟨cs2, e1, e2, e3⟩ := hpv
  refine ⟨cs2, e1, by rw [e2, upto_len], fun j hj => ?_⟩
  obtain ⟨x, u, h1, h2, h3, h4⟩ := one j hj
  obtain ⟨u2, b1, b2, b3⟩ := e3 j (by rw [upto_len]; exact hj)
  rw [at_upto _ _ _ _ _ hj, Nat.zero_add] at b3
  have b3 : u2 = (cs[i + j]?).getD undef := b3
  rw [h2] at b3
  have b3 : u2 = u := b3
  subst b3
  refine ⟨u2, b1, b2, ?_⟩
  rw [at_get _ _ _ _ h1]
  exact h4

section
variable {P : Program} {T : Nat → Option TI} {o : Oper} {σ : St} {K : Eff → Prop}

theorem sound_gen {x : AV} {rd nw : List Nat} {ups : List (Nat × Option Blk)} (hK : K { dst := dstE o.dst x, ups, rd, nw }) (hd : dstOk o.dst σ.N = true)
    (hnw : ∀ b, b ∈ nw → σ.us b = false) (hups : ∀ b u, (b, u) ∈ ups → b ∈ rd ∨ b ∈ nw)
    (h : ∀ (G : Gh) (σ' : St) (a : Act) (w : World) (F : Nat → Prop) (ν : Nat → Option Value), AgreeOn o { dst := dstE o.dst x, ups, rd, nw } σ σ' → FInv G σ' a w F ν →
      ∃ v w' F' ν', ((execOp a.eval o).run P w = .ok (.value v) w' ∨ ((execOp a.eval o).run P w = .ok .skip w' ∧ v = undef)) ∧
        FInv G { σ' with η := upds σ'.η ups, us := upds σ'.us (nw.map (·, true)) } a w' F' ν' ∧ RepV w' F' ν' x v) : Sound P o σ K := by
  refine ⟨_, hK, by cases o.dst <;> rfl, fun d y h => by cases hq : o.dst with | none => simp [dstE, hq] at h | some t => simp [dstE, hq] at h; simp [h.1], hnw, hups, ?_⟩
  intro G σ' a w Kk Q ha ⟨hdef, hN, F, ν, hi⟩ hK'
  obtain ⟨v, w', F', ν', hrun, hi', hv⟩ := h G σ' a w F ν ha hi
  have hfin : Kk (a.put o.dst v) w' := by
    refine hK' _ _ ⟨⟨by rw [defers_put]; exact hdef.1, Nat.le_trans hdef.2 (hrun.elim (fun h => drawn_run _ h) fun h => drawn_run _ h.1)⟩, by rw [size_put, N_app]; exact hN, F', ν', ?_⟩
    exact FInv.put (σ := { σ' with η := upds σ'.η ups, us := upds σ'.us (nw.map (·, true)) }) hi' hN (by show dstOk o.dst σ'.N = true; rw [ha.N]; exact hd) hv []
  unfold Oper.wp
  rcases hrun with hrun | ⟨hrun, rfl⟩
  · rw [hrun, Oper.upon_value]; exact hfin
  · rw [hrun, Oper.upon_skip]; exact hfin

theorem sound_load (hT : TabOk P T) {ty : Nat} {x : Operand} (ho : o.op = .load ty x) (hd : dstOk o.dst σ.N = true) (h : loadK T ty (ev σ x) σ o.dst K) : Sound P o σ K := by
  have mx : x ∈ o.op.operands.toList := by simp [ho, Op.operands]
  unfold loadK at h
  split at h
  · exact h.elim
  · rename_i ti hti
    split at h
    · rename_i k f hx
      split at h
      · rename_i hle
        have hle : ti.size ≤ k := Nat.le_of_ble_eq_true hle
        have h := forceK_elim h
        refine sound_value h hd fun G σ' a w F ν ha hi => ?_
        have e1 := arg_rep ha hi mx
        rw [hx] at e1
        obtain ⟨ad, hv, hF, hc⟩ := e1
        obtain ⟨v, hr, hp⟩ := run_loadVar_rep hT hti (w := w) (F := F) (a := ad) (f := f) fun j hj => hc j (by omega)
        exact ⟨v, by simp [execOp, ho, hv, Instr.loadAt, Instr.sureAddr, hr], hp⟩
      · exact h.elim
    · rename_i b q i j hx
      split at h
      · rename_i e' k n f hb
        split at h
        · rename_i hle
          rw [Bool.and_eq_true] at hle
          have hle' : j + ti.size ≤ k := Nat.le_of_ble_eq_true hle.1
          have hqk := beq_yes hle.2
          subst hqk
          obtain ⟨hlt, h⟩ := h
          have h := forceK_elim h
          refine sound_value h hd fun G σ' a w F ν ha hi => ?_
          have e1 := arg_rep ha hi mx
          rw [hx] at e1
          obtain ⟨g, n', c', hν, hv⟩ := e1
          obtain ⟨u, hu, xs, hown, hc⟩ := hi.heap.rep b _ ((ha.η b (by simp)).trans hb)
          rw [hν] at hu
          injection hu with hu
          subst hu
          obtain ⟨v, hr, hp⟩ := run_loadVar_rep hT hti (w := w) (F := F) (a := ⟨g, i * q + j, none⟩) (f := shift j (f i)) fun jj hj => by
            obtain ⟨c, a1, a2, a3⟩ := hc i (j + jj) hlt (by omega)
            have := hown.cells (g := g) rfl _ _ a1
            rw [add_at] at this
            rw [at_add, shift_at]
            exact ⟨c, by rw [Nat.add_assoc]; exact this, a2, a3⟩
          exact ⟨v, by simp [execOp, ho, hv, Instr.loadAt, Instr.sureAddr, hr], hp⟩
        · exact h.elim
      · exact h.elim
    · rename_i b i hx
      split at h
      · rename_i tt cells hb
        split at h
        · rename_i hag
          split at h
          · rename_i c rest hdr
            have h := forceK_elim h
            refine sound_value h hd fun G σ' a w F ν ha hi => ?_
            have e1 := arg_rep ha hi mx
            rw [hx] at e1
            obtain ⟨g, hν, hv⟩ := e1
            obtain ⟨u, hu, g', cs, hu', hg', hs, hc⟩ := hi.heap.rep b _ ((ha.η b (by simp)).trans hb)
            rw [hν] at hu
            injection hu with hu
            rw [hu'] at hu
            injection hu with hu
            injection hu with hu
            injection hu with hu
            subst hu
            have hget : cells[i]? = some c := by have := drop_get i cells 0; rw [hdr] at this; simpa using this.symm
            obtain ⟨z, z1, z2, z3⟩ := hc i c hget
            have hcell : w.cell? ⟨g, i, none⟩ = some z := by unfold World.cell?; rw [hg']; simpa using z1
            exact ⟨z, by simp [execOp, ho, hv, Instr.loadAt, Instr.sureAddr, loadVar, hT.agg ty ti hti, hag, hcell], z3⟩
          · exact h.elim
        · rename_i hag
          split at h
          · rename_i vs ns hp
            split at h
            · rename_i hlen
              have hlen := beq_yes hlen
              have frz : K { dst := dstE o.dst (.p (aggL vs)), rd := b :: ns, ups := frees ns } → Sound P o σ K := by
                intro h
                refine sound_gen h hd (by simp) (fun b' u hbu => ?_) fun G σ' a w F ν ha hi => ?_
                · exact .inl (List.mem_cons.2 (.inr (mem_frees ns hbu)))
                · have e1 := arg_rep ha hi mx
                  rw [hx] at e1
                  obtain ⟨g, hν, hv⟩ := e1
                  obtain ⟨u, hu, g', cs, hu', hg', hs, hc⟩ := hi.heap.rep b _ ((ha.η b (by simp)).trans hb)
                  rw [hν] at hu
                  injection hu with hu
                  rw [hu'] at hu
                  injection hu with hu
                  injection hu with hu
                  injection hu with hu
                  subst hu
                  have hηeq : purify σ'.η (take_ ti.size (drop_ i cells)) = some (vs, ns) := by
                    have hpe : ∀ (l : List AV) (vs : List PV) (ns' : List Nat), purify σ.η l = some (vs, ns') → (∀ n, n ∈ ns' → n ∈ ns) → purify σ'.η l = some (vs, ns') := by
                      intro l
                      induction l with
                      | nil => intro vs ns' hq _; exact hq
                      | cons y l ih =>
                        intro vs ns' hq hsub
                        simp only [purify] at hq ⊢
                        split at hq
                        · rename_i p ns1 h1
                          split at hq
                          · rename_i vs2 ms2 h2
                            injection hq with hq
                            injection hq with q1 q2
                            subst q1 q2
                            rw [ih _ _ h2 fun n hn => hsub n (List.mem_append.2 (.inr hn))]
                            have : pureOf σ'.η y = some (p, ns1) := by
                              unfold pureOf at h1 ⊢
                              split at h1
                              · exact h1
                              · rename_i b2
                                have hb2 : b2 ∈ ns1 := by
                                  split at h1
                                  · injection h1 with h1; injection h1 with _ h1; rw [← h1]; simp
                                  · cases h1
                                have := ha.η b2 (List.mem_cons.2 (.inr (hsub b2 (List.mem_append.2 (.inl hb2)))))
                                simp only [this]
                                exact h1
                              · cases h1
                            rw [this]
                          · cases hq
                        · cases hq
                    exact hpe _ vs ns hp fun _ => id
                  obtain ⟨q1, q2⟩ := purify_rep (F' := fun b => F b ∨ Base ν σ'.η ns b) hi.heap (fun _ => .inl) _ vs ns hηeq (fun _ => .inr)
                  have hcells : ∀ j, j < ti.size → ∃ u, w.cell? ((⟨g, i, none⟩ : Addr).add j) = some u ∧ u.oneCell' = true ∧ RepP w (fun b => F b ∨ Base ν σ'.η ns b) (at_ .any vs j) u := by
                    intro j hj
                    have hj' : j < (take_ ti.size (drop_ i cells)).length := by omega
                    have hget := List.getElem?_eq_getElem hj'
                    generalize (take_ ti.size (drop_ i cells))[j] = y at hget
                    have hcl := (take_get _ _ _ _ hget).1
                    rw [drop_get] at hcl
                    obtain ⟨z, z1, z2, z3⟩ := hc (i + j) y hcl
                    refine ⟨z, ?_, z2, q2 j y z hget z3⟩
                    rw [at_add]
                    unfold World.cell?
                    rw [hg']
                    simpa using z1
                  obtain ⟨v, hr, hpv⟩ := run_loadVar_rep hT hti (w := w) (a := ⟨g, i, none⟩) (f := at_ .any vs) hcells
                  refine ⟨v, w, _, ν, .inl (by simp [execOp, ho, hv, Instr.loadAt, Instr.sureAddr, hr]), hi.freeze ns, ?_⟩
                  rw [hag] at hpv
                  obtain ⟨cs2, e1, e2, e3⟩ := hpv
                  refine ⟨cs2, e1, by rw [e2, upto_len]; exact hlen.symm, fun j hj => ?_⟩
                  rw [hlen] at hj
                  obtain ⟨u2, b1, b2, b3⟩ := e3 j (by rw [upto_len]; exact hj)
                  rw [at_upto _ _ _ _ _ hj, Nat.zero_add] at b3
                  exact ⟨u2, b1, b2, b3⟩
              split at h
              · exact frz h
              · rcases h with h | h
                · exact frz h
                · refine sound_gen h hd (by simp) (fun b' u hbu => by simp at hbu) fun G σ' a w F ν ha hi => ?_
                  have e1 := arg_rep ha hi mx
                  rw [hx] at e1
                  obtain ⟨g, hν, hv⟩ := e1
                  obtain ⟨u, hu, g', cs, hu', hg', hs, hc⟩ := hi.heap.rep b _ ((ha.η b (by simp)).trans hb)
                  rw [hν] at hu
                  injection hu with hu
                  rw [hu'] at hu
                  injection hu with hu
                  injection hu with hu
                  injection hu with hu
                  subst hu
                  obtain ⟨v, hr, hpv⟩ := load_ag hT hti hag hc hg' (by rw [← purify_len _ _ _ hp]; exact hlen)
                  exact ⟨v, w, F, ν, .inl (by simp [execOp, ho, hv, Instr.loadAt, Instr.sureAddr, hr]), hi, hpv⟩
            · exact h.elim
          · exact h.elim
      · exact h.elim
    · exact h.elim

/-! ### A new block -/
theorem heap_alloc (w : World) (ob : Obj) (k : Nat) (h : k < w.heap.size) : (w.alloc ob).heap[k]? = w.heap[k]? := Below.heap_alloc w ob k h

theorem FInv.new {G : Gh} {σ : St} {a : Act} {w : World} {F : Nat → Prop} {ν : Nat → Option Value} (h : FInv G σ a w F ν) {nm : Nat} (hnm : σ.us nm = false) {w' : World}
    (hsz : w.heap.size ≤ w'.heap.size) (hold : ∀ k, k < w.heap.size → w'.heap[k]? = w.heap[k]?) (hos : w'.os = w.os) (htape : w'.tape = w.tape) (hout : w'.output = w.output)
    {u : Value} {blk : Blk} (hu : ∀ g, baseOf u = some g → w.heap.size ≤ g)
    (hb : BlkRep w' F (upd ν nm (some u)) u blk) :
    FInv G { σ with η := upd σ.η nm (some blk), us := upd σ.us nm true } a w' F (upd ν nm (some u)) := by
  have hν : ∀ b v, ν b = some v → upd ν nm (some u) b = some v := by
    intro b v hb
    rw [upd_other]
    · exact hb
    · rintro rfl; rw [h.names _ hnm] at hb; cases hb
  have hF : ∀ b, F b → w'.heap[b]? = w.heap[b]? := fun b hb => hold b (h.heap.fb b hb)
  have hlt : ∀ n bn v g, σ.η n = some bn → ν n = some v → baseOf v = some g → g < w.heap.size := by
    intro n bn v g h1 h2 h3
    obtain ⟨v', hv', hr⟩ := h.heap.rep n bn h1
    rw [h2] at hv'; injection hv' with hv'; subst hv'
    exact blk_lt hr h3
  refine ⟨⟨fun b hb => Nat.lt_of_lt_of_le (h.heap.fb b hb) hsz, ?_, ?_, ?_⟩, fun t => RepV.mono hF (fun _ => id) hν _ _ (h.tmps t), ?_, ?_, ?_, ?_, h.fl, h.fr, ?_⟩
  · intro n bn hn
    change upd σ.η nm (some blk) n = some bn at hn
    rcases upd_cases σ.η nm n (some blk) with ⟨rfl, e⟩ | ⟨hne, e⟩
    · rw [e] at hn
      injection hn with hn
      subst hn
      exact ⟨u, upd_same _ _ _, hb⟩
    · rw [e] at hn
      obtain ⟨v, hv, hr⟩ := h.heap.rep n bn hn
      exact ⟨v, hν _ _ hv, hr.mono hF (fun _ => id) hν fun g hg => hold g (blk_lt hr hg)⟩
  · intro n m bn bm v v' g h1 h2 h3 h4 h5 h6
    change upd σ.η nm (some blk) n = some bn at h1
    change upd σ.η nm (some blk) m = some bm at h2
    rcases upd_cases σ.η nm n (some blk) with ⟨rfl, e⟩ | ⟨hne, e⟩
    · rcases upd_cases σ.η nm m (some blk) with ⟨rfl, e'⟩ | ⟨hne', e'⟩
      · rfl
      · exfalso
        rw [upd_same] at h3; injection h3 with h3; subst h3
        rw [e'] at h2; rw [upd_other _ _ hne'] at h4
        have := hlt m bm v' g h2 h4 h6
        have := hu g h5
        omega
    · rw [e] at h1; rw [upd_other _ _ hne] at h3
      rcases upd_cases σ.η nm m (some blk) with ⟨rfl, e'⟩ | ⟨hne', e'⟩
      · exfalso
        rw [upd_same] at h4; injection h4 with h4; subst h4
        have := hlt n bn v g h1 h3 h5
        have := hu g h6
        omega
      · rw [e'] at h2; rw [upd_other _ _ hne'] at h4
        exact h.heap.sep n m bn bm v v' g h1 h2 h3 h4 h5 h6
  · intro n bn v g h1 h2 h3 hFg
    change upd σ.η nm (some blk) n = some bn at h1
    rcases upd_cases σ.η nm n (some blk) with ⟨rfl, e⟩ | ⟨hne, e⟩
    · rw [upd_same] at h2; injection h2 with h2; subst h2
      have := hu g h3
      have := h.heap.fb g hFg
      omega
    · rw [e] at h1; rw [upd_other _ _ hne] at h2
      exact h.heap.out n bn v g h1 h2 h3 hFg
  · intro b hb
    change upd σ.us nm true b = false at hb
    rcases upd_cases σ.us nm b true with ⟨rfl, e⟩ | ⟨hne, e⟩
    · rw [e] at hb; cases hb
    · rw [e] at hb; rw [upd_other _ _ hne]; exact h.names b hb
  · exact ⟨Nat.le_trans h.ext.size hsz, fun b hb hS => (hold b (Nat.lt_of_lt_of_le hb h.ext.size)).trans (h.ext.blk b hb hS), hos.trans h.ext.os, htape.trans h.ext.tape, hout.trans h.ext.output⟩
  · intro n hn
    rw [upd_other]
    · exact h.same n hn
    · rintro rfl; rw [h.used _ hn] at hnm; cases hnm
  · rintro g ⟨n, bn, v, h1, h2, h3⟩
    change upd σ.η nm (some blk) n = some bn at h1
    rcases upd_cases σ.η nm n (some blk) with ⟨rfl, e⟩ | ⟨hne, e⟩
    · rw [upd_same] at h2; injection h2 with h2; subst h2
      exact .inr (Nat.le_trans h.ext.size (hu g h3))
    · rw [e] at h1; rw [upd_other _ _ hne] at h2
      exact h.owns g ⟨n, bn, v, h1, h2, h3⟩
  · intro n hn
    change upd σ.us nm true n = true
    rcases upd_cases σ.us nm n true with ⟨rfl, e⟩ | ⟨hne, e⟩
    · exact e
    · rw [e]; exact h.used n hn

/-- A named block is written. -/
theorem FInv.write {G : Gh} {σ : St} {a : Act} {w : World} {F : Nat → Prop} {ν : Nat → Option Value} (h : FInv G σ a w F ν) {b g : Nat} {blk blk' : Blk} {u : Value} (hb : σ.η b = some blk)
    (hu : ν b = some u) (hg : baseOf u = some g) {w' : World} (hsz : w'.heap.size = w.heap.size) (hold : ∀ k, k ≠ g → w'.heap[k]? = w.heap[k]?) (hos : w'.os = w.os) (htape : w'.tape = w.tape) (hout : w'.output = w.output)
    (hr : BlkRep w' F ν u blk') : FInv G { σ with η := upd σ.η b (some blk') } a w' F ν := by
  have hFg : ¬ F g := h.heap.out b blk u g hb hu hg
  have hF : ∀ k, F k → w'.heap[k]? = w.heap[k]? := fun k hk => hold k fun e => hFg (e ▸ hk)
  have hη : ∀ n bn, upd σ.η b (some blk') n = some bn → ∃ bn', σ.η n = some bn' := by
    intro n bn hn
    rcases upd_cases σ.η b n (some blk') with ⟨rfl, e⟩ | ⟨hne, e⟩
    · exact ⟨_, hb⟩
    · rw [e] at hn; exact ⟨_, hn⟩
  refine ⟨⟨fun k hk => by rw [hsz]; exact h.heap.fb k hk, ?_, ?_, ?_⟩, fun t => RepV.mono hF (fun _ => id) (fun _ _ => id) _ _ (h.tmps t), h.names, ?_, h.same, ?_, h.fl, h.fr, h.used⟩
  · intro n bn hn
    change upd σ.η b (some blk') n = some bn at hn
    rcases upd_cases σ.η b n (some blk') with ⟨rfl, e⟩ | ⟨hne, e⟩
    · rw [e] at hn
      injection hn with hn
      subst hn
      exact ⟨u, hu, hr⟩
    · rw [e] at hn
      obtain ⟨v, hv, hrr⟩ := h.heap.rep n bn hn
      exact ⟨v, hv, hrr.mono hF (fun _ => id) (fun _ _ => id) fun g' hg' => hold g' fun e' => hne (h.heap.sep b n blk bn u v g hb hn hu hv hg (by rw [hg', e']))⟩
  · intro n m bn bm v v' g' h1 h2 h3 h4 h5 h6
    obtain ⟨_, q1⟩ := hη n bn h1
    obtain ⟨_, q2⟩ := hη m bm h2
    exact h.heap.sep n m _ _ v v' g' q1 q2 h3 h4 h5 h6
  · intro n bn v g' h1 h2 h3
    obtain ⟨_, q1⟩ := hη n bn h1
    exact h.heap.out n _ v g' q1 h2 h3
  · refine ⟨by rw [hsz]; exact h.ext.size, fun k hk hS => ?_, hos.trans h.ext.os, htape.trans h.ext.tape, hout.trans h.ext.output⟩
    rw [hold k ?_]
    · exact h.ext.blk k hk hS
    · rintro rfl
      rcases h.owns k ⟨b, blk, u, hb, hu, hg⟩ with h1 | h1
      · exact hS h1
      · omega
  · rintro g' ⟨n, bn, v, h1, h2, h3⟩
    obtain ⟨_, q1⟩ := hη n bn h1
    exact h.owns g' ⟨n, _, v, q1, h2, h3⟩

theorem run_box {ty : Nat} {x : Operand} (ho : o.op = .box ty x) (a : Act) (w : World) :
    (execOp a.eval o).run P w = .ok (.value (.pointer (some ⟨w.heap.size, 0, none⟩))) (w.alloc (.cells (a.eval x).cells ty)) := by
  simp [execOp, ho, Instr.box, newVar, newRow]

theorem cells_one {v : Value} (h : v.oneCell' = true) : v.cells = #[v] := by cases v <;> first | rfl | (simp [Value.oneCell'] at h)

theorem oneB_rep {w : World} {F : Nat → Prop} {ν : Nat → Option Value} {η : Nat → Option Blk} (hh : HInv w F ν η) {x : AV} {v : Value} (h : RepV w F ν x v) {ns : List Nat} (ho : oneB η x = some ns) :
    v.oneCell' = true := by
  cases x with
  | p p =>
    cases p with
    | any => simp [oneB] at ho
    | bl b => change v = _ at h; subst h; rfl
    | val u => change v = _ at h; subst h; simp only [oneB] at ho; split at ho; assumption; cases ho
    | agg n f => simp [oneB] at ho
    | fn g n f => obtain ⟨cs, rfl, _⟩ := h; rfl
    | rs k n f => obtain ⟨A, c, rfl, _⟩ := h; rfl
    | rn k n f => obtain ⟨A, c, rfl, _⟩ := h; rfl
    | rp k f => obtain ⟨ad, rfl, _⟩ := h; rfl
  | pt b i => obtain ⟨g, _, rfl⟩ := h; rfl
  | rpt b k i j => obtain ⟨g, n, c, _, rfl⟩ := h; rfl
  | ssl b k i => obtain ⟨g, n, c, q, ad, _, _, rfl, _⟩ := h; rfl
  | psl b i => obtain ⟨g, n, c, _, _, rfl⟩ := h; rfl
  | sl b =>
    simp only [oneB] at ho
    split at ho
    · rename_i e k n f hb
      obtain ⟨u, hu, xs, hown, _⟩ := hh.rep b _ hb
      have h : ν b = some v := h
      rw [hu] at h; injection h with h; subst h
      rcases hown.2 with ⟨rfl, _⟩ | ⟨g, cap, cur, rfl, _⟩ <;> rfl
    · cases ho
  | fnc g l => obtain ⟨cs, rfl, _⟩ := h; rfl
  | tup n f => simp [oneB] at ho
  | ag n f => simp [oneB] at ho
theorem oneB_agree {η η' : Nat → Option Blk} {x : AV} {ns : List Nat} (ho : oneB η x = some ns) (h : ∀ b, b ∈ ns → η' b = η b) : oneB η' x = some ns := by
  cases x with
  | sl b =>
    have ho' := ho
    simp only [oneB] at ho ⊢
    split at ho
    · rename_i hb
      injection ho with ho
      subst ho
      rw [h b (by simp), hb]
    · cases ho
  | p p => cases p <;> exact ho
  | _ => exact ho

theorem upd_none_alive {ν : Nat → Option Value} {nm : Nat} {u : Value} (h : ν nm = none) : ∀ b v, ν b = some v → upd ν nm (some u) b = some v := by
  intro b v hb
  rw [upd_other]
  · exact hb
  · rintro rfl; rw [h] at hb; cases hb

theorem sound_box {ty nm : Nat} {x : Operand} (ho : o.op = .box ty x) (hd : dstOk o.dst σ.N = true) (h : boxK ty (ev σ x) nm σ o.dst K) : Sound P o σ K := by
  have mx : x ∈ o.op.operands.toList := by simp [ho, Op.operands]
  unfold boxK at h
  split at h
  · exact h.elim
  · rename_i hus
    have gen : ∀ (cells : List AV) (ns : List Nat), K { dst := dstE o.dst (.pt nm 0), ups := [(nm, some (.box ty cells))], rd := ns, nw := [nm] } →
        (∀ (G : Gh) (σ' : St) (a : Act) (w : World) (F : Nat → Prop) (ν : Nat → Option Value), (∀ b, b ∈ ns → σ'.η b = σ.η b) → FInv G σ' a w F ν → RepV w F ν (ev σ x) (a.eval x) →
          (a.eval x).cells.size = cells.length ∧ ∀ (j : Nat) (y : AV), cells[j]? = some y → ∃ c, (a.eval x).cells[j]? = some c ∧ c.oneCell' = true ∧ RepV w F ν y c) → Sound P o σ K := by
      intro cells ns hK hc
      refine sound_gen hK hd (fun b hb => by simp at hb; subst hb; exact hus) (fun b u hb => by simp at hb; simp [hb.1]) fun G σ' a w F ν ha hi => ?_
      obtain ⟨c1, c2⟩ := hc G σ' a w F ν ha.η hi (arg_rep ha hi mx)
      have hus' : σ'.us nm = false := ha.us nm (by simp)
      refine ⟨_, _, F, upd ν nm (some (.pointer (some ⟨w.heap.size, 0, none⟩))), .inl (run_box ho a w), ?_, w.heap.size, upd_same _ _ _, rfl⟩
      refine hi.new (blk := .box ty cells) hus' (by simp) (fun k hk => heap_alloc w _ k hk) rfl rfl rfl (fun g hg => by simp [baseOf] at hg; omega) ⟨w.heap.size, (a.eval x).cells, rfl, heap_alloc_new w _, c1, fun j y hy => ?_⟩
      obtain ⟨c, q1, q2, q3⟩ := c2 j y hy
      exact ⟨c, q1, q2, RepV.mono (fun b hb => heap_alloc w _ b (hi.heap.fb b hb)) (fun _ => id) (upd_none_alive (hi.names nm hus')) _ _ q3⟩
    split at h
    · rename_i n f hx
      refine gen _ [] h fun G σ' a w F ν _ hi hr => ?_
      rw [hx] at hr
      obtain ⟨cs, hv, hs, hc⟩ := hr
      rw [hv]
      refine ⟨by simp [Value.cells, upto_len, hs], fun j y hy => ?_⟩
      have hj : j < n := by
        have := (List.getElem?_eq_some_iff.1 hy).1
        simpa [upto_len] using this
      rw [List.getElem?_map, upto_get _ _ _ _ hj] at hy
      simp at hy
      subst hy
      obtain ⟨u, hu, h1, h2⟩ := hc j hj
      exact ⟨u, hu, h1, h2⟩
    · rename_i n f hx
      refine gen _ [] h fun G σ' a w F ν _ hi hr => ?_
      rw [hx] at hr
      obtain ⟨cs, hv, hs, hc⟩ := hr
      rw [hv]
      refine ⟨by simp [Value.cells, upto_len, hs], fun j y hy => ?_⟩
      have hj : j < n := by
        have := (List.getElem?_eq_some_iff.1 hy).1
        simpa [upto_len] using this
      rw [upto_get _ _ _ _ hj] at hy
      simp at hy
      subst hy
      obtain ⟨u, hu, h1, h2⟩ := hc j hj
      exact ⟨u, hu, h1, h2⟩
    · split at h
      · rename_i ns hns
        refine gen _ ns h fun G σ' a w F ν hag hi hr => ?_
        have h1 := oneB_rep hi.heap hr (oneB_agree hns hag)
        rw [cells_one h1]
        refine ⟨rfl, fun j y hy => ?_⟩
        cases j with
        | zero => simp at hy; subst hy; exact ⟨_, rfl, h1, hr⟩
        | succ j => simp at hy
      · exact h.elim

theorem run_storeCells (P : Program) (g i : Nat) (ty : TypeId) : ∀ (vs : List Value) (j : Nat) (w : World) (cs : Array Value), w.heap[g]? = some (.cells cs ty (0, 0)) → i + j + vs.length ≤ cs.size → (∀ v ∈ vs, v.oneCell' = true) →
    ∃ w' cs', (storeCells ⟨g, i, none⟩ vs j).run P w = .ok () w' ∧ w'.heap[g]? = some (.cells cs' ty (0, 0)) ∧ cs'.size = cs.size ∧ w'.heap.size = w.heap.size ∧ (∀ k, k ≠ g → w'.heap[k]? = w.heap[k]?) ∧
      w'.os = w.os ∧ w'.tape = w.tape ∧ w'.output = w.output ∧ (∀ q, (q < i + j ∨ i + j + vs.length ≤ q) → cs'[q]? = cs[q]?) ∧ ∀ q, q < vs.length → cs'[i + j + q]? = vs[q]?
  | [], j, w, cs, h, _, _ => ⟨w, cs, rfl, h, rfl, rfl, fun _ _ => rfl, rfl, rfl, rfl, fun _ _ => rfl, fun q hq => absurd hq (by simp)⟩
  | v :: vs, j, w, cs, h, hle, h1 => by
    simp at hle
    have hcell : w.cell? ⟨g, i + j, none⟩ = some cs[i + j] := by unfold World.cell?; simp [h]
    have hfr : w.frozen? ⟨g, i + j, none⟩ = false := by unfold World.frozen?; simp [h]
    have hheap : (w.setCell ⟨g, i + j, none⟩ v).heap[g]? = some (.cells (cs.setIfInBounds (i + j) v) ty (0, 0)) := by
      simp [World.setCell, Array.getElem?_modify, h]
    obtain ⟨w', cs', r1, r2, r3, r4, r5, r6, r7, r8, r9, r10⟩ := run_storeCells P g i ty vs (j + 1) _ _ hheap (by simp; omega) (fun u hu => h1 u (List.mem_cons.2 (.inr hu)))
    refine ⟨w', cs', ?_, r2, by simpa using r3, by rw [r4]; simp, fun k hk => by rw [r5 k hk]; exact Below.heap_setCell w _ v k hk, r6, r7, r8, fun q hq => ?_, fun q hq => ?_⟩
    · unfold storeCells
      simp only [Sem.run_bind]
      rw [run_store P w _ v _ (h1 v (List.mem_cons_self)), at_add, hcell]
      simp [hfr, r1]
    · rw [r9 q (by simp at hq; omega)]
      rw [Array.getElem?_setIfInBounds_ne (by simp at hq; omega)]
    · cases q with
      | zero =>
        rw [r9 (i + j + 0) (by omega)]
        simp [Array.getElem?_setIfInBounds]
        omega
      | succ q =>
        have := r10 q (by simp at hq; omega)
        rw [show i + j + (q + 1) = i + (j + 1) + q from by omega, this]
        rfl

theorem splice_len {α : Type} : ∀ (l : List α) (i : Nat) (ys : List α), i + ys.length ≤ l.length → (splice l i ys).length = l.length
  | l, 0, [], _ => by cases l <;> rfl
  | x :: l, 0, y :: ys, h => by simp only [splice, List.length_cons]; rw [splice_len l 0 ys (by simp at h; omega)]
  | [], 0, y :: ys, h => by simp at h
  | [], n + 1, ys, h => by simp at h
  | x :: l, n + 1, ys, h => by simp only [splice, List.length_cons]; rw [splice_len l n ys (by simp at h; omega)]
theorem splice_get {α : Type} : ∀ (l : List α) (i : Nat) (ys : List α), i + ys.length ≤ l.length → ∀ j, (splice l i ys)[j]? = if i ≤ j ∧ j < i + ys.length then ys[j - i]? else l[j]?
  | l, 0, [], _, j => by cases l <;> simp [splice]
  | x :: l, 0, y :: ys, h, 0 => by simp [splice]
  | x :: l, 0, y :: ys, h, j + 1 => by
    have := splice_get l 0 ys (by simp at h; omega) j
    simp only [splice, List.getElem?_cons_succ, this]
    by_cases hj : j < ys.length
    · rw [if_pos ⟨by omega, by omega⟩, if_pos ⟨by omega, by simp; omega⟩]; simp
    · rw [if_neg (by omega), if_neg (by simp; omega)]
  | [], 0, y :: ys, h, j => by simp at h
  | [], n + 1, ys, h, j => by simp at h
  | x :: l, n + 1, ys, h, 0 => by simp [splice]
  | x :: l, n + 1, ys, h, j + 1 => by
    have := splice_get l n ys (by simp at h; omega) j
    simp only [splice, List.getElem?_cons_succ, this]
    by_cases hj : n ≤ j ∧ j < n + ys.length
    · rw [if_pos hj, if_pos ⟨by omega, by omega⟩, show j + 1 - (n + 1) = j - n from by omega]
    · rw [if_neg hj, if_neg (by omega)]

theorem sound_store (hT : TabOk P T) {ty : Nat} {x y : Operand} (ho : o.op = .store ty x y) (hd : dstOk o.dst σ.N = true) (h : storeK T ty (ev σ x) (ev σ y) σ o.dst K) : Sound P o σ K := by
  have mx : x ∈ o.op.operands.toList := by simp [ho, Op.operands]
  have my : y ∈ o.op.operands.toList := by simp [ho, Op.operands]
  unfold storeK at h
  split at h
  · exact h.elim
  · rename_i ti hti
    split at h
    · rename_i b i hx
      split at h
      · rename_i t cells hb
        have gen : ∀ (ys : List AV) (ns : List Nat), K { dst := dstE o.dst (.p .any), rd := b :: ns, ups := [(b, some (.box t (splice cells i ys)))] } → i + ys.length ≤ cells.length →
            (∀ (G : Gh) (σ' : St) (a : Act) (w : World) (F : Nat → Prop) (ν : Nat → Option Value), (∀ b, b ∈ ns → σ'.η b = σ.η b) → FInv G σ' a w F ν → RepV w F ν (ev σ y) (a.eval y) →
              (a.eval y).cells.size = ti.size ∧ ti.size = ys.length ∧ ∀ (j : Nat) (z : AV), ys[j]? = some z → ∃ c, (a.eval y).cells[j]? = some c ∧ c.oneCell' = true ∧ RepV w F ν z c) → Sound P o σ K := by
          intro ys ns hK hle hc
          refine sound_gen hK hd (by simp) (fun b' u hb' => by simp at hb'; simp [hb'.1]) fun G σ' a w F ν ha hi => ?_
          have e1 := arg_rep ha hi mx
          rw [hx] at e1
          obtain ⟨g, hν, hv⟩ := e1
          have hb' : σ'.η b = _ := (ha.η b (by simp)).trans hb
          obtain ⟨u, hu, g', cs, hu', hg', hs, hcc⟩ := hi.heap.rep b _ hb'
          rw [hν] at hu
          injection hu with hu
          rw [hu'] at hu
          injection hu with hu
          injection hu with hu
          injection hu with hu
          subst hu
          obtain ⟨c1, c2, c3⟩ := hc G σ' a w F ν (fun q hq => ha.η q (List.mem_cons.2 (.inr hq))) hi (arg_rep ha hi my)
          have hl : (a.eval y).cells.toList.length = ys.length := by simp [c1, c2]
          have hone : ∀ v ∈ (a.eval y).cells.toList, v.oneCell' = true := by
            intro v hv'
            obtain ⟨q, hq, rfl⟩ := List.mem_iff_getElem.1 hv'
            have hq' : q < ys.length := by omega
            obtain ⟨c, a1, a2, _⟩ := c3 q _ (List.getElem?_eq_getElem hq')
            have : c = (a.eval y).cells.toList[q] := by
              have h2 := List.getElem?_eq_getElem hq
              rw [← Array.getElem?_toList, h2] at a1
              injection a1 with a1; exact a1.symm
            rw [← this]; exact a2
          obtain ⟨w', cs', r1, r2, r3, r4, r5, r6, r7, r8, r9, r10⟩ := run_storeCells P g i t (a.eval y).cells.toList 0 w cs hg' (by omega) hone
          refine ⟨undef, w', F, ν, .inr ⟨?_, rfl⟩, ?_, trivial⟩
          · simp [execOp, ho, hv, Instr.storeAt, Instr.sureAddr, storeVar, hT.size ty ti hti, c1, r1]
          · have hF : ∀ k, F k → w'.heap[k]? = w.heap[k]? := fun k hk => r5 k fun e => hi.heap.out b _ _ g hb' hν rfl (e ▸ hk)
            refine hi.write (blk' := .box t (splice cells i ys)) hb' hν rfl r4 r5 r6 r7 r8 ⟨g, cs', rfl, r2, by rw [r3, splice_len _ _ _ hle]; exact hs, fun j z hz => ?_⟩
            rw [splice_get _ _ _ hle] at hz
            split at hz
            · rename_i hj
              obtain ⟨c, q1, q2, q3⟩ := c3 _ z hz
              refine ⟨c, ?_, q2, RepV.mono hF (fun _ => id) (fun _ _ => id) _ _ q3⟩
              have := r10 (j - i) (by omega)
              rw [show i + 0 + (j - i) = j from by omega] at this
              rw [this, Array.getElem?_toList]; exact q1
            · rename_i hj
              obtain ⟨c, q1, q2, q3⟩ := hcc j z hz
              exact ⟨c, by rw [r9 j (by omega)]; exact q1, q2, RepV.mono hF (fun _ => id) (fun _ _ => id) _ _ q3⟩
        split at h
        · rename_i hag
          split at h
          · rename_i ns hns hlt
            have hlt : i < cells.length := Nat.le_of_ble_eq_true hlt
            refine gen [ev σ y] ns h (by simp; omega) fun G σ' a w F ν hagr hi hr => ?_
            have h1 := oneB_rep hi.heap hr (oneB_agree hns hagr)
            rw [cells_one h1]
            refine ⟨by simp [hT.one ty ti hti hag], by simp [hT.one ty ti hti hag], fun j z hz => ?_⟩
            cases j with
            | zero => simp at hz; subst hz; exact ⟨_, rfl, h1, hr⟩
            | succ j => simp at hz
          · exact h.elim
        · rename_i hag
          split at h
          · rename_i n f hy
            split at h
            · rename_i hn hle
              have hn := beq_yes hn
              have hle : i + n ≤ cells.length := Nat.le_of_ble_eq_true hle
              refine gen _ [] h (by simpa [upto_len] using hle) fun G σ' a w F ν hagr hi hr => ?_
              rw [hy] at hr
              obtain ⟨cs, hv, hs, hc⟩ := hr
              rw [hv]
              refine ⟨by simp [Value.cells, hs, hn], by simp [upto_len, hn], fun j z hz => ?_⟩
              have hj : j < n := by
                have := (List.getElem?_eq_some_iff.1 hz).1
                simpa [upto_len] using this
              rw [List.getElem?_map, upto_get _ _ _ _ hj] at hz
              simp at hz
              subst hz
              obtain ⟨u, hu, h1, h2⟩ := hc j hj
              exact ⟨u, hu, h1, h2⟩
            · exact h.elim
          · rename_i n f hy
            split at h
            · rename_i hn hle
              have hn := beq_yes hn
              have hle : i + n ≤ cells.length := Nat.le_of_ble_eq_true hle
              refine gen _ [] h (by simpa [upto_len] using hle) fun G σ' a w F ν hagr hi hr => ?_
              rw [hy] at hr
              obtain ⟨cs, hv, hs, hc⟩ := hr
              rw [hv]
              refine ⟨by simp [Value.cells, hs, hn], by simp [upto_len, hn], fun j z hz => ?_⟩
              have hj : j < n := by
                have := (List.getElem?_eq_some_iff.1 hz).1
                simpa [upto_len] using this
              rw [upto_get _ _ _ _ hj] at hz
              simp at hz
              subst hz
              obtain ⟨u, hu, h1, h2⟩ := hc j hj
              exact ⟨u, hu, h1, h2⟩
            · exact h.elim
          · exact h.elim
      · exact h.elim
    · exact h.elim
end
end Go.Av
