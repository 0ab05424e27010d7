/- The reckoner is right: what builds, makes, appends, cuts, converts. -/
import Derived.Test.YtalpbdabeffnlaaGreatAvSound6
import Derived.Maps.AppendAt
import Derived.Laws.MakeOwn
import Derived.Laws.Slices
set_option linter.unusedVariables false
set_option linter.unusedSimpArgs false
namespace Go.Av
open Go Go.RowKit
section
variable {P : Program} {T : Nat → Option TI} {o : Oper} {σ : St} {K : Eff → Prop}

/-- Cells of an array told by plain values. -/
def CellsRep (w : World) (F : Nat → Prop) (cs : List PV) (a : Array Value) : Prop := a.size = cs.length ∧ ∀ (j : Nat) (p : PV), cs[j]? = some p → ∃ u, a[j]? = some u ∧ u.oneCell' = true ∧ RepP w F p u
theorem CellsRep.mono {w : World} {F F' : Nat → Prop} {cs : List PV} {a : Array Value} (h : CellsRep w F cs a) (hF : ∀ b, F b → F' b) : CellsRep w F' cs a :=
  ⟨h.1, fun j p hj => let ⟨u, h1, h2, h3⟩ := h.2 j p hj; ⟨u, h1, h2, RepP.mono (fun _ _ => rfl) hF p u h3⟩⟩

theorem cst_rep (w : World) (F : Nat → Prop) (v : Value) : RepP w F (cst v) v := by cases v <;> exact rfl

theorem zero_rep (w : World) (F : Nat → Prop) (l : List Value) (h : ∀ v, v ∈ l → v.oneCell' = true) : CellsRep w F (l.map cst) l.toArray := by
  refine ⟨by simp, fun j p hj => ?_⟩
  rw [List.getElem?_map] at hj
  cases hl : l[j]? with
  | none => rw [hl] at hj; cases hj
  | some v => rw [hl] at hj; simp at hj; subst hj; exact ⟨v, by simpa using hl, h v (List.mem_of_getElem? hl), cst_rep w F v⟩

theorem fold_set (off : Nat) : ∀ (vs : List Value) (k : Nat) (cs : Array Value), off + k + vs.length ≤ cs.size →
    ((vs.zipIdx k).foldl (fun cs (p : Value × Nat) => cs.setIfInBounds (off + p.2) p.1) cs).size = cs.size ∧
    ∀ q, ((vs.zipIdx k).foldl (fun cs (p : Value × Nat) => cs.setIfInBounds (off + p.2) p.1) cs)[q]? = if off + k ≤ q ∧ q < off + k + vs.length then vs[q - (off + k)]? else cs[q]?
  | [], k, cs, _ => ⟨rfl, fun q => by rw [if_neg (by simp)]; rfl⟩
  | v :: vs, k, cs, h => by
    simp only [List.length_cons] at h
    obtain ⟨h1, h2⟩ := fold_set off vs (k + 1) (cs.setIfInBounds (off + k) v) (by simp; omega)
    refine ⟨by simpa using h1, fun q => ?_⟩
    have := h2 q
    simp only [List.zipIdx_cons, List.foldl_cons]
    rw [this]
    by_cases hq : q = off + k
    · subst hq
      rw [if_neg (by omega), if_pos (by simp)]
      simp [Array.getElem?_setIfInBounds]
      omega
    · by_cases hr : off + (k + 1) ≤ q ∧ q < off + (k + 1) + vs.length
      · rw [if_pos hr, if_pos (by simp; omega), show q - (off + k) = (q - (off + (k + 1))) + 1 from by omega]
        rfl
      · rw [if_neg hr, if_neg (by simp; omega), Array.getElem?_setIfInBounds_ne (by omega)]

theorem cellsPV_rep {w : World} {F : Nat → Prop} {agg : Bool} {size : Nat} {v : PV} {ws : List PV} (h : cellsPV agg size v = some ws) {u : Value} (hu : RepP w F v u) : CellsRep w F ws u.cells := by
  have one : ∀ (p : PV), ws = [p] → u.oneCell' = true → RepP w F p u → CellsRep w F ws u.cells := by
    rintro p rfl h1 h2
    rw [cells_one h1]
    refine ⟨rfl, fun j q hj => ?_⟩
    cases j with
    | zero => simp at hj; subst hj; exact ⟨u, rfl, h1, h2⟩
    | succ j => simp at hj
  unfold cellsPV at h
  split at h
  · split at h
    · rename_i n f
      split at h
      · rename_i hn
        injection h with h
        subst h
        obtain ⟨cs, rfl, h1, h2⟩ := hu
        refine ⟨by simp [Value.cells, upto_len, h1], fun j p hj => ?_⟩
        have hjn : j < n := by
          have := (List.getElem?_eq_some_iff.1 hj).1
          simpa [upto_len] using this
        rw [upto_get _ _ _ _ hjn, Nat.zero_add] at hj
        injection hj with hj
        subst hj
        exact h2 j hjn
      · cases h
    · cases h
  · split at h
    · cases h
    · cases h
    · rename_i v0
      split at h
      · rename_i h1
        injection h with h
        have hu' : u = v0 := hu
        subst hu'
        exact one _ h.symm h1 hu
      · cases h
    · rename_i n1 n2 n3
      injection h with h
      refine one _ h.symm ?_ hu
      cases v with
      | any => exact absurd rfl n1
      | bl b => have hu : u = _ := hu; subst hu; rfl
      | val u => exact absurd rfl (n3 u)
      | agg n f => exact absurd rfl (n2 n f)
      | fn g n f => obtain ⟨cs, rfl, _⟩ := hu; rfl
      | rs k n f => obtain ⟨A, c, rfl, _⟩ := hu; rfl
      | rn k n f => obtain ⟨A, c, rfl, _⟩ := hu; rfl
      | rp k f => obtain ⟨ad, rfl, _⟩ := hu; rfl

theorem pureOf_agree {η η' : Nat → Option Blk} {x : AV} {p : PV} {ns : List Nat} (h : pureOf η x = some (p, ns)) (ha : ∀ b, b ∈ ns → η' b = η b) : pureOf η' x = some (p, ns) := by
  unfold pureOf at h ⊢
  split at h
  · exact h
  · rename_i b
    have hb2 : b ∈ ns := by
      split at h
      · injection h with h; injection h with _ h; rw [← h]; simp
      · cases h
    simp only [ha b hb2]
    exact h
  · cases h

theorem fill_rep {w : World} {F F' : Nat → Prop} {ν : Nat → Option Value} {η η' : Nat → Option Blk} (hh : HInv w F ν η') (hF : ∀ b, F b → F' b) {place : Nat → Option (Nat × Nat × Bool)} {place' : Nat → Option (Nat × Nat)}
    (hpl : ∀ i off size agg, place i = some (off, size, agg) → place' i = some (off, size)) :
    ∀ (l : List (Nat × AV)) (vs : List (Nat × Value)) (cs r : List PV) (ns : List Nat) (a : Array Value), fillP place η l cs = some (r, ns) → (∀ b, b ∈ ns → η' b = η b) → (∀ b, Base ν η' ns b → F' b) → CellsRep w F' cs a →
      l.length = vs.length → (∀ (j i : Nat) (x : AV), l[j]? = some (i, x) → ∃ v, vs[j]? = some (i, v) ∧ RepV w F ν x v) → ∃ a', Instr.fill place' a vs = some a' ∧ CellsRep w F' r a' ∧ r.length = cs.length
  | [], vs, cs, r, ns, a, h, _, _, hc, hl, _ => by
    simp [fillP] at h
    obtain ⟨rfl, rfl⟩ := h
    cases vs with
    | nil => exact ⟨a, rfl, hc, rfl⟩
    | cons v vs => simp at hl
  | (i, x) :: l, vs, cs, r, ns, a, h, ha, hB, hc, hl, hv => by
    obtain ⟨v, hv0, hvr⟩ := hv 0 i x rfl
    cases vs with
    | nil => simp at hl
    | cons v0 vs =>
      simp at hv0
      subst hv0
      simp only [fillP] at h
      split at h
      · rename_i off size agg hp
        split at h
        · rename_i p ns1 hpo
          split at h
          · rename_i ws hws
            split at h
            · rename_i hcond
              rw [Bool.and_eq_true] at hcond
              have hsz := beq_yes hcond.1
              have hle : off + ws.length ≤ cs.length := Nat.le_of_ble_eq_true hcond.2
              split at h
              · rename_i r2 ms2 h2
                injection h with h
                injection h with e1 e2
                subst e1 e2
                have hpr : RepP w F' p v := pureOf_rep hh hvr (pureOf_agree hpo fun b hb => ha b (List.mem_append.2 (.inl hb))) hF fun b hb => hB b (hb.mono fun n hn => List.mem_append.2 (.inl hn))
                obtain ⟨c1, c2⟩ := cellsPV_rep hws hpr
                obtain ⟨f1, f2⟩ := fold_set off v.cells.toList 0 a (by rw [Array.length_toList, c1, hc.1]; omega)
                have hfe : v.cells.zipIdx.foldl (fun cs (x : Value × Nat) => match x with | (c, j) => cs.setIfInBounds (off + j) c) a = (v.cells.toList.zipIdx 0).foldl (fun cs (p : Value × Nat) => cs.setIfInBounds (off + p.2) p.1) a := by
                  rw [← Array.foldl_toList, Array.toList_zipIdx]
                generalize hA : (v.cells.toList.zipIdx 0).foldl (fun cs (p : Value × Nat) => cs.setIfInBounds (off + p.2) p.1) a = A at f1 f2 hfe
                have hnew : CellsRep w F' (splice cs off ws) A := by
                  refine ⟨by rw [f1, hc.1, splice_len _ _ _ hle], fun j q hj => ?_⟩
                  rw [splice_get _ _ _ hle] at hj
                  rw [f2 j]
                  split at hj
                  · rename_i hr
                    obtain ⟨u, u1, u2, u3⟩ := c2 _ q hj
                    rw [if_pos (by rw [Array.length_toList, c1]; omega)]
                    exact ⟨u, by simpa using u1, u2, u3⟩
                  · rename_i hr
                    rw [if_neg (by rw [Array.length_toList, c1]; omega)]
                    exact hc.2 j q hj
                obtain ⟨a', g1, g2, g3⟩ := fill_rep hh hF hpl l vs _ _ _ A h2 (fun b hb => ha b (List.mem_append.2 (.inr hb))) (fun b hb => hB b (hb.mono fun n hn => List.mem_append.2 (.inr hn))) hnew (by simpa using hl)
                  (fun j i x hj => by simpa using hv (j + 1) i x (by simpa using hj))
                refine ⟨a', ?_, g2, by rw [g3, splice_len _ _ _ hle]⟩
                simp only [Instr.fill, hpl _ _ _ _ hp]
                rw [if_neg]
                · rw [hfe]; exact g1
                · have hc1 : a.size = cs.length := hc.1
                  have c1' : v.cells.size = ws.length := c1
                  intro hor
                  simp only [Bool.or_eq_true, decide_eq_true_eq] at hor
                  rcases hor with h1 | h1
                  · exact h1 (c1'.trans hsz)
                  · rw [c1', hc1] at h1; omega
              · cases h
            · cases h
          · cases h
        · cases h
      · cases h

theorem evParts_get (σ : St) : ∀ (l : List (Nat × Operand)) (j i : Nat) (x : AV), (evParts σ l)[j]? = some (i, x) → ∃ op, l[j]? = some (i, op) ∧ x = ev σ op
  | [], j, i, x, h => by simp [evParts] at h
  | (k, op) :: l, 0, i, x, h => by simp [evParts] at h; exact ⟨op, by simp [h.1], h.2.symm⟩
  | (k, op) :: l, j + 1, i, x, h => evParts_get σ l j i x (by simpa [evParts] using h)
theorem evParts_len (σ : St) : ∀ (l : List (Nat × Operand)), (evParts σ l).length = l.length
  | [] => rfl
  | (_, _) :: l => by simp [evParts, evParts_len σ l]

theorem info_of (hT : TabOk P T) {t : Nat} {ti : TI} (h : T t = some ti) : ∃ i, P.info? t = some i ∧ i.size = ti.size ∧ i.bytes = ti.bytes := hT.info t ti h
theorem zero_of (hT : TabOk P T) {t : Nat} {ti : TI} (h : T t = some ti) (hz : ti.zero ≠ []) : ∃ i z, P.info? t = some i ∧ i.zero = some z ∧ i.size = ti.size ∧ i.bytes = ti.bytes ∧ z.cells = ti.zero.toArray ∧ ti.zero.length = ti.size ∧
    (∀ v, v ∈ ti.zero → v.oneCell' = true) ∧ ∀ w, (zeroValue t).run P w = .ok z w := by
  obtain ⟨i, h1, h2, h3⟩ := hT.info t ti h
  obtain ⟨z, z1, z2, z3, z4, _⟩ := hT.zero t ti h hz
  rw [h1] at z1
  simp at z1
  exact ⟨i, z, h1, z1, h2, h3, z2, z3, z4, fun w => by simp [zeroValue, typeInfo, h1, z1]⟩

theorem parts_vals {e : Eff} {σ' : St} {G : Gh} {a : Act} {w : World} {F : Nat → Prop} {ν : Nat → Option Value} (ha : AgreeOn o e σ σ') (hi : FInv G σ' a w F ν) {parts : Array (Nat × Operand)}
    (hm : ∀ i x, (i, x) ∈ parts.toList → x ∈ o.op.operands.toList) : ∀ (j i : Nat) (x : AV), (evParts σ parts.toList)[j]? = some (i, x) → ∃ v, ((parts.map fun (p : Nat × Operand) => (p.1, a.eval p.2)).toList)[j]? = some (i, v) ∧ RepV w F ν x v := by
  intro j i x hj
  obtain ⟨op, h1, rfl⟩ := evParts_get σ _ j i x hj
  refine ⟨a.eval op, by rw [Array.toList_map, List.getElem?_map, h1]; rfl, arg_rep ha hi (hm i op (List.mem_of_getElem? h1))⟩

theorem nth_lt' {α : Type} : ∀ (l : List α) (j : Nat), j < l.length → ∃ x, nth? l j = some x
  | [], j, h => by simp at h
  | c :: N, 0, h => ⟨c, rfl⟩
  | c :: N, j + 1, h => nth_lt' N j (by simpa using h)
theorem run_places (P : Program) (w : World) : ∀ (fl : List Field), (∀ (i : Nat) (f : Field), fl[i]? = some f → ∃ s, ∀ w, (sizeOf f.type).run P w = .ok s w) →
    ∃ ps : List (Nat × Nat), (fl.mapM (m := Sem) fun f => do pure (f.offset, ← sizeOf f.type)).run P w = .ok ps w ∧ ∀ (i : Nat) (f : Field) (s : Nat), fl[i]? = some f → (∀ w, (sizeOf f.type).run P w = .ok s w) → ps[i]? = some (f.offset, s)
  | [], _ => ⟨[], rfl, fun i f s h => by simp at h⟩
  | f :: fl, h => by
    obtain ⟨s, hs⟩ := h 0 f rfl
    obtain ⟨ps, p1, p2⟩ := run_places P w fl fun i g hi => h (i + 1) g (by simpa using hi)
    refine ⟨(f.offset, s) :: ps, ?_, fun i g t hi ht => ?_⟩
    · simp only [List.mapM_cons, Sem.run_bind, hs, Result.andThen_ok, Sem.run_pure]
      rw [p1]
      rfl
    · cases i with
      | zero =>
        simp at hi
        subst hi
        have := (hs w).symm.trans (ht w)
        injection this with this
        simp [this]
      | succ i => exact p2 i g t (by simpa using hi) ht

theorem sound_build (hT : TabOk P T) {ty : Nat} {parts : Array (Nat × Operand)} (ho : o.op = .build ty parts) (hd : dstOk o.dst σ.N = true) (h : buildK T ty parts.toList σ o.dst K) : Sound P o σ K := by
  have hm : ∀ i x, (i, x) ∈ parts.toList → x ∈ o.op.operands.toList := by
    intro i x hx
    simp only [ho, Op.operands]
    simpa using ⟨i, by simpa using hx⟩
  unfold buildK at h
  split at h
  · rename_i ti hti
    split at h
    · rename_i fs hk
      split at h
      · exact h.elim
      · rename_i z zs hz
        split at h
        · rename_i cs ns hfill
          refine sound_gen h hd (by simp) (fun b u hb => .inl (mem_frees ns hb)) fun G σ' a w F ν ha hi => ?_
          obtain ⟨i, zv, i1, i2, i3, i4, z2, z3, z4, z5⟩ := zero_of hT hti (by rw [hz]; simp)
          obtain ⟨d, hok, hund, hrun⟩ := run_und hT hti hk
          obtain ⟨fields, rfl, hfl, hf⟩ := hok
          have hplaces : ∀ w, ∃ ps : Array (Nat × Nat), (fields.mapM (m := Sem) fun f => do pure (f.offset, ← sizeOf f.type)).run P w = .ok ps w ∧ ∀ i off size agg, nth? fs i = some (off, size, agg) → ps[i]? = some (off, size) := by
            intro w
            have hall : ∀ (i : Nat) (f : Field), fields.toList[i]? = some f → ∃ s, ∀ w, (sizeOf f.type).run P w = .ok s w := by
              intro i f hif
              have hil : i < fs.length := by rw [← hfl, ← Array.length_toList]; exact (List.getElem?_eq_some_iff.1 hif).1
              obtain ⟨⟨o', s', g'⟩, hx⟩ := nth_lt' fs i hil
              obtain ⟨f', q1, _, q3, _⟩ := hf i o' s' g' hx
              rw [← Array.getElem?_toList, hif] at q1
              injection q1 with q1
              subst q1
              exact ⟨s', q3⟩
            obtain ⟨ps, p1, p2⟩ := run_places P w fields.toList hall
            refine ⟨ps.toArray, ?_, fun i off size agg hx => ?_⟩
            · rw [← Array.toArray_toList (xs := fields), List.mapM_toArray, Sem.run_map, p1]
              rfl
            · obtain ⟨f', q1, q2, q3, _⟩ := hf i off size agg hx
              have := p2 i f' size (by simpa using q1) q3
              rw [q2] at this
              simpa using this
          obtain ⟨ps, hps, hpl⟩ := hplaces w
          obtain ⟨a', g1, g2, g3⟩ := fill_rep (F' := fun b => F b ∨ Base ν σ'.η ns b) (place' := (ps[·]?)) hi.heap (fun _ => .inl) hpl (evParts σ parts.toList) ((parts.map fun (p : Nat × Operand) => (p.1, a.eval p.2)).toList) _ cs ns zv.cells
            hfill (fun b hb => ha.η b hb) (fun _ => .inr) (by rw [z2, hz]; exact zero_rep w _ _ (by rw [← hz]; exact z4)) (by simp [evParts_len]) (parts_vals ha hi hm)
          refine ⟨.agg a', w, _, ν, .inl ?_, hi.freeze ns, a', rfl, by rw [g2.1], fun j hj => ?_⟩
          · simp only [execOp, ho, Sem.run_bind, Instr.build, z5, Result.andThen_ok, hrun, hps]
            have : (parts.map fun (x : Nat × Operand) => match x with | (i, x) => (i, a.eval x)) = parts.map fun (p : Nat × Operand) => (p.1, a.eval p.2) := rfl
            rw [this, g1]
            rfl
          · have hj : j < cs.length := hj
            obtain ⟨u, u1, u2, u3⟩ := g2.2 j _ (get_at .any cs j hj)
            exact ⟨u, u1, u2, u3⟩
        · exact h.elim
    · exact h.elim
  · exact h.elim

theorem sound_alloc (hT : TabOk P T) {ty nm : Nat} (ho : o.op = .alloc ty) (hd : dstOk o.dst σ.N = true) (h : allocK T ty nm σ o.dst K) : Sound P o σ K := by
  unfold allocK at h
  split at h
  · rename_i ti hti hus
    split at h
    · exact h.elim
    · rename_i z zs hz
      refine sound_gen h hd (fun b hb => by simp at hb; subst hb; exact hus) (fun b u hb => by simp at hb; simp [hb.1]) fun G σ' a w F ν ha hi => ?_
      obtain ⟨i, zv, i1, i2, i3, i4, z2, z3, z4, z5⟩ := zero_of hT hti (by rw [hz]; simp)
      have hus' : σ'.us nm = false := ha.us nm (by simp)
      refine ⟨.pointer (some ⟨w.heap.size, 0, none⟩), w.alloc (.cells zv.cells ty), F, upd ν nm (some (.pointer (some ⟨w.heap.size, 0, none⟩))), .inl (by simp [execOp, ho, Instr.alloc, z5, newVar, newRow]), ?_, w.heap.size, upd_same _ _ _, rfl⟩
      refine hi.new (blk := .box ty _) hus' (by simp) (fun k hk => heap_alloc w _ k hk) rfl rfl rfl (fun g hg => by simp [baseOf] at hg; omega) ⟨w.heap.size, zv.cells, rfl, heap_alloc_new w _, by simp [z2, hz], fun j y hy => ?_⟩
      obtain ⟨r1, r2⟩ := zero_rep w F (z :: zs) (by rw [← hz]; exact z4)
      rw [List.getElem?_map] at hy
      cases hl : ((z :: zs).map cst)[j]? with
      | none => rw [hl] at hy; cases hy
      | some p =>
        rw [hl] at hy
        simp at hy
        subst hy
        obtain ⟨u, u1, u2, u3⟩ := r2 j p hl
        rw [z2, hz]
        exact ⟨u, u1, u2, RepP.mono (fun b hb => heap_alloc w _ b (hi.heap.fb b hb)) (fun _ h => h) p u u3⟩
  · exact h.elim

theorem anyL_len : ∀ n, (anyL n).length = n
  | 0 => rfl
  | n + 1 => by simp [anyL, anyL_len n]
theorem anyL_get : ∀ (n j : Nat) (p : PV), (anyL n)[j]? = some p → p = .any
  | 0, j, p, h => by simp [anyL] at h
  | n + 1, 0, p, h => by simp [anyL] at h; exact h.symm
  | n + 1, j + 1, p, h => anyL_get n j p (by simpa [anyL] using h)

theorem sound_buildSlice (hT : TabOk P T) {ty len nm : Nat} {parts : Array (Nat × Operand)} (ho : o.op = .buildSlice ty len parts) (hd : dstOk o.dst σ.N = true) (h : buildSliceK T ty len parts.toList nm σ o.dst K) : Sound P o σ K := by
  have hm : ∀ i x, (i, x) ∈ parts.toList → x ∈ o.op.operands.toList := by
    intro i x hx
    simp only [ho, Op.operands]
    simpa using ⟨i, by simpa using hx⟩
  unfold buildSliceK at h
  split at h
  · rename_i e hq hus
    split at h
    · rename_i te hte
      split at h
      · rename_i z zs hz hble
        have hble : len * te.size ≤ 65536 := Nat.le_of_ble_eq_true hble
        split at h
        · rename_i cs ns hfill
          refine sound_gen h hd (fun b hb => by simp at hb; subst hb; exact hus) (fun b u hb => ?_) fun G σ' a w F ν ha hi => ?_
          · rcases List.mem_append.1 hb with h1 | h1
            · exact .inl (mem_frees ns h1)
            · simp at h1; simp [h1.1]
          · obtain ⟨ti, hti, hk⟩ := tkOf_some hq (by simp)
            obtain ⟨d, hok, hund, hrun⟩ := run_und hT hti hk
            have hok : d = .slice e := hok
            subst hok
            obtain ⟨i, zv, i1, i2, i3, i4, z2, z3, z4, z5⟩ := zero_of hT hte (by rw [hz]; simp)
            have hzl : 0 < te.zero.length := by rw [hz]; simp
            have hts : 0 < te.size := by omega
            have hus' : σ'.us nm = false := ha.us nm (by simp)
            -- the cells before the parts are laid
            let za : Array Value := if len * te.size = 0 then #[] else zv.cells
            have hzz : CellsRep w (fun b => F b ∨ Base ν σ'.η ns b) (anyL (len * te.size)) ((Array.range (len * te.size)).map (za[· % za.size]!)) := by
              refine ⟨by simp [anyL_len], fun j p hj => ?_⟩
              have hjl : j < len * te.size := by
                have := (List.getElem?_eq_some_iff.1 hj).1
                simpa [anyL_len] using this
              have := anyL_get _ _ _ hj
              subst this
              have hza : za = zv.cells := if_neg (by omega)
              have hsz : za.size = te.size := by rw [hza, z2]; simpa using z3
              have hlt : j % za.size < za.size := Nat.mod_lt _ (by omega)
              refine ⟨za[j % za.size]!, by simp [hjl], ?_, trivial⟩
              rw [getElem!_pos za _ hlt]
              have h1 : za[j % za.size] ∈ za := Array.getElem_mem hlt
              have h2 : ∀ v, v ∈ za → v ∈ te.zero := by intro v hv; rw [hza, z2] at hv; simpa using hv
              exact z4 _ (h2 _ h1)
            obtain ⟨a', g1, g2, g3⟩ := fill_rep (F' := fun b => F b ∨ Base ν σ'.η ns b) (place' := fun i => some (i * te.size, te.size)) hi.heap (fun _ => .inl) (fun i off size agg hp => by simp only [Option.some.injEq, Prod.mk.injEq] at hp ⊢; exact ⟨hp.1, hp.2.1⟩)
              (evParts σ parts.toList) ((parts.map fun (p : Nat × Operand) => (p.1, a.eval p.2)).toList) _ cs ns _ hfill (fun b hb => ha.η b hb) (fun _ => .inr) hzz (by simp [evParts_len]) (parts_vals ha hi hm)
            rw [anyL_len] at g3
            have hf := hi.freeze ns
            have hlm : len ≤ maxLen := by
              have : len ≤ len * te.size := Nat.le_mul_of_pos_right _ hts
              unfold maxLen; omega
            refine ⟨.slice (some ⟨w.heap.size, 0, none⟩) len len, w.alloc (.cells a' e), (fun b => F b ∨ Base ν σ'.η ns b), upd ν nm (some (.slice (some ⟨w.heap.size, 0, none⟩) len len)), .inl ?_, ?_, upd_same _ _ _⟩
            · have e1 : (parts.map fun (x : Nat × Operand) => match x with | (i, x) => (i, a.eval x)) = parts.map fun (p : Nat × Operand) => (p.1, a.eval p.2) := rfl
              have h24 : (2 : Nat) ^ 24 = 16777216 := by decide
              have hlim : ¬ len * te.size > 2 ^ 24 := by omega
              by_cases h0 : len * te.size = 0
              · have hza : za = #[] := if_pos h0
                rw [hza] at g1
                simp [execOp, ho, Instr.buildSlice, hrun, hT.size e te hte, h0, e1, newRow] at g1 ⊢
                rw [g1]
                simp
              · have hza : za = zv.cells := if_neg h0
                rw [hza] at g1
                simp only [execOp, ho, Instr.buildSlice, Sem.run_bind, hrun, Result.andThen_ok, hT.size e te hte, if_neg hlim, h0, if_false, z5, e1, Sem.run_pure, newRow, run_newObj]
                rw [g1]
                simp
            · have := hf.new (nm := nm) (w' := w.alloc (.cells a' e)) (u := .slice (some ⟨w.heap.size, 0, none⟩) len len) (blk := .row e te.size len fun i j => at_ .any cs (i * te.size + j)) hus' (by simp) (fun k hk => heap_alloc w _ k hk) rfl rfl rfl
                (fun g hg => by simp [baseOf] at hg; omega) ⟨a'.toList, ⟨by rw [Array.length_toList, g2.1, g3], .inr ⟨w.heap.size, len, a', rfl, Nat.zero_le _, heap_alloc_new w _, Nat.le_refl _, hlm, by rw [g2.1, g3], by rw [← g3, ← g2.1, ← Array.length_toList, List.take_length]⟩⟩, fun i j hi' hj' => ?_⟩
              · show FInv G { σ' with η := upds σ'.η (frees ns ++ _), us := _ } a _ _ _
                rw [upds_append]
                exact this
              · have hlt : i * te.size + j < cs.length := by
                  rw [g3]
                  calc i * te.size + j < i * te.size + te.size := by omega
                    _ = (i + 1) * te.size := by rw [Nat.add_mul]; simp
                    _ ≤ len * te.size := Nat.mul_le_mul_right _ hi'
                obtain ⟨u, u1, u2, u3⟩ := g2.2 _ _ (get_at .any cs _ hlt)
                exact ⟨u, by simpa using u1, u2, RepP.mono (fun b hb => heap_alloc w _ b (hf.heap.fb b hb)) (fun _ h => h) _ u u3⟩
        · exact h.elim
      · exact h.elim
    · exact h.elim
  · exact h.elim

/-- A named row gives way to another one, that may lie in the same block. -/
theorem FInv.move {G : Gh} {σ : St} {a : Act} {w : World} {F : Nat → Prop} {ν : Nat → Option Value} (h : FInv G σ a w F ν) {b nm : Nat} {blk0 : Blk} {u0 : Value} (hb0 : σ.η b = some blk0) (hu0 : ν b = some u0) (hnm : σ.us nm = false) {w' : World}
    (hsz : w.heap.size ≤ w'.heap.size) (hold : ∀ k, k < w.heap.size → baseOf u0 ≠ some k → w'.heap[k]? = w.heap[k]?) (hos : w'.os = w.os) (htape : w'.tape = w.tape) (hout : w'.output = w.output)
    {u : Value} {blk : Blk} (hu : ∀ g, baseOf u = some g → baseOf u0 = some g ∨ w.heap.size ≤ g)
    (hb : BlkRep w' F (upd ν nm (some u)) u blk) :
    FInv G { σ with η := upd (upd σ.η b none) nm (some blk), us := upd σ.us nm true } a w' F (upd ν nm (some u)) := by
  have hν : ∀ b v, ν b = some v → upd ν nm (some u) b = some v := upd_none_alive (h.names nm hnm)
  have hF : ∀ k, F k → w'.heap[k]? = w.heap[k]? := fun k hk => hold k (h.heap.fb k hk) fun e => h.heap.out b blk0 u0 k hb0 hu0 e hk
  have hlt : ∀ n bn v g, σ.η n = some bn → ν n = some v → baseOf v = some g → g < w.heap.size := by
    intro n bn v g h1 h2 h3
    obtain ⟨v', hv', hr⟩ := h.heap.rep n bn h1
    rw [h2] at hv'; injection hv' with hv'; subst hv'
    exact blk_lt hr h3
  have hη : ∀ n bn, upd (upd σ.η b none) nm (some blk) n = some bn → (n = nm ∧ bn = blk) ∨ (n ≠ nm ∧ n ≠ b ∧ σ.η n = some bn) := by
    intro n bn hn
    rcases upd_cases (upd σ.η b none) nm n (some blk) with ⟨rfl, e⟩ | ⟨hne, e⟩
    · rw [e] at hn; injection hn with hn; exact .inl ⟨rfl, hn.symm⟩
    · rw [e] at hn
      rcases upd_cases σ.η b n none with ⟨rfl, e'⟩ | ⟨hne', e'⟩
      · rw [e'] at hn; cases hn
      · rw [e'] at hn; exact .inr ⟨Ne.symm hne, Ne.symm hne', hn⟩
  -- another row lies elsewhere
  have hoth : ∀ n bn v g, n ≠ b → σ.η n = some bn → ν n = some v → baseOf v = some g → baseOf u0 ≠ some g := fun n bn v g hne h1 h2 h3 h4 => hne (h.heap.sep n b bn blk0 v u0 g h1 hb0 h2 hu0 h3 h4)
  refine ⟨⟨fun k hk => Nat.lt_of_lt_of_le (h.heap.fb k hk) hsz, ?_, ?_, ?_⟩, fun t => RepV.mono hF (fun _ => id) hν _ _ (h.tmps t), ?_, ?_, ?_, ?_, h.fl, h.fr, ?_⟩
  · intro n bn hn
    rcases hη n bn hn with ⟨rfl, rfl⟩ | ⟨h1, h2, h3⟩
    · exact ⟨u, upd_same _ _ _, hb⟩
    · obtain ⟨v, hv, hr⟩ := h.heap.rep n bn h3
      exact ⟨v, hν _ _ hv, hr.mono hF (fun _ => id) hν fun g hg => hold g (blk_lt hr hg) (hoth n bn v g h2 h3 hv hg)⟩
  · intro n m bn bm v v' g h1 h2 h3 h4 h5 h6
    rcases hη n bn h1 with ⟨rfl, rfl⟩ | ⟨n1, n2, n3⟩
    · rcases hη m bm h2 with ⟨rfl, rfl⟩ | ⟨m1, m2, m3⟩
      · rfl
      · exfalso
        rw [upd_same] at h3; injection h3 with h3; subst h3
        rw [upd_other _ _ (Ne.symm m1)] at h4
        rcases hu g h5 with h7 | h7
        · exact hoth m bm v' g m2 m3 h4 h6 h7
        · have := hlt m bm v' g m3 h4 h6; omega
    · rw [upd_other _ _ (Ne.symm n1)] at h3
      rcases hη m bm h2 with ⟨rfl, rfl⟩ | ⟨m1, m2, m3⟩
      · exfalso
        rw [upd_same] at h4; injection h4 with h4; subst h4
        rcases hu g h6 with h7 | h7
        · exact hoth n bn v g n2 n3 h3 h5 h7
        · have := hlt n bn v g n3 h3 h5; omega
      · rw [upd_other _ _ (Ne.symm m1)] at h4
        exact h.heap.sep n m bn bm v v' g n3 m3 h3 h4 h5 h6
  · intro n bn v g h1 h2 h3 hFg
    rcases hη n bn h1 with ⟨rfl, rfl⟩ | ⟨n1, n2, n3⟩
    · rw [upd_same] at h2; injection h2 with h2; subst h2
      rcases hu g h3 with h7 | h7
      · exact h.heap.out b blk0 u0 g hb0 hu0 h7 hFg
      · have := h.heap.fb g hFg; omega
    · rw [upd_other _ _ (Ne.symm n1)] at h2
      exact h.heap.out n bn v g n3 h2 h3 hFg
  · intro c hc
    change upd σ.us nm true c = false at hc
    rcases upd_cases σ.us nm c true with ⟨rfl, e⟩ | ⟨hne, e⟩
    · rw [e] at hc; cases hc
    · rw [e] at hc; rw [upd_other _ _ hne]; exact h.names c hc
  · refine ⟨Nat.le_trans h.ext.size hsz, fun k hk hS => (hold k (Nat.lt_of_lt_of_le hk h.ext.size) fun e => ?_).trans (h.ext.blk k hk hS), hos.trans h.ext.os, htape.trans h.ext.tape, hout.trans h.ext.output⟩
    rcases h.owns k ⟨b, blk0, u0, hb0, hu0, e⟩ with h1 | h1
    · exact hS h1
    · omega
  · intro n hn
    rw [upd_other]
    · exact h.same n hn
    · rintro rfl; rw [h.used _ hn] at hnm; cases hnm
  · rintro g ⟨n, bn, v, h1, h2, h3⟩
    rcases hη n bn h1 with ⟨rfl, rfl⟩ | ⟨n1, n2, n3⟩
    · rw [upd_same] at h2; injection h2 with h2; subst h2
      rcases hu g h3 with h7 | h7
      · exact h.owns g ⟨b, blk0, u0, hb0, hu0, h7⟩
      · exact .inr (Nat.le_trans h.ext.size h7)
    · rw [upd_other _ _ (Ne.symm n1)] at h2
      exact h.owns g ⟨n, bn, v, n3, h2, h3⟩
  · intro n hn
    change upd σ.us nm true n = true
    rcases upd_cases σ.us nm n true with ⟨rfl, e⟩ | ⟨hne, e⟩
    · exact e
    · rw [e]; exact h.used n hn

/-- What is read for an append. -/
theorem srcOf_rep {w : World} {F : Nat → Prop} {ν : Nat → Option Value} {η : Nat → Option Blk} (hh : HInv w F ν η) {x : AV} {v : Value} (hx : RepV w F ν x v) {k m : Nat} {g : Nat → Nat → PV} {ns : List Nat} (hs : srcOf η x = some (k, m, g, ns)) :
    ∃ (A : Option Addr) (c : Nat), v = .slice A m c ∧ (0 < m → ∃ ad, A = some ad ∧ ∀ i j, i < m → j < k → ∃ u, w.cell? (ad.add (i * k + j)) = some u ∧ u.oneCell' = true ∧ RepP w F (g i j) u) := by
  unfold srcOf at hs
  split at hs
  · injection hs with hs
    simp only [Prod.mk.injEq] at hs
    obtain ⟨rfl, rfl, rfl, rfl⟩ := hs
    obtain ⟨A, c, rfl, _, _, _, h⟩ := hx
    exact ⟨A, c, rfl, fun hm => let ⟨ad, h1, _, h2⟩ := h hm; ⟨ad, h1, h2⟩⟩
  · injection hs with hs
    simp only [Prod.mk.injEq] at hs
    obtain ⟨rfl, rfl, rfl, rfl⟩ := hs
    obtain ⟨ad, c, rfl, _, _, h⟩ := hx
    exact ⟨some ad, c, rfl, fun hm => ⟨ad, rfl, (h hm).2⟩⟩
  · injection hs with hs
    simp only [Prod.mk.injEq] at hs
    obtain ⟨rfl, rfl, rfl, rfl⟩ := hs
    exact ⟨none, 0, hx, fun hm => absurd hm (by omega)⟩
  · rename_i b
    split at hs
    · rename_i e k' n' f' hb
      injection hs with hs
      simp only [Prod.mk.injEq] at hs
      obtain ⟨rfl, rfl, rfl, rfl⟩ := hs
      obtain ⟨u, hu, xs, hown, hc⟩ := hh.rep b _ hb
      have hx : ν b = some v := hx
      rw [hu] at hx; injection hx with hx; subst hx
      rcases hown.2 with ⟨rfl, rfl⟩ | ⟨g', cap, cur, rfl, _, h1, h2, h3, h4, h5⟩
      · exact ⟨none, 0, rfl, fun hm => absurd hm (by omega)⟩
      · exact ⟨_, cap, rfl, fun hm => ⟨_, rfl, fun i j hi hj => let ⟨c, a1, a2, a3⟩ := hc i j hi hj; ⟨c, hown.cells rfl _ _ a1, a2, a3⟩⟩⟩
    · cases hs
  · cases hs

theorem run_append_nil (P : Program) (w : World) (base t ty e : Nat) (i : TypeInfo) (size : Nat) (ht : P.underlying t = some (.slice e)) (hi : P.info? e = some i)
    (v : Value) (n : Nat) (xs : List Value) (hown : w.ownsRow base e size v n xs) (c : Nat) : (Builtin.append_ #[t, t] ty #[v, .slice none 0 c]).run P w = .ok v w := by
  rcases hown.2 with ⟨rfl, rfl⟩ | ⟨g, cap, cur, rfl, _, _, hnc, _⟩
  · simp [Builtin.append_, run_underlying ht, sizeOf, typeInfo, hi, Builtin.lenOf, Builtin.firstCells]
  · simp [Builtin.append_, run_underlying ht, sizeOf, typeInfo, hi, Builtin.lenOf, Builtin.firstCells, hnc, storeCells]

/-- One append, from a row of the frame's own (or nil). -/
theorem append_step (hT : TabOk P T) {t ty e : Nat} {te : TI} (hu : P.underlying t = some (.slice e)) (hte : T e = some te) (hz : te.zero ≠ []) {w : World} {F : Nat → Prop} {v : Value} {n : Nat} {xs : List Value} {f : Nat → Nat → PV}
    (hown : w.ownsRow 0 e te.size v n xs) (hf : ∀ i j, i < n → j < te.size → ∃ c, xs[i * te.size + j]? = some c ∧ c.oneCell' = true ∧ RepP w F (f i j) c)
    {m : Nat} {A : Option Addr} {c k2 : Nat} {g : Nat → Nat → PV} (hk : k2 = te.size ∨ m = 0) (hsrc : 0 < m → ∃ ad, A = some ad ∧ ∀ i j, i < m → j < k2 → ∃ u, w.cell? (ad.add (i * k2 + j)) = some u ∧ u.oneCell' = true ∧ RepP w F (g i j) u)
    (h1 : n + m ≤ maxLen) (h2 : (n + m) * te.bytes ≤ 140737488355328) (hFold : ∀ w', w.grownBy w' v.ownBlock → ∀ b, F b → w'.heap[b]? = w.heap[b]?) :
    ∃ v' w', (Builtin.append_ #[t, t] ty #[v, .slice A m c]).run P w = .ok v' w' ∧ w.grownBy w' v.ownBlock ∧ (v'.ownBlock = v.ownBlock ∨ v'.ownBlock = some w.heap.size) ∧
      ∀ ν, BlkRep w' F ν v' (.row e te.size (n + m) (catF n f g)) := by
  obtain ⟨i, zv, i1, i2, i3, i4, z2, z3, z4, z5⟩ := zero_of hT hte hz
  have hts : 0 < te.size := by rw [← z3]; exact List.length_pos_iff.2 hz
  have catl : ∀ i j, i < n → catF n f g i j = f i j := by
    intro i j hi; unfold catF; rw [show Nat.blt i n = true from Nat.ble_eq_true_of_le hi]
  have catr : ∀ i j, n ≤ i → catF n f g i j = g (i - n) j := by
    intro i j hi; unfold catF
    have : Nat.blt i n = false := by
      cases hb : Nat.blt i n with
      | false => rfl
      | true => have : i < n := Nat.le_of_ble_eq_true hb; omega
    rw [this]
  by_cases hm : m = 0
  · subst hm
    cases A with
    | none =>
      refine ⟨v, w, run_append_nil P w 0 t ty e i te.size hu i1 v n xs hown c, World.grownBy.refl w _, .inl rfl, fun ν => ⟨xs, hown, fun i j hi hj => ?_⟩⟩
      rw [catl i j (by omega)]; exact hf i j (by omega) hj
    | some ad =>
      obtain ⟨v', w', r1, r2, r3, _, r5⟩ := run_append_own_at (P := P) w 0 t ty e i zv te.size te.bytes hu i1 i2 i3 i4 (by rw [z2]; simpa using z3) hts v n xs hown ad 0 c [] (by simp) (by simp) (by simp) h1 h2 (Nat.zero_le _)
      refine ⟨v', w', r1, r3, r5, fun ν => ⟨xs, by simpa using r2, fun i j hi hj => ?_⟩⟩
      obtain ⟨c', q1, q2, q3⟩ := hf i j (by omega) hj
      rw [catl i j (by omega)]
      exact ⟨c', q1, q2, RepP.mono (hFold w' r3) (fun _ h => h) _ _ q3⟩
  · have hk : k2 = te.size := by rcases hk with h | h; exact h; exact absurd h hm
    subst hk
    obtain ⟨ad, rfl, hc⟩ := hsrc (by omega)
    let news : List Value := (List.range (m * te.size)).map fun q => (w.cell? (ad.add q)).getD undef
    have hget : ∀ q, q < m * te.size → ∃ u, w.cell? (ad.add q) = some u ∧ u.oneCell' = true := by
      intro q hq
      have hi : q / te.size < m := (Nat.div_lt_iff_lt_mul hts).2 hq
      have hj : q % te.size < te.size := Nat.mod_lt _ hts
      obtain ⟨u, u1, u2, _⟩ := hc (q / te.size) (q % te.size) hi hj
      rw [Nat.mul_comm, Nat.div_add_mod] at u1
      exact ⟨u, u1, u2⟩
    have hnews : ∀ (j : Nat) (u : Value), news[j]? = some u → j < m * te.size ∧ w.cell? (ad.add j) = some u := by
      intro j u hj
      have hjl : j < m * te.size := by
        have := (List.getElem?_eq_some_iff.1 hj).1
        simpa [news] using this
      obtain ⟨u', h3, _⟩ := hget j hjl
      have : news[j]? = some u' := by simp [news, hjl, h3]
      rw [hj] at this
      injection this with this
      subst this
      exact ⟨hjl, h3⟩
    obtain ⟨v', w', r1, r2, r3, _, r5⟩ := run_append_own_at (P := P) w 0 t ty e i zv te.size te.bytes hu i1 i2 i3 i4 (by rw [z2]; simpa using z3) hts v n xs hown ad m c news (by simp [news]) (fun j u hj => (hnews j u hj).2)
      (fun u hu => by
        obtain ⟨j, hj, rfl⟩ := List.mem_iff_getElem.1 hu
        have := hnews j _ (List.getElem?_eq_getElem hj)
        obtain ⟨u', h3, h4⟩ := hget j this.1
        rw [this.2] at h3; injection h3 with h3; rw [h3]; exact h4) h1 h2 (Nat.zero_le _)
    refine ⟨v', w', r1, r3, r5, fun ν => ⟨xs ++ news, r2, fun i j hi hj => ?_⟩⟩
    have hxl := hown.1
    by_cases hin : i < n
    · obtain ⟨c', q1, q2, q3⟩ := hf i j hin hj
      rw [catl i j hin]
      have hlt : i * te.size + j < xs.length := (List.getElem?_eq_some_iff.1 q1).1
      exact ⟨c', by rw [List.getElem?_append_left hlt]; exact q1, q2, RepP.mono (hFold w' r3) (fun _ h => h) _ _ q3⟩
    · rw [catr i j (by omega)]
      obtain ⟨u, u1, u2, u3⟩ := hc (i - n) j (by omega) hj
      have hidx : i * te.size + j - xs.length = (i - n) * te.size + j := by
        rw [hxl, Nat.sub_mul]
        have : n * te.size ≤ i * te.size := Nat.mul_le_mul_right _ (by omega)
        omega
      have hge : xs.length ≤ i * te.size + j := by
        rw [hxl]
        have : n * te.size ≤ i * te.size := Nat.mul_le_mul_right _ (by omega)
        omega
      have hql : (i - n) * te.size + j < m * te.size := by
        calc (i - n) * te.size + j < (i - n) * te.size + te.size := by omega
          _ = (i - n + 1) * te.size := by rw [Nat.add_mul]; simp
          _ ≤ m * te.size := Nat.mul_le_mul_right _ (by omega)
      refine ⟨u, ?_, u2, RepP.mono (hFold w' r3) (fun _ h => h) _ _ u3⟩
      rw [List.getElem?_append_right hge, hidx]
      simp [news, hql, u1]

theorem base_own (v : Value) (h : ∀ a, v ≠ .pointer a) : baseOf v = v.ownBlock := by
  cases v with
  | pointer a => exact absurd rfl (h a)
  | slice a n c => cases a <;> rfl
  | _ => rfl

theorem sound_append (hT : TabOk P T) {ty nm : Nat} {x y : Operand} {c : Call} (ho : o.op = .call c) (hc : c.callee = .builtin .append) (hca : c.args.toList = [x, y]) (hct : c.argTypes.toList = [ty, ty])
    (hd : dstOk o.dst σ.N = true) (h : appendK T ty (ev σ x) (ev σ y) nm σ o.dst K) : Sound P o σ K := by
  have ha' : c.args = #[x, y] := by rw [← Array.toArray_toList (xs := c.args), hca]
  have ht' : c.argTypes = #[ty, ty] := by rw [← Array.toArray_toList (xs := c.argTypes), hct]
  have mx : x ∈ o.op.operands.toList := by simp [ho, Op.operands, Call.operands, hc, ha']
  have my : y ∈ o.op.operands.toList := by simp [ho, Op.operands, Call.operands, hc, ha']
  have run : ∀ (a : Act) (w w' : World) (v : Value), (Builtin.append_ #[ty, ty] o.type #[a.eval x, a.eval y]).run P w = .ok v w' → (execOp a.eval o).run P w = .ok (.value v) w' := by
    intro a w w' v hr
    simp [execOp, ho, resolve, hc, ha', ht', invoke, builtin, hr]
  unfold appendK at h
  split at h
  case h_2 => exact h.elim
  rename_i e hq hus
  obtain ⟨ti, hti, hk⟩ := tkOf_some hq (by simp)
  obtain ⟨d, hok, hund, hrun⟩ := run_und hT hti hk
  have hok : d = .slice e := hok
  subst hok
  split at h
  case h_2 => exact h.elim
  rename_i te hte
  split at h
  case h_1 => exact h.elim
  rename_i z zs hz
  have hzne : te.zero ≠ [] := by rw [hz]; simp
  split at h
  case h_2 => exact h.elim
  rename_i k2 m g ns hsrc
  split at h
  case h_2 => exact h.elim
  rename_i hkm
  have hkm : k2 = te.size ∨ m = 0 := by
    have hkm : orB (Nat.beq k2 te.size) (Nat.beq m 0) = true := hkm
    unfold orB at hkm
    split at hkm
    · rename_i h1; exact .inl (beq_yes h1)
    · exact .inr (beq_yes hkm)
  have srcAg : ∀ {η' : Nat → Option Blk}, (∀ b, b ∈ ns → η' b = σ.η b) → srcOf η' (ev σ y) = some (k2, m, g, ns) := by
    intro η' hag
    unfold srcOf at hsrc ⊢
    split at hsrc
    · exact hsrc
    · exact hsrc
    · exact hsrc
    · rename_i b hy
      have hb : b ∈ ns := by
        split at hsrc
        · injection hsrc with hsrc; simp only [Prod.mk.injEq] at hsrc; rw [← hsrc.2.2.2]; simp
        · cases hsrc
      simp only [hag b hb]
      exact hsrc
    · cases hsrc
  split at h
  · -- onto nil
    rename_i hx
    obtain ⟨⟨h1, h2⟩, hK⟩ := h
    refine sound_gen hK hd (fun b hb => by simp at hb; subst hb; exact hus) (fun b u hb => by simp at hb; simp [hb.1]) fun G σ' a w F ν ha hi => ?_
    have e1 := arg_rep ha hi mx
    have e2 := arg_rep ha hi my
    rw [hx] at e1
    have e1 : a.eval x = .slice none 0 0 := e1
    obtain ⟨A, c', hv, hcell⟩ := srcOf_rep hi.heap e2 (srcAg fun b hb => ha.η b hb)
    have hus' : σ'.us nm = false := ha.us nm (by simp)
    obtain ⟨v', w', r1, r2, r3, r4⟩ := append_step (P := P) (ty := o.type) (F := F) (f := g) (c := c') hT hund hte hzne (World.ownsRow_nil w 0 e te.size) (fun i j hi' => absurd hi' (by omega)) hkm hcell (by simpa using h1) (by simpa using h2)
      (fun w' hg b hb => hg.block b (hi.heap.fb b hb) (by simp [Value.ownBlock]))
    have hcat : catF 0 g g = g := by funext i j; unfold catF; rw [show Nat.blt i 0 = false from rfl]; rfl
    rw [Nat.zero_add, hcat] at r4
    refine ⟨v', w', F, upd ν nm (some v'), .inl (run a w w' v' (by rw [e1, hv]; exact r1)), ?_, upd_same _ _ _⟩
    refine hi.new (blk := .row e te.size m g) hus' r2.size (fun k hk => r2.block k hk (by simp [Value.ownBlock])) r2.os r2.tape r2.output (fun g' hg' => ?_) (r4 _)
    have hnp : ∀ q, v' ≠ .pointer q := by
      intro q hq
      obtain ⟨xs, ho', _⟩ := r4 ν
      rcases ho'.2 with ⟨h3, _⟩ | ⟨_, _, _, h3, _⟩ <;> rw [hq] at h3 <;> cases h3
    rw [base_own v' hnp] at hg'
    rcases r3 with h3 | h3
    · rw [h3] at hg'; simp [Value.ownBlock] at hg'
    · rw [h3] at hg'; injection hg' with hg'; omega
  · rename_i b hx
    split at h
    case h_2 => exact h.elim
    rename_i e' k n f hb
    split at h
    case h_2 => exact h.elim
    rename_i hcond
    have hcond : Nat.beq e' e = true ∧ Nat.beq k te.size = true ∧ notB (memB b ns) = true := by
      rw [Bool.and_eq_true, Bool.and_eq_true] at hcond; exact hcond
    have he := beq_yes hcond.1
    have hks := beq_yes hcond.2.1
    subst he hks
    have hbns : b ∉ ns := by
      intro hm
      have h3 := hcond.2.2
      rw [(memB_iff ns).2 hm] at h3
      cases h3
    obtain ⟨⟨h1, h2⟩, hK⟩ := h
    refine sound_gen hK hd (fun b' hb' => by simp at hb'; subst hb'; exact hus) (fun b' u hb' => by
      simp at hb'
      rcases hb' with ⟨h3, _⟩ | ⟨h3, _⟩
      · simp [h3]
      · simp [h3]) fun G σ' a w F ν ha hi => ?_
    have e1 := arg_rep ha hi mx
    have e2 := arg_rep ha hi my
    rw [hx] at e1
    have e1 : ν b = some (a.eval x) := e1
    have hb' : σ'.η b = _ := (ha.η b (by simp)).trans hb
    obtain ⟨A, c', hv, hcell⟩ := srcOf_rep hi.heap e2 (srcAg fun b hb => ha.η b (by simp [hb]))
    have hus' : σ'.us nm = false := ha.us nm (by simp)
    obtain ⟨u, hu, xs, hown, hf⟩ := hi.heap.rep b _ hb'
    rw [e1] at hu; injection hu with hu; subst hu
    have hnp0 : ∀ q, a.eval x ≠ .pointer q := by
      intro q hq
      rcases hown.2 with ⟨h3, _⟩ | ⟨_, _, _, h3, _⟩ <;> rw [hq] at h3 <;> cases h3
    have hbo := base_own _ hnp0
    obtain ⟨v', w', r1, r2, r3, r4⟩ := append_step (P := P) (ty := o.type) (F := F) (c := c') hT hund hte hzne hown hf hkm hcell h1 h2
      (fun w' hg b' hb'' => hg.block b' (hi.heap.fb b' hb'') fun e => hi.heap.out b _ _ b' hb' e1 (by rw [hbo]; exact e.symm) hb'')
    refine ⟨v', w', F, upd ν nm (some v'), .inl (run a w w' v' (by rw [hv]; exact r1)), ?_, upd_same _ _ _⟩
    have hnp : ∀ q, v' ≠ .pointer q := by
      intro q hq
      obtain ⟨xs, ho', _⟩ := r4 ν
      rcases ho'.2 with ⟨h3, _⟩ | ⟨_, _, _, h3, _⟩ <;> rw [hq] at h3 <;> cases h3
    refine hi.move hb' e1 hus' r2.size (fun k hk hne => r2.block k hk fun e => hne (by rw [hbo]; exact e.symm)) r2.os r2.tape r2.output (fun g' hg' => ?_) (r4 _)
    rw [base_own v' hnp] at hg'
    rcases r3 with h3 | h3
    · rw [h3] at hg'; exact .inl (by rw [hbo]; exact hg')
    · rw [h3] at hg'; injection hg' with hg'; exact .inr (by omega)
  · exact h.elim
end
end Go.Av
