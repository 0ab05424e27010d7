/- The reckoner is right: reads. -/
import Derived.Test.YtalpbdabeffnlaaGreatAvSound2
set_option linter.unusedVariables false
set_option linter.unusedSimpArgs false
namespace Go.Av
open Go
section
variable {P : Program} {T : Nat → Option TI} {o : Oper} {σ : St} {K : Eff → Prop}

theorem list_ext_get {xs : Array Value} : xs.toList.toArray = xs := by simp

theorem sound_binop (hT : TabOk P T) {op : BinOp} {ty yt : TypeId} {x y : Operand} (ho : o.op = .binOp op ty x y yt) (hd : dstOk o.dst σ.N = true)
    (h : binOpK T op ty (ev σ x) (ev σ y) o.dst K) : Sound P o σ K := by
  have mx : x ∈ o.op.operands.toList := by simp [ho, Op.operands]
  have my : y ∈ o.op.operands.toList := by simp [ho, Op.operands]
  unfold binOpK at h
  split at h
  · rename_i q hq
    split at h
    · rename_i k A hx
      split at h
      · rename_i k' B hy
        split at h
        · exact sound_shift ho hd hx hy h
        · split at h
          · rename_i hk
            rw [Bool.and_eq_true] at hk
            have := kEq_eq hk.1
            subst this
            exact sound_binint ho hd hx hy h
          · exact h.elim
      · exact h.elim
    · exact h.elim
  · rename_i e hq
    obtain ⟨ti, hti, hkind⟩ := tkOf_some hq (by simp)
    obtain ⟨d, hok, hund, hrun⟩ := run_und hT hti hkind
    have hok : d = .slice e := hok
    subst hok
    have hgd : ∀ op (A : Option Addr) (n c : Nat) (w : World), (eqGuard op ty x y (.slice A n c) (.slice none 0 0)).run P w = .ok () w := by
      intro op A n c w; unfold eqGuard; cases op <;> simp
    split at h
    · rename_i hy
      have ey : ∀ {e : Eff} {σ' : St} {G : Gh} {a : Act} {w : World} {F : Nat → Prop} {ν : Nat → Option Value}, AgreeOn o e σ σ' → FInv G σ' a w F ν → a.eval y = .slice none 0 0 := by
        intro e σ' G a w F ν ha hi
        have := arg_rep ha hi my
        rw [hy] at this; exact this
      split at h
      · rename_i k n f hx
        split at h
        · refine sound_value h hd fun G σ' a w F ν ha hi => ?_
          have e1 := arg_rep ha hi mx
          rw [hx] at e1
          obtain ⟨ad, c, hv, _⟩ := e1
          exact ⟨.bool false, run_binop ho hv (ey ha hi) (hgd _ _ _ _ _) (run_eqnil hund _ _ _ _).1, rfl⟩
        · refine sound_value h hd fun G σ' a w F ν ha hi => ?_
          have e1 := arg_rep ha hi mx
          rw [hx] at e1
          obtain ⟨ad, c, hv, _⟩ := e1
          exact ⟨.bool true, run_binop ho hv (ey ha hi) (hgd _ _ _ _ _) (run_eqnil hund _ _ _ _).2, rfl⟩
        · exact h.elim
      · rename_i hx
        split at h
        · refine sound_value h hd fun G σ' a w F ν ha hi => ?_
          have e1 := arg_rep ha hi mx
          rw [hx] at e1
          exact ⟨.bool true, run_binop ho e1 (ey ha hi) (hgd _ _ _ _ _) (run_eqnil hund _ _ _ _).1, rfl⟩
        · refine sound_value h hd fun G σ' a w F ν ha hi => ?_
          have e1 := arg_rep ha hi mx
          rw [hx] at e1
          exact ⟨.bool false, run_binop ho e1 (ey ha hi) (hgd _ _ _ _ _) (run_eqnil hund _ _ _ _).2, rfl⟩
        · exact h.elim
      · exact h.elim
    · exact h.elim
  · split at h
    · rename_i A hx
      split at h
      · rename_i B hy
        exact sound_binstr ho hd hx hy h
      · exact h.elim
    · exact h.elim
  · rename_i hq
    obtain ⟨ti, hti, hkind⟩ := tkOf_some hq (by simp)
    obtain ⟨d, hok, hund, hrun⟩ := run_und hT hti hkind
    have hok : d = .bool := hok
    subst hok
    split at h
    · rename_i A hx
      split at h
      · rename_i B hy
        have hb : ∀ {x : AV} {A : Bool} {w : World} {F : Nat → Prop} {ν : Nat → Option Value} {v : Value}, boolOf x = some A → RepV w F ν x v → v = .bool A := by
          intro x A w F ν v h1 h2
          unfold boolOf at h1
          split at h1
          · injection h1 with h1; subst h1; exact h2
          · injection h1 with h1; subst h1; exact h2
          · cases h1
        have hg : ∀ op (w : World), (eqGuard op ty x y (.bool A) (.bool B)).run P w = .ok () w := by
          intro op w; unfold eqGuard; split <;> simp
        split at h
        · refine sound_value h hd fun G σ' a w F ν ha hi => ⟨.bool (bEq A B), ?_, rfl⟩
          exact run_binop ho (hb hx (arg_rep ha hi mx)) (hb hy (arg_rep ha hi my)) (hg _ _) (run_eqbool hund _ _ _).1
        · refine sound_value h hd fun G σ' a w F ν ha hi => ⟨.bool (!bEq A B), ?_, rfl⟩
          exact run_binop ho (hb hx (arg_rep ha hi mx)) (hb hy (arg_rep ha hi my)) (hg _ _) (run_eqbool hund _ _ _).2
        · exact h.elim
      · exact h.elim
    · exact h.elim
  · rename_i fs hq
    obtain ⟨ti0, hti0, hkind⟩ := tkOf_some hq (by simp)
    split at h
    · rename_i n f hx
      split at h
      · rename_i m g hy
        split at h
        · rename_i ti hti
          have : ti0 = ti := by rw [hti] at hti0; injection hti0 with e; exact e.symm
          subst this
          split at h
          · rename_i r hr hcond
            rw [Bool.and_eq_true, Bool.and_eq_true] at hcond
            have h1 := beq_yes hcond.1
            have h2 := beq_yes hcond.2.1
            have h3 : 0 < n := Nat.le_of_ble_eq_true hcond.2.2
            have hne : ti0.flat ≠ [] := by intro e; rw [e] at h1; simp at h1; omega
            have key : ∀ (w : World) F (A B : Value), RepP w F (.agg n f) A → RepP w F (.agg m g) B →
                (eqGuard .eql ty x y A B).run P w = .ok () w ∧ (eqGuard .neq ty x y A B).run P w = .ok () w ∧
                (binOp .eql ty A B).run P w = .ok (.bool r) w ∧ (binOp .neq ty A B).run P w = .ok (.bool (!r)) w := by
              rintro w F A B ⟨cs, rfl, s1, c1⟩ ⟨ds, rfl, s2, c2⟩
              obtain ⟨q1, q2, q3⟩ := flat_cells w F ti0.flat f g cs.toList ds.toList r hr (by simp [s1, h1]) (by simp [s2, h2])
                (fun j hj => let ⟨u, a, _, b⟩ := c1 j (by omega); ⟨u, by simpa using a, b⟩) (fun j hj => let ⟨u, a, _, b⟩ := c2 j (by omega); ⟨u, by simpa using a, b⟩)
              have := hT.flat ty ti0 fs hti hkind hne w cs.toList ds.toList x y q1 q2
              simpa [q3] using this
            split at h
            · refine sound_value h hd fun G σ' a w F ν ha hi => ⟨.bool r, ?_, rfl⟩
              have e1 := arg_rep ha hi mx
              have e2 := arg_rep ha hi my
              rw [hx] at e1; rw [hy] at e2
              obtain ⟨k1, k2, k3, k4⟩ := key w F _ _ e1 e2
              exact run_binop ho rfl rfl k1 k3
            · refine sound_value h hd fun G σ' a w F ν ha hi => ⟨.bool (!r), ?_, rfl⟩
              have e1 := arg_rep ha hi mx
              have e2 := arg_rep ha hi my
              rw [hx] at e1; rw [hy] at e2
              obtain ⟨k1, k2, k3, k4⟩ := key w F _ _ e1 e2
              exact run_binop ho rfl rfl k2 k4
            · exact h.elim
          · exact h.elim
        · exact h.elim
      · exact h.elim
    · exact h.elim
  · exact h.elim

theorem fieldOf_run (hT : TabOk P T) {ty i off size : Nat} {agg : Bool} (h : fieldOf T ty i = some (off, size, agg)) :
    ∃ (fields : Array Field) (f : Field), (∀ w, (underlying ty).run P w = .ok (.struct fields) w) ∧ fields[i]? = some f ∧ f.offset = off ∧ (∀ w, (sizeOf f.type).run P w = .ok size w) ∧
      (∀ w, (isAgg f.type).run P w = .ok agg w) ∧ (agg = false → size = 1) := by
  unfold fieldOf at h
  split at h
  · rename_i fs hq
    obtain ⟨ti, hti, hk⟩ := tkOf_some hq (by simp)
    obtain ⟨d, hok, _, hrun⟩ := run_und hT hti hk
    obtain ⟨fields, rfl, _, hf⟩ := hok
    obtain ⟨f, a1, a2, a3, a4, a5⟩ := hf i off size agg h
    exact ⟨fields, f, hrun, a1, a2, a3, a4, a5⟩
  · cases h

theorem extract_get (cs : Array Value) (off size j : Nat) (h : off + size ≤ cs.size) (hj : j < size) : (cs.extract off (off + size))[j]? = cs[off + j]? := by
  rw [Array.getElem?_extract]
  rw [if_pos (by omega)]

theorem sound_field (hT : TabOk P T) {ty i : Nat} {x : Operand} (ho : o.op = .field ty x i) (hd : dstOk o.dst σ.N = true) (h : fieldK T ty (ev σ x) i o.dst K) : Sound P o σ K := by
  have mx : x ∈ o.op.operands.toList := by simp [ho, Op.operands]
  unfold fieldK at h
  split at h
  · rename_i off size agg hf
    obtain ⟨fields, f, r1, r2, r3, r4, r5, r6⟩ := fieldOf_run hT hf
    split at h
    · rename_i n g hx
      split at h
      · rename_i hle
        have hle : off + size ≤ n := Nat.le_of_ble_eq_true hle
        have h := forceK_elim h
        refine sound_value h hd fun G σ' a w F ν ha hi => ?_
        have e1 := arg_rep ha hi mx
        rw [hx] at e1
        obtain ⟨cs, hv, hs, hc⟩ := e1
        subst r3
        cases agg with
        | true =>
          refine ⟨.agg (cs.extract f.offset (f.offset + size)), by simp [execOp, ho, hv, Instr.field, r1, r2, part, r5, r4, asAgg], cs.extract f.offset (f.offset + size), rfl, by simp [upto_len]; omega, fun j hj => ?_⟩
          rw [upto_len] at hj
          obtain ⟨u, hu, ho', hr⟩ := hc (f.offset + j) (by omega)
          exact ⟨u, by rw [extract_get _ _ _ _ (by omega) hj]; exact hu, ho', by rw [at_upto _ _ _ _ _ hj, shift_at, Nat.zero_add]; exact hr⟩
        | false =>
          obtain ⟨u, hu, ho', hr⟩ := hc f.offset (by have := r6 rfl; omega)
          exact ⟨u, by simp [execOp, ho, hv, Instr.field, r1, r2, part, r5, asAgg, hu], by show RepP _ _ (shift f.offset g 0) u; rw [shift_at]; exact hr⟩
      · exact h.elim
    · exact h.elim
  · exact h.elim

theorem run_fieldAt (hT : TabOk P T) {ty i off size : Nat} {agg : Bool} (h : fieldOf T ty i = some (off, size, agg)) (h0 : size ≠ 0) (a : Addr) (w : World) :
    (Instr.fieldAt ty (.pointer (some a)) i).run P w = .ok (.pointer (some (a.add off))) w := by
  obtain ⟨fields, f, r1, r2, r3, r4, r5, r6⟩ := fieldOf_run hT h
  subst r3
  simp [Instr.fieldAt, r1, r2, Instr.sureAddr, fieldPlace, r4, h0]

theorem sound_fieldAddr (hT : TabOk P T) {ty i : Nat} {x : Operand} (ho : o.op = .fieldAddr ty x i) (hd : dstOk o.dst σ.N = true) (h : fieldAddrK T ty (ev σ x) i o.dst K) : Sound P o σ K := by
  have mx : x ∈ o.op.operands.toList := by simp [ho, Op.operands]
  unfold fieldAddrK at h
  split at h
  · rename_i off size agg hf
    split at h
    · exact h.elim
    · rename_i h0
      have h0 : size ≠ 0 := fun e => h0 e
      split at h
      · rename_i b j hx
        refine sound_value h hd fun G σ' a w F ν ha hi => ?_
        have e1 := arg_rep ha hi mx
        rw [hx] at e1
        obtain ⟨g, hν, hv⟩ := e1
        exact ⟨.pointer (some ((⟨g, j, none⟩ : Addr).add off)), by simp [execOp, ho, hv, run_fieldAt hT hf h0], g, hν, by rw [at_add]⟩
      · rename_i b k r j hx
        refine sound_value h hd fun G σ' a w F ν ha hi => ?_
        have e1 := arg_rep ha hi mx
        rw [hx] at e1
        obtain ⟨g, n, c, hν, hv⟩ := e1
        exact ⟨.pointer (some ((⟨g, r * k + j, none⟩ : Addr).add off)), by simp [execOp, ho, hv, run_fieldAt hT hf h0], g, n, c, hν, by rw [at_add, Nat.add_assoc]⟩
      · rename_i k g hx
        split at h
        · rename_i hle
          have hle : off + size ≤ k := Nat.le_of_ble_eq_true hle
          refine sound_value h hd fun G σ' a w F ν ha hi => ?_
          have e1 := arg_rep ha hi mx
          rw [hx] at e1
          obtain ⟨ad, hv, hF, hc⟩ := e1
          refine ⟨.pointer (some (ad.add off)), by simp [execOp, ho, hv, run_fieldAt hT hf h0], ad.add off, rfl, by rw [block_add]; exact hF, fun j hj => ?_⟩
          rw [add_add', shift_at]
          exact hc (off + j) (by omega)
        · exact h.elim
      · exact h.elim
  · exact h.elim

theorem sound_index (hT : TabOk P T) {ty : Nat} {x y : Operand} (ho : o.op = .index ty x y) (hd : dstOk o.dst σ.N = true) (h : indexK T ty (ev σ x) (ev σ y) o.dst K) : Sound P o σ K := by
  have mx : x ∈ o.op.operands.toList := by simp [ho, Op.operands]
  have my : y ∈ o.op.operands.toList := by simp [ho, Op.operands]
  unfold indexK at h
  split at h
  · rename_i hq
    obtain ⟨ti, hti, hk⟩ := tkOf_some hq (by simp)
    obtain ⟨d, hok, _, hrun⟩ := run_und hT hti hk
    have hok : d = .string := hok
    subst hok
    split at h
    · rename_i s hx
      split at h
      · rename_i k i hy
        obtain ⟨⟨h0, h1⟩, h⟩ := h
        refine sound_value h hd fun G σ' a w F ν ha hi => ?_
        have e1 := arg_rep ha hi mx
        have e2 := arg_rep ha hi my
        rw [hx] at e1; rw [hy] at e2
        change _ = _ at e1; change _ = _ at e2
        have hlt : i.toNat < s.size := by omega
        refine ⟨.int .u8 (s[i.toNat]'hlt).toNat, ?_, by show _ = _; unfold bt; rw [dif_pos hlt]⟩
        simp [execOp, ho, e1, e2, Instr.index, hrun, asIntOf, h0, hlt]
      · exact h.elim
    · exact h.elim
  · exact h.elim

theorem sound_len (hT : TabOk P T) {ty : Nat} {x : Operand} {c : Call} (ho : o.op = .call c) (hc : c.callee = .builtin .len) (ha : c.args.toList = [x]) (ht : c.argTypes.toList = [ty])
    (hd : dstOk o.dst σ.N = true) (h : lenK T ty (ev σ x) σ o.dst K) : Sound P o σ K := by
  have ha' : c.args = #[x] := by rw [← Array.toArray_toList (xs := c.args), ha]
  have ht' : c.argTypes = #[ty] := by rw [← Array.toArray_toList (xs := c.argTypes), ht]
  have mx : x ∈ o.op.operands.toList := by simp [ho, Op.operands, Call.operands, hc, ha']
  have run : ∀ (a : Act) (w : World) (n : Int) (d : TypeDesc) (v : Value), (∀ w, (underlying ty).run P w = .ok d w) → a.eval x = v →
      (match d, v with | .string, .string s => (s.size : Int) = n | .slice _, .slice _ m _ => (m : Int) = n | _, _ => False) → (execOp a.eval o).run P w = .ok (.value (.int .i64 n)) w := by
    intro a w n d v hu hv hm
    split at hm
    · subst hm
      simp [execOp, ho, resolve, hc, ha', ht', invoke, builtin, Builtin.len_, hu, hv, goInt]
    · subst hm
      simp [execOp, ho, resolve, hc, ha', ht', invoke, builtin, Builtin.len_, hu, hv, goInt]
    · exact hm.elim
  unfold lenK at h
  split at h
  · rename_i hq
    obtain ⟨ti, hti, hk⟩ := tkOf_some hq (by simp)
    obtain ⟨d, hok, _, hrun⟩ := run_und hT hti hk
    have hok : d = .string := hok
    subst hok
    split at h
    · rename_i s hx
      refine sound_value h hd fun G σ' a w F ν ha hi => ?_
      have e1 := arg_rep ha hi mx
      rw [hx] at e1
      exact ⟨_, run a w _ _ _ hrun e1 rfl, rfl⟩
    · exact h.elim
  · rename_i e hq
    obtain ⟨ti, hti, hk⟩ := tkOf_some hq (by simp)
    obtain ⟨d, hok, _, hrun⟩ := run_und hT hti hk
    have hok : d = .slice e := hok
    subst hok
    split at h
    · rename_i hx
      refine sound_value h hd fun G σ' a w F ν ha hi => ?_
      have e1 := arg_rep ha hi mx
      rw [hx] at e1
      exact ⟨_, run a w _ _ _ hrun e1 rfl, rfl⟩
    · rename_i k n f hx
      refine sound_value h hd fun G σ' a w F ν ha hi => ?_
      have e1 := arg_rep ha hi mx
      rw [hx] at e1
      obtain ⟨A, c, hv, _⟩ := e1
      exact ⟨_, run a w _ _ _ hrun hv rfl, rfl⟩
    · rename_i k n f hx
      refine sound_value h hd fun G σ' a w F ν ha hi => ?_
      have e1 := arg_rep ha hi mx
      rw [hx] at e1
      obtain ⟨ad, c, hv, _⟩ := e1
      exact ⟨_, run a w _ _ _ hrun hv rfl, rfl⟩
    · rename_i b hi0 hx
      refine sound_value h hd fun G σ' a w F ν ha hi => ?_
      have e1 := arg_rep ha hi mx
      rw [hx] at e1
      obtain ⟨g, n, c, _, _, hv⟩ := e1
      exact ⟨_, run a w _ _ _ hrun hv rfl, rfl⟩
    · rename_i b hx
      split at h
      · rename_i e' k n f hb
        refine sound_value h hd fun G σ' a w F ν ha hi => ?_
        have e1 := arg_rep ha hi mx
        rw [hx] at e1
        change ν b = some _ at e1
        obtain ⟨u, hu, xs, hown, _⟩ := hi.heap.rep b _ ((ha.η b (by simp)).trans hb)
        rw [hu] at e1
        injection e1 with e1
        subst e1
        rcases hown.2 with ⟨h1, h2⟩ | ⟨g, cap, cur, h1, _⟩
        · subst h2; exact ⟨_, run a w _ _ _ hrun h1 rfl, rfl⟩
        · exact ⟨_, run a w _ _ _ hrun h1 rfl, rfl⟩
      · exact h.elim
    · exact h.elim
  · exact h.elim

theorem sound_indexAddr (hT : TabOk P T) {ty : Nat} {x y : Operand} (ho : o.op = .indexAddr ty x y) (hd : dstOk o.dst σ.N = true) (h : indexAddrK T ty (ev σ x) (ev σ y) σ o.dst K) : Sound P o σ K := by
  have mx : x ∈ o.op.operands.toList := by simp [ho, Op.operands]
  have my : y ∈ o.op.operands.toList := by simp [ho, Op.operands]
  unfold indexAddrK at h
  split at h
  · rename_i kk i hy
    split at h
    · rename_i e hq
      obtain ⟨ti, hti, hk⟩ := tkOf_some hq (by simp)
      obtain ⟨d, hok, _, hrun⟩ := run_und hT hti hk
      have hok : d = .slice e := hok
      subst hok
      split at h
      · rename_i te hte
        have run : ∀ (a : Act) (w : World) (ad : Addr) (n c : Nat), a.eval x = .slice (some ad) n c → a.eval y = .int kk i → 0 ≤ i → i < n →
            (execOp a.eval o).run P w = .ok (.value (.pointer (some (ad.add (i.toNat * te.size))))) w := by
          intro a w ad n c e1 e2 h0 h1
          simp [execOp, ho, e1, e2, Instr.indexAt, asIntOf, hrun, h0, h1, hT.size e te hte]
        split at h
        · rename_i k n f hx
          split at h
          · rename_i hks
            have hks := beq_yes hks
            subst hks
            obtain ⟨⟨h0, h1⟩, h⟩ := h
            refine sound_value h hd fun G σ' a w F ν ha hi => ?_
            have e1 := arg_rep ha hi mx
            have e2 := arg_rep ha hi my
            rw [hx] at e1; rw [hy] at e2
            obtain ⟨A, c, hv, hnc, hml, _, hcell⟩ := e1
            obtain ⟨ad, rfl, hF, hcell⟩ := hcell (by omega)
            refine ⟨_, run a w ad n c hv e2 h0 h1, _, rfl, by rw [block_add]; exact hF, fun j hj => ?_⟩
            rw [add_add']
            exact hcell i.toNat j (by omega) hj
          · exact h.elim
        · rename_i b hx
          split at h
          · rename_i e' k n f hb
            split at h
            · rename_i hks
              have hks := beq_yes hks
              subst hks
              obtain ⟨⟨h0, h1⟩, h⟩ := h
              refine sound_value h hd fun G σ' a w F ν ha hi => ?_
              have e1 := arg_rep ha hi mx
              have e2 := arg_rep ha hi my
              rw [hx] at e1; rw [hy] at e2
              change ν b = some _ at e1
              obtain ⟨u, hu, xs, hown, _⟩ := hi.heap.rep b _ ((ha.η b (by simp)).trans hb)
              rw [hu] at e1
              injection e1 with e1
              subst e1
              rcases hown.2 with ⟨h1', h2⟩ | ⟨g, cap, cur, h1', _⟩
              · omega
              · exact ⟨_, run a w _ n cap h1' e2 h0 h1, g, n, cap, by rw [← h1']; exact hu, by rw [add_at]; simp⟩
            · exact h.elim
          · exact h.elim
        · exact h.elim
      · exact h.elim
    · exact h.elim
  · exact h.elim
end
end Go.Av
