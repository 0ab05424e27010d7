/- The reckoner is right: makes, cuts, conversions, closures. -/
import Derived.Test.YtoophkcicdbnfaaAvOps
set_option linter.unusedVariables false
set_option linter.unusedSimpArgs false
namespace Go.Av
open Go Go.RowKit
section
variable {P : Program} {T : Nat → Option TI} {o : Oper} {σ : St} {K : Eff → Prop}

theorem sound_makeSlice (hT : TabOk P T) {ty nm : Nat} {x y : Operand} (ho : o.op = .makeSlice ty x y) (hd : dstOk o.dst σ.N = true) (h : makeSliceK T ty (ev σ x) (ev σ y) nm σ o.dst K) : Sound P o σ K := by
  have mx : x ∈ o.op.operands.toList := by simp [ho, Op.operands]
  have my : y ∈ o.op.operands.toList := by simp [ho, Op.operands]
  unfold makeSliceK at h
  split at h
  case h_2 => exact h.elim
  rename_i e hq hus
  obtain ⟨ti, hti, hk⟩ := tkOf_some hq (by simp)
  obtain ⟨d, hok, hund, hrun⟩ := run_und hT hti hk
  have hok : d = .slice e := hok
  subst hok
  split at h
  case h_2 => exact h.elim
  rename_i te hte
  split at h
  case h_1 => exact h.elim
  rename_i z zs hz
  split at h
  case h_2 => exact h.elim
  rename_i kl l hx
  split at h
  case h_2 => exact h.elim
  rename_i kc c hy
  obtain ⟨⟨h1, h2, h3, h4⟩, hK⟩ := h
  refine sound_gen hK hd (fun b hb => by simp at hb; subst hb; exact hus) (fun b u hb => by simp at hb; simp [hb.1]) fun G σ' a w F ν ha hi => ?_
  obtain ⟨i, zv, i1, i2, i3, i4, z2, z3, z4, z5⟩ := zero_of hT hte (by rw [hz]; simp)
  have e1 := arg_rep ha hi mx
  have e2 := arg_rep ha hi my
  rw [hx] at e1; rw [hy] at e2
  have e1 : a.eval x = .int kl l := e1
  have e2 : a.eval y = .int kc c := e2
  have hus' : σ'.us nm = false := ha.us nm (by simp)
  have hzl : 0 < te.zero.length := by rw [hz]; simp
  have hts : 0 < te.size := by omega
  have hr := run_make (P := P) w ty e i zv hund i1 i2 kl kc l c h1 h2 (by rw [i4]; exact h3) h4
  rw [i3] at hr
  have hsz : (madeCells zv.cells (c.toNat * te.size)).size = c.toNat * te.size := size_madeCells _ _
  refine ⟨.slice (some ⟨w.heap.size, 0, none⟩) l.toNat c.toNat, w.alloc (.cells (madeCells zv.cells (c.toNat * te.size)) e), F, upd ν nm (some (.slice (some ⟨w.heap.size, 0, none⟩) l.toNat c.toNat)), .inl (by simp [execOp, ho, e1, e2, hr]), ?_, upd_same _ _ _⟩
  refine hi.new (blk := .row e te.size l.toNat _) hus' (by simp) (fun k hk => heap_alloc w _ k hk) rfl rfl rfl (fun g hg => by simp [baseOf] at hg; omega)
    ⟨(madeCells zv.cells (c.toNat * te.size)).toList.take (l.toNat * te.size), ⟨by
      rw [List.length_take, Array.length_toList, hsz]
      have : l.toNat * te.size ≤ c.toNat * te.size := Nat.mul_le_mul_right _ (by omega)
      omega, .inr ⟨w.heap.size, c.toNat, _, rfl, Nat.zero_le _, heap_alloc_new w _, by omega, by unfold maxLen; omega, hsz, rfl⟩⟩, fun p q hp hq' => ?_⟩
  have hlt : p * te.size + q < l.toNat * te.size := by
    calc p * te.size + q < p * te.size + te.size := by omega
      _ = (p + 1) * te.size := by rw [Nat.add_mul]; simp
      _ ≤ l.toNat * te.size := Nat.mul_le_mul_right _ hp
  have hlc : l.toNat * te.size ≤ c.toNat * te.size := Nat.mul_le_mul_right _ (by omega)
  obtain ⟨r1, r2⟩ := zero_rep w F te.zero z4
  have hmod : (p * te.size + q) % te.size = q := by rw [Nat.mul_comm, Nat.mul_add_mod, Nat.mod_eq_of_lt hq']
  have hzs : zv.cells.size = te.size := by rw [z2]; simpa using z3
  have hql : q < (te.zero.map cst).length := by simp; omega
  obtain ⟨u, u1, u2, u3⟩ := r2 q _ (get_at .any _ q hql)
  refine ⟨u, ?_, u2, ?_⟩
  · rw [List.getElem?_take, if_pos hlt, Array.getElem?_toList]
    have hlt2 : p * te.size + q < c.toNat * te.size := by omega
    have : (madeCells zv.cells (c.toNat * te.size))[p * te.size + q]? = some (zv.cells[(p * te.size + q) % zv.cells.size]!) := by
      simp [madeCells, hlt2]
    rw [this, hzs, hmod, getElem!_pos zv.cells q (by omega)]
    have hq2 : zv.cells[q]? = some u := by rw [z2]; exact u1
    rw [Array.getElem?_eq_getElem (by omega)] at hq2
    exact hq2
  · rw [← hz]
    exact RepP.mono (fun b hb => heap_alloc w _ b (hi.heap.fb b hb)) (fun _ h => h) _ u u3

theorem bndK_elim {x : Option AV} {dflt : Int} {Q : Int → Prop} (h : bndK x dflt Q) : (x = none ∧ Q dflt) ∨ ∃ k i, x = some (.p (.val (.int k i))) ∧ Q i := by
  unfold bndK at h
  split at h
  · exact .inl ⟨rfl, h⟩
  · exact .inr ⟨_, _, rfl, h⟩
  · exact h.elim

theorem sound_slice (hT : TabOk P T) {ty : Nat} {x : Operand} {lo hi' mxx : Option Operand} (ho : o.op = .slice ty x lo hi' mxx) (hd : dstOk o.dst σ.N = true)
    (h : sliceK T ty (ev σ x) (lo.map (ev σ)) (hi'.map (ev σ)) (mxx.map (ev σ)) σ o.dst K) : Sound P o σ K := by
  have mx : x ∈ o.op.operands.toList := by simp [ho, Op.operands]
  have mlo : ∀ y, lo = some y → y ∈ o.op.operands.toList := by rintro y rfl; simp [ho, Op.operands]
  have mhi : ∀ y, hi' = some y → y ∈ o.op.operands.toList := by rintro y rfl; simp [ho, Op.operands]
  unfold sliceK at h
  split at h
  · exact h.elim
  · rename_i hmx
    have hmx : mxx = none := by cases mxx with | none => rfl | some y => simp at hmx
    subst hmx
    -- a bound's value
    have bval : ∀ {b : Option Operand} {k : IntKind} {i : Int}, b.map (ev σ) = some (.p (.val (.int k i))) → (∀ y, b = some y → y ∈ o.op.operands.toList) → ∀ {e : Eff} {σ' : St} {G : Gh} {a : Act} {w : World} {F : Nat → Prop} {ν : Nat → Option Value},
        AgreeOn o e σ σ' → FInv G σ' a w F ν → b.map a.eval = some (.int k i) := by
      intro b k i hb hm e σ' G a w F ν ha hi
      cases b with
      | none => cases hb
      | some y =>
        simp at hb
        have := arg_rep ha hi (hm y rfl)
        rw [hb] at this
        have this : a.eval y = _ := this
        simp [this]
    have bnone : ∀ {b : Option Operand}, b.map (ev σ) = none → b = none := by intro b hb; cases b with | none => rfl | some y => cases hb
    -- the two bounds, of a string or of a slice
    have bounds : ∀ (isS : Bool) (n cap : Nat) (l uu : Int), n ≤ cap → 0 ≤ l → l ≤ uu → uu ≤ (n : Int) → (lo.map (ev σ) = none ∧ l = 0 ∨ ∃ k, lo.map (ev σ) = some (.p (.val (.int k l)))) → (hi'.map (ev σ) = none ∧ uu = n ∨ ∃ k, hi'.map (ev σ) = some (.p (.val (.int k uu)))) →
        ∀ {e : Eff} {σ' : St} {G : Gh} {a : Act} {w : World} {F : Nat → Prop} {ν : Nat → Option Value}, AgreeOn o e σ σ' → FInv G σ' a w F ν →
        (Instr.sliceBounds isS n cap (lo.map a.eval) (hi'.map a.eval) none).run P w = .ok (l.toNat, uu.toNat, cap) w := by
      intro isS n cap l uu hnc h0 h1 h2 hl hh e σ' G a w F ν ha hi
      have sb : ∀ (k : IntKind) (i : Int) (y : Nat) (code : BoundsCode), 0 ≤ i → i ≤ y → (Instr.sliceBound (.int k i) y code).run P w = .ok i.toNat w := by
        intro k i y code a1 a2
        simp [Instr.sliceBound, asIntOf, a1, a2]
      rcases hl with ⟨hl, rfl⟩ | ⟨kl, hl⟩
      · have := bnone hl
        subst this
        rcases hh with ⟨hh, rfl⟩ | ⟨kh, hh⟩
        · have := bnone hh
          subst this
          simp [Instr.sliceBounds]
        · rw [bval hh mhi ha hi]
          simp [Instr.sliceBounds, sb kh uu cap _ (by omega) (by omega)]
      · rw [bval hl mlo ha hi]
        rcases hh with ⟨hh, rfl⟩ | ⟨kh, hh⟩
        · have := bnone hh
          subst this
          simp [Instr.sliceBounds, sb kl l n _ h0 (by omega)]
        · rw [bval hh mhi ha hi]
          simp [Instr.sliceBounds, sb kh uu cap _ (by omega) (by omega), sb kl l uu.toNat _ h0 (by omega)]
    split at h
    · -- a string
      rename_i hq
      obtain ⟨ti, hti, hk⟩ := tkOf_some hq (by simp)
      obtain ⟨d, hok, hund, hrun⟩ := run_und hT hti hk
      have hok : d = .string := hok
      subst hok
      split at h
      · rename_i s hx
        have fin : ∀ l h : Int, (lo.map (ev σ) = none ∧ l = 0 ∨ ∃ k, lo.map (ev σ) = some (.p (.val (.int k l)))) → (hi'.map (ev σ) = none ∧ h = (s.size : Int) ∨ ∃ k, hi'.map (ev σ) = some (.p (.val (.int k h)))) →
            (0 ≤ l ∧ l ≤ h ∧ h ≤ (s.size : Int)) ∧ retK o.dst (.p (.val (.string (s.extract l.toNat h.toNat)))) K → Sound P o σ K := by
          rintro l h hl hh ⟨⟨h0, h1, h2⟩, hK⟩
          refine sound_value hK hd fun G σ' a w F ν ha hi => ?_
          have e1 := arg_rep ha hi mx
          rw [hx] at e1
          have e1 : a.eval x = .string s := e1
          have hb := bounds false s.size s.size l h (Nat.le_refl _) h0 h1 h2 hl (by simpa using hh) ha hi
          exact ⟨_, by simp [execOp, ho, e1, Instr.sliceAt, hrun, Instr.slice, hb], rfl⟩
        rcases bndK_elim h with ⟨hl, h⟩ | ⟨k, l, hl, h⟩
        · rcases bndK_elim h with ⟨hh, h⟩ | ⟨k2, h2, hh, h⟩
          · exact fin _ _ (.inl ⟨hl, rfl⟩) (.inl ⟨hh, rfl⟩) h
          · exact fin _ _ (.inl ⟨hl, rfl⟩) (.inr ⟨_, hh⟩) h
        · rcases bndK_elim h with ⟨hh, h⟩ | ⟨k2, h2, hh, h⟩
          · exact fin _ _ (.inr ⟨_, hl⟩) (.inl ⟨hh, rfl⟩) h
          · exact fin _ _ (.inr ⟨_, hl⟩) (.inr ⟨_, hh⟩) h
      · exact h.elim
    · -- a slice
      rename_i e hq
      obtain ⟨ti, hti, hk⟩ := tkOf_some hq (by simp)
      obtain ⟨d, hok, hund, hrun⟩ := run_und hT hti hk
      have hok : d = .slice e := hok
      subst hok
      split at h
      case h_2 => exact h.elim
      rename_i te hte
      split at h
      · rename_i hx
        have fin : ∀ l h : Int, (lo.map (ev σ) = none ∧ l = 0 ∨ ∃ k, lo.map (ev σ) = some (.p (.val (.int k l)))) → (hi'.map (ev σ) = none ∧ h = 0 ∨ ∃ k, hi'.map (ev σ) = some (.p (.val (.int k h)))) →
            (l = 0 ∧ h = 0) ∧ retK o.dst (.p (.val (.slice none 0 0))) K → Sound P o σ K := by
          rintro l h hl hh ⟨⟨rfl, rfl⟩, hK⟩
          refine sound_value hK hd fun G σ' a w F ν ha hi => ?_
          have e1 := arg_rep ha hi mx
          rw [hx] at e1
          have e1 : a.eval x = .slice none 0 0 := e1
          have hb := bounds true 0 0 0 0 (Nat.le_refl _) (Int.le_refl _) (Int.le_refl _) (by simp) hl (by simpa using hh) ha hi
          refine ⟨.slice none 0 0, by simp [execOp, ho, e1, Instr.sliceAt, hrun, Instr.slice, hb, hT.size e te hte], rfl⟩
        rcases bndK_elim h with ⟨hl, h⟩ | ⟨k, l, hl, h⟩
        · rcases bndK_elim h with ⟨hh, h⟩ | ⟨k2, h2, hh, h⟩
          · exact fin _ _ (.inl ⟨hl, rfl⟩) (.inl ⟨hh, rfl⟩) h
          · exact fin _ _ (.inl ⟨hl, rfl⟩) (.inr ⟨_, hh⟩) h
        · rcases bndK_elim h with ⟨hh, h⟩ | ⟨k2, h2, hh, h⟩
          · exact fin _ _ (.inr ⟨_, hl⟩) (.inl ⟨hh, rfl⟩) h
          · exact fin _ _ (.inr ⟨_, hl⟩) (.inr ⟨_, hh⟩) h
      · split at h
        case h_2 => exact h.elim
        rename_i k n f ns hv
        split at h
        case h_2 => exact h.elim
        rename_i hks
        have hks := beq_yes hks
        subst hks
        have fin : ∀ l h : Int, (lo.map (ev σ) = none ∧ l = 0 ∨ ∃ k, lo.map (ev σ) = some (.p (.val (.int k l)))) → (hi'.map (ev σ) = none ∧ h = (n : Int) ∨ ∃ k, hi'.map (ev σ) = some (.p (.val (.int k h)))) →
            (0 ≤ l ∧ l ≤ h ∧ h ≤ (n : Int)) ∧ K { dst := dstE o.dst (.p (.rs te.size (h.toNat - l.toNat) fun i j => f (l.toNat + i) j)), rd := ns, ups := frees ns } → Sound P o σ K := by
          rintro l h hl hh ⟨⟨h0, h1, h2⟩, hK⟩
          refine sound_gen hK hd (by simp) (fun b u hb => .inl (mem_frees ns hb)) fun G σ' a w F ν ha hi => ?_
          have e1 := arg_rep ha hi mx
          have hrs := viewOf_rep (F' := fun b => F b ∨ Base ν σ'.η ns b) hi.heap e1 (viewOf_agree hv fun b hb => ha.η b hb) (fun _ => .inl) (fun _ => .inr)
          obtain ⟨A, c, hval, hnc, hml, hAc, hcell⟩ := hrs
          have hb := bounds true n c l h hnc h0 h1 h2 hl hh ha hi
          refine ⟨.slice (if c = l.toNat then A else A.map (·.add (l.toNat * te.size))) (h.toNat - l.toNat) (c - l.toNat), w, _, ν, .inl ?_, hi.freeze ns, ?_⟩
          · simp [execOp, ho, hval, Instr.sliceAt, hrun, Instr.slice, hb, hT.size e te hte]
          · refine ⟨_, _, rfl, by omega, by omega, fun hn => ?_, fun hlt => ?_⟩
            · cases A with
              | none => have := hAc rfl; omega
              | some ad => split at hn <;> cases hn
            · obtain ⟨ad, rfl, hF, hcell⟩ := hcell (by omega)
              rw [if_neg (by omega)]
              refine ⟨ad.add (l.toNat * te.size), rfl, by rw [block_add]; exact hF, fun i j hi' hj => ?_⟩
              rw [add_add', ← Nat.add_assoc, ← Nat.add_mul]
              exact hcell (l.toNat + i) j (by omega) hj
        rcases bndK_elim h with ⟨hl, h⟩ | ⟨k, l, hl, h⟩
        · rcases bndK_elim h with ⟨hh, h⟩ | ⟨k2, h2, hh, h⟩
          · exact fin _ _ (.inl ⟨hl, rfl⟩) (.inl ⟨hh, rfl⟩) h
          · exact fin _ _ (.inl ⟨hl, rfl⟩) (.inr ⟨_, hh⟩) h
        · rcases bndK_elim h with ⟨hh, h⟩ | ⟨k2, h2, hh, h⟩
          · exact fin _ _ (.inr ⟨_, hl⟩) (.inl ⟨hh, rfl⟩) h
          · exact fin _ _ (.inr ⟨_, hl⟩) (.inr ⟨_, hh⟩) h
    · exact h.elim

theorem sound_convert (hT : TabOk P T) {src dst : Nat} {x : Operand} (ho : o.op = .convert src dst x) (hd : dstOk o.dst σ.N = true) (h : convertK T src dst (ev σ x) o.dst K) : Sound P o σ K := by
  have mx : x ∈ o.op.operands.toList := by simp [ho, Op.operands]
  unfold convertK at h
  split at h
  · rename_i k hq
    obtain ⟨ti, hti, hk⟩ := tkOf_some hq (by simp)
    obtain ⟨d, hok, hund, hrun⟩ := run_und hT hti hk
    have hok : d = .int k := hok
    subst hok
    split at h
    · rename_i k2 hq2
      obtain ⟨ti2, hti2, hk2⟩ := tkOf_some hq2 (by simp)
      obtain ⟨d2, hok2, hund2, hrun2⟩ := run_und hT hti2 hk2
      have hok2 : d2 = .int k2 := hok2
      subst hok2
      split at h
      · rename_i k3 n hx
        refine sound_value (h _ (wrapO_eq _ _).symm) hd fun G σ' a w F ν ha hi => ?_
        have e1 := arg_rep ha hi mx
        rw [hx] at e1
        have e1 : a.eval x = .int k3 n := e1
        exact ⟨.int k (k.wrap n), by simp [execOp, ho, e1, convert, hrun, hrun2, Conv.intToInt], rfl⟩
      · exact h.elim
    · exact h.elim
  · rename_i hq
    obtain ⟨ti, hti, hk⟩ := tkOf_some hq (by simp)
    obtain ⟨d, hok, hund, hrun⟩ := run_und hT hti hk
    have hok : d = .string := hok
    subst hok
    split at h
    · rename_i hq2
      obtain ⟨ti2, hti2, hk2⟩ := tkOf_some hq2 (by simp)
      obtain ⟨d2, hok2, hund2, hrun2⟩ := run_und hT hti2 hk2
      have hok2 : d2 = .string := hok2
      subst hok2
      split at h
      · rename_i s hx
        refine sound_value h hd fun G σ' a w F ν ha hi => ?_
        have e1 := arg_rep ha hi mx
        rw [hx] at e1
        have e1 : a.eval x = .string s := e1
        exact ⟨.string s, by simp [execOp, ho, e1, convert, hrun, hrun2], rfl⟩
      · exact h.elim
    · exact h.elim
  · exact h.elim

theorem sound_nilCheck {x : Operand} (ho : o.op = .nilCheck x) (hd : dstOk o.dst σ.N = true) (h : nilCheckK (ev σ x) o.dst K) : Sound P o σ K := by
  have mx : x ∈ o.op.operands.toList := by simp [ho, Op.operands]
  have fin : ∀ y, ev σ x = y → retK o.dst y K → (∀ w F ν v, RepV w F ν y v → ∃ ad, v = .pointer (some ad)) → Sound P o σ K := by
    intro y hx hK hp
    refine sound_value hK hd fun G σ' a w F ν ha hi => ?_
    have e1 := arg_rep ha hi mx
    rw [hx] at e1
    obtain ⟨ad, hv⟩ := hp w F ν _ e1
    exact ⟨a.eval x, by simp [execOp, ho, hv], e1⟩
  unfold nilCheckK at h
  split at h
  · rename_i b i hx
    exact fin _ hx h fun w F ν v ⟨g, _, hv⟩ => ⟨_, hv⟩
  · rename_i b k i j hx
    exact fin _ hx h fun w F ν v ⟨g, n, c, _, hv⟩ => ⟨_, hv⟩
  · rename_i k f hx
    exact fin _ hx h fun w F ν v ⟨ad, hv, _⟩ => ⟨_, hv⟩
  · exact h.elim

theorem ptsOf_spec : ∀ (l : List AV) (m : List Nat), ptsOf l = some m → m.length = l.length ∧ ∀ (j b : Nat), m[j]? = some b → l[j]? = some (.pt b 0)
  | [], m, h => by simp [ptsOf] at h; subst h; exact ⟨rfl, fun j b hj => by simp at hj⟩
  | .pt b 0 :: l, m, h => by
    simp only [ptsOf] at h
    split at h
    · rename_i m' hm
      injection h with h
      subst h
      obtain ⟨h1, h2⟩ := ptsOf_spec l m' hm
      refine ⟨by simp [h1], fun j c hj => ?_⟩
      cases j with
      | zero => simp at hj; simp [hj]
      | succ j => simpa using h2 j c (by simpa using hj)
    · cases h
  | .pt b (i + 1) :: l, m, h => by simp [ptsOf] at h
  | .p _ :: l, m, h => by simp [ptsOf] at h
  | .rpt .. :: l, m, h => by simp [ptsOf] at h
  | .sl _ :: l, m, h => by simp [ptsOf] at h
  | .fnc .. :: l, m, h => by simp [ptsOf] at h
  | .tup .. :: l, m, h => by simp [ptsOf] at h

theorem sound_makeFunc {fn : Fn} {first caps : Array Operand} (ho : o.op = .makeFunc fn first caps) (hd : dstOk o.dst σ.N = true) (h : makeFuncK fn first.toList caps.toList σ o.dst K) : Sound P o σ K := by
  have mc : ∀ x, x ∈ caps.toList → x ∈ o.op.operands.toList := by intro x hx; simp only [ho, Op.operands]; simp at hx ⊢; exact .inr hx
  unfold makeFuncK at h
  split at h
  · rename_i g hf
    have hf' : first = #[] := by rw [← Array.toArray_toList (xs := first), hf]
    split at h
    · rename_i hc
      have hc' : caps = #[] := by rw [← Array.toArray_toList (xs := caps), hc]
      refine sound_value h hd fun G σ' a w F ν ha hi => ⟨.func (.func g) #[] #[], by simp [execOp, ho, hf', hc', Instr.makeFunc], #[], rfl, rfl, fun j hj => absurd hj (by omega)⟩
    · split at h
      · rename_i l hl
        refine sound_value h hd fun G σ' a w F ν ha hi => ⟨.func (.func g) #[] (caps.map a.eval), by simp [execOp, ho, hf', Instr.makeFunc], caps.map a.eval, rfl, ?_, fun j b hj => ?_⟩
        · obtain ⟨h1, _⟩ := ptsOf_spec _ l hl
          simp at h1
          simp [h1]
        · obtain ⟨_, h2⟩ := ptsOf_spec _ l hl
          have := h2 j b hj
          rw [List.getElem?_map] at this
          cases hcj : caps.toList[j]? with
          | none => rw [hcj] at this; cases this
          | some x =>
            rw [hcj] at this
            simp at this
            have hr := arg_rep ha hi (mc x (List.mem_of_getElem? hcj))
            rw [this] at hr
            obtain ⟨g', q1, q2⟩ := hr
            refine ⟨g', ?_, q1⟩
            rw [Array.getElem?_map, ← Array.getElem?_toList, hcj]
            simp [q2]
      · exact h.elim
  · exact h.elim
end
end Go.Av
