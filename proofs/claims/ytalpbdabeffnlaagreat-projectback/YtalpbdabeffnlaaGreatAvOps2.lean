/- The reckoner is right: makes, cuts, conversions, closures. -/
import Derived.Test.YtalpbdabeffnlaaGreatAvOps
set_option linter.unusedVariables false
set_option linter.unusedSimpArgs false
namespace Go.Av
open Go Go.RowKit
section
variable {P : Program} {T : Nat → Option TI} {o : Oper} {σ : St} {K : Eff → Prop}

theorem sound_makeSlice (hT : TabOk P T) {ty nm : Nat} {x y : Operand} (ho : o.op = .makeSlice ty x y) (hd : dstOk o.dst σ.N = true) (h : makeSliceK T ty (ev σ x) (ev σ y) nm σ o.dst K) : Sound P o σ K := by
  have mx : x ∈ o.op.operands.toList := by simp [ho, Op.operands]
  have my : y ∈ o.op.operands.toList := by simp [ho, Op.operands]
  unfold makeSliceK at h
  split at h
  case h_2 => exact h.elim
  rename_i e hq hus
  obtain ⟨ti, hti, hk⟩ := tkOf_some hq (by simp)
  obtain ⟨d, hok, hund, hrun⟩ := run_und hT hti hk
  have hok : d = .slice e := hok
  subst hok
  split at h
  case h_2 => exact h.elim
  rename_i te hte
  split at h
  case h_1 => exact h.elim
  rename_i z zs hz
  split at h
  case h_2 => exact h.elim
  rename_i kl l hx
  split at h
  case h_2 => exact h.elim
  rename_i kc c hy
  obtain ⟨⟨h1, h2, h3, h4⟩, hK⟩ := h
  refine sound_gen hK hd (fun b hb => by simp at hb; subst hb; exact hus) (fun b u hb => by simp at hb; simp [hb.1]) fun G σ' a w F ν ha hi => ?_
  obtain ⟨i, zv, i1, i2, i3, i4, z2, z3, z4, z5⟩ := zero_of hT hte (by rw [hz]; simp)
  have e1 := arg_rep ha hi mx
  have e2 := arg_rep ha hi my
  rw [hx] at e1; rw [hy] at e2
  have e1 : a.eval x = .int kl l := e1
  have e2 : a.eval y = .int kc c := e2
  have hus' : σ'.us nm = false := ha.us nm (by simp)
  have hzl : 0 < te.zero.length := by rw [hz]; simp
  have hts : 0 < te.size := by omega
  have hr := run_make (P := P) w ty e i zv hund i1 i2 kl kc l c h1 h2 (by rw [i4]; exact h3) h4
  rw [i3] at hr
  have hsz : (madeCells zv.cells (c.toNat * te.size)).size = c.toNat * te.size := size_madeCells _ _
  refine ⟨.slice (some ⟨w.heap.size, 0, none⟩) l.toNat c.toNat, w.alloc (.cells (madeCells zv.cells (c.toNat * te.size)) e), F, upd ν nm (some (.slice (some ⟨w.heap.size, 0, none⟩) l.toNat c.toNat)), .inl (by simp [execOp, ho, e1, e2, hr]), ?_, upd_same _ _ _⟩
  refine hi.new (blk := .row e te.size l.toNat _) hus' (by simp) (fun k hk => heap_alloc w _ k hk) rfl rfl rfl (fun g hg => by simp [baseOf] at hg; omega)
    ⟨(madeCells zv.cells (c.toNat * te.size)).toList.take (l.toNat * te.size), ⟨by
      rw [List.length_take, Array.length_toList, hsz]
      have : l.toNat * te.size ≤ c.toNat * te.size := Nat.mul_le_mul_right _ (by omega)
      omega, .inr ⟨w.heap.size, c.toNat, _, rfl, Nat.zero_le _, heap_alloc_new w _, by omega, by unfold maxLen; omega, hsz, rfl⟩⟩, fun p q hp hq' => ?_⟩
  have hlt : p * te.size + q < l.toNat * te.size := by
    calc p * te.size + q < p * te.size + te.size := by omega
      _ = (p + 1) * te.size := by rw [Nat.add_mul]; simp
      _ ≤ l.toNat * te.size := Nat.mul_le_mul_right _ hp
  have hlc : l.toNat * te.size ≤ c.toNat * te.size := Nat.mul_le_mul_right _ (by omega)
  obtain ⟨r1, r2⟩ := zero_rep w F te.zero z4
  have hmod : (p * te.size + q) % te.size = q := by rw [Nat.mul_comm, Nat.mul_add_mod, Nat.mod_eq_of_lt hq']
  have hzs : zv.cells.size = te.size := by rw [z2]; simpa using z3
  have hql : q < (te.zero.map cst).length := by simp; omega
  obtain ⟨u, u1, u2, u3⟩ := r2 q _ (get_at .any _ q hql)
  refine ⟨u, ?_, u2, ?_⟩
  · rw [List.getElem?_take, if_pos hlt, Array.getElem?_toList]
    have hlt2 : p * te.size + q < c.toNat * te.size := by omega
    have : (madeCells zv.cells (c.toNat * te.size))[p * te.size + q]? = some (zv.cells[(p * te.size + q) % zv.cells.size]!) := by
      simp [madeCells, hlt2]
    rw [this, hzs, hmod, getElem!_pos zv.cells q (by omega)]
    have hq2 : zv.cells[q]? = some u := by rw [z2]; exact u1
    rw [Array.getElem?_eq_getElem (by omega)] at hq2
    exact hq2
  · rw [← hz]
    exact RepP.mono (fun b hb => heap_alloc w _ b (hi.heap.fb b hb)) (fun _ h => h) _ u u3

theorem bndK_elim {x : Option AV} {dflt : Int} {Q : Int → Prop} (h : bndK x dflt Q) : (x = none ∧ Q dflt) ∨ ∃ k i, x = some (.p (.val (.int k i))) ∧ Q i := by
  unfold bndK at h
  split at h
  · exact .inl ⟨rfl, h⟩
  · exact .inr ⟨_, _, rfl, h⟩
  · exact h.elim

theorem sound_slice (hT : TabOk P T) {ty : Nat} {x : Operand} {lo hi' mxx : Option Operand} (ho : o.op = .slice ty x lo hi' mxx) (hd : dstOk o.dst σ.N = true)
    (h : sliceK T ty (ev σ x) (lo.map (ev σ)) (hi'.map (ev σ)) (mxx.map (ev σ)) σ o.dst K) : Sound P o σ K := by
  have mx : x ∈ o.op.operands.toList := by simp [ho, Op.operands]
  have mlo : ∀ y, lo = some y → y ∈ o.op.operands.toList := by rintro y rfl; simp [ho, Op.operands]
  have mhi : ∀ y, hi' = some y → y ∈ o.op.operands.toList := by rintro y rfl; simp [ho, Op.operands]
  unfold sliceK at h
  split at h
  · exact h.elim
  · rename_i hmx
    have hmx : mxx = none := by cases mxx with | none => rfl | some y => simp at hmx
    subst hmx
    -- a bound's value
    have bval : ∀ {b : Option Operand} {k : IntKind} {i : Int}, b.map (ev σ) = some (.p (.val (.int k i))) → (∀ y, b = some y → y ∈ o.op.operands.toList) → ∀ {e : Eff} {σ' : St} {G : Gh} {a : Act} {w : World} {F : Nat → Prop} {ν : Nat → Option Value},
        AgreeOn o e σ σ' → FInv G σ' a w F ν → b.map a.eval = some (.int k i) := by
      intro b k i hb hm e σ' G a w F ν ha hi
      cases b with
      | none => cases hb
      | some y =>
        simp at hb
        have := arg_rep ha hi (hm y rfl)
        rw [hb] at this
        have this : a.eval y = _ := this
        simp [this]
    have bnone : ∀ {b : Option Operand}, b.map (ev σ) = none → b = none := by intro b hb; cases b with | none => rfl | some y => cases hb
    -- the two bounds, of a string or of a slice
    have bounds : ∀ (isS : Bool) (n cap : Nat) (l uu : Int), n ≤ cap → 0 ≤ l → l ≤ uu → uu ≤ (n : Int) → (lo.map (ev σ) = none ∧ l = 0 ∨ ∃ k, lo.map (ev σ) = some (.p (.val (.int k l)))) → (hi'.map (ev σ) = none ∧ uu = n ∨ ∃ k, hi'.map (ev σ) = some (.p (.val (.int k uu)))) →
        ∀ {e : Eff} {σ' : St} {G : Gh} {a : Act} {w : World} {F : Nat → Prop} {ν : Nat → Option Value}, AgreeOn o e σ σ' → FInv G σ' a w F ν →
        (Instr.sliceBounds isS n cap (lo.map a.eval) (hi'.map a.eval) none).run P w = .ok (l.toNat, uu.toNat, cap) w := by
      intro isS n cap l uu hnc h0 h1 h2 hl hh e σ' G a w F ν ha hi
      have sb : ∀ (k : IntKind) (i : Int) (y : Nat) (code : BoundsCode), 0 ≤ i → i ≤ y → (Instr.sliceBound (.int k i) y code).run P w = .ok i.toNat w := by
        intro k i y code a1 a2
        simp [Instr.sliceBound, asIntOf, a1, a2]
      rcases hl with ⟨hl, rfl⟩ | ⟨kl, hl⟩
      · have := bnone hl
        subst this
        rcases hh with ⟨hh, rfl⟩ | ⟨kh, hh⟩
        · have := bnone hh
          subst this
          simp [Instr.sliceBounds]
        · rw [bval hh mhi ha hi]
          simp [Instr.sliceBounds, sb kh uu cap _ (by omega) (by omega)]
      · rw [bval hl mlo ha hi]
        rcases hh with ⟨hh, rfl⟩ | ⟨kh, hh⟩
        · have := bnone hh
          subst this
          simp [Instr.sliceBounds, sb kl l n _ h0 (by omega)]
        · rw [bval hh mhi ha hi]
          simp [Instr.sliceBounds, sb kh uu cap _ (by omega) (by omega), sb kl l uu.toNat _ h0 (by omega)]
    split at h
    · -- a string
      rename_i hq
      obtain ⟨ti, hti, hk⟩ := tkOf_some hq (by simp)
      obtain ⟨d, hok, hund, hrun⟩ := run_und hT hti hk
      have hok : d = .string := hok
      subst hok
      split at h
      · rename_i s hx
        have fin : ∀ l h : Int, (lo.map (ev σ) = none ∧ l = 0 ∨ ∃ k, lo.map (ev σ) = some (.p (.val (.int k l)))) → (hi'.map (ev σ) = none ∧ h = (s.size : Int) ∨ ∃ k, hi'.map (ev σ) = some (.p (.val (.int k h)))) →
            (0 ≤ l ∧ l ≤ h ∧ h ≤ (s.size : Int)) ∧ retK o.dst (.p (.val (.string (s.extract l.toNat h.toNat)))) K → Sound P o σ K := by
          rintro l h hl hh ⟨⟨h0, h1, h2⟩, hK⟩
          refine sound_value hK hd fun G σ' a w F ν ha hi => ?_
          have e1 := arg_rep ha hi mx
          rw [hx] at e1
          have e1 : a.eval x = .string s := e1
          have hb := bounds false s.size s.size l h (Nat.le_refl _) h0 h1 h2 hl (by simpa using hh) ha hi
          exact ⟨_, by simp [execOp, ho, e1, Instr.sliceAt, hrun, Instr.slice, hb], rfl⟩
        rcases bndK_elim h with ⟨hl, h⟩ | ⟨k, l, hl, h⟩
        · rcases bndK_elim h with ⟨hh, h⟩ | ⟨k2, h2, hh, h⟩
          · exact fin _ _ (.inl ⟨hl, rfl⟩) (.inl ⟨hh, rfl⟩) h
          · exact fin _ _ (.inl ⟨hl, rfl⟩) (.inr ⟨_, hh⟩) h
        · rcases bndK_elim h with ⟨hh, h⟩ | ⟨k2, h2, hh, h⟩
          · exact fin _ _ (.inr ⟨_, hl⟩) (.inl ⟨hh, rfl⟩) h
          · exact fin _ _ (.inr ⟨_, hl⟩) (.inr ⟨_, hh⟩) h
      · exact h.elim
    · -- a slice
      rename_i e hq
      obtain ⟨ti, hti, hk⟩ := tkOf_some hq (by simp)
      obtain ⟨d, hok, hund, hrun⟩ := run_und hT hti hk
      have hok : d = .slice e := hok
      subst hok
      split at h
      case h_2 => exact h.elim
      rename_i te hte
      split at h
      · rename_i hx
        have fin : ∀ l h : Int, (lo.map (ev σ) = none ∧ l = 0 ∨ ∃ k, lo.map (ev σ) = some (.p (.val (.int k l)))) → (hi'.map (ev σ) = none ∧ h = 0 ∨ ∃ k, hi'.map (ev σ) = some (.p (.val (.int k h)))) →
            (l = 0 ∧ h = 0) ∧ retK o.dst (.p (.val (.slice none 0 0))) K → Sound P o σ K := by
          rintro l h hl hh ⟨⟨rfl, rfl⟩, hK⟩
          refine sound_value hK hd fun G σ' a w F ν ha hi => ?_
          have e1 := arg_rep ha hi mx
          rw [hx] at e1
          have e1 : a.eval x = .slice none 0 0 := e1
          have hb := bounds true 0 0 0 0 (Nat.le_refl _) (Int.le_refl _) (Int.le_refl _) (by simp) hl (by simpa using hh) ha hi
          refine ⟨.slice none 0 0, by simp [execOp, ho, e1, Instr.sliceAt, hrun, Instr.slice, hb, hT.size e te hte], rfl⟩
        rcases bndK_elim h with ⟨hl, h⟩ | ⟨k, l, hl, h⟩
        · rcases bndK_elim h with ⟨hh, h⟩ | ⟨k2, h2, hh, h⟩
          · exact fin _ _ (.inl ⟨hl, rfl⟩) (.inl ⟨hh, rfl⟩) h
          · exact fin _ _ (.inl ⟨hl, rfl⟩) (.inr ⟨_, hh⟩) h
        · rcases bndK_elim h with ⟨hh, h⟩ | ⟨k2, h2, hh, h⟩
          · exact fin _ _ (.inr ⟨_, hl⟩) (.inl ⟨hh, rfl⟩) h
          · exact fin _ _ (.inr ⟨_, hl⟩) (.inr ⟨_, hh⟩) h
      · split at h
        case h_2 => exact h.elim
        rename_i k n f ns hv
        split at h
        case h_2 => exact h.elim
        rename_i hks
        have hks := beq_yes hks
        subst hks
        have fin : ∀ l h : Int, (lo.map (ev σ) = none ∧ l = 0 ∨ ∃ k, lo.map (ev σ) = some (.p (.val (.int k l)))) → (hi'.map (ev σ) = none ∧ h = (n : Int) ∨ ∃ k, hi'.map (ev σ) = some (.p (.val (.int k h)))) →
            (0 ≤ l ∧ l ≤ h ∧ h ≤ (n : Int)) ∧ K { dst := dstE o.dst (.p (.rs te.size (h.toNat - l.toNat) fun i j => f (l.toNat + i) j)), rd := ns, ups := frees ns } → Sound P o σ K := by
          rintro l h hl hh ⟨⟨h0, h1, h2⟩, hK⟩
          refine sound_gen hK hd (by simp) (fun b u hb => .inl (mem_frees ns hb)) fun G σ' a w F ν ha hi => ?_
          have e1 := arg_rep ha hi mx
          have hrs := viewOf_rep (F' := fun b => F b ∨ Base ν σ'.η ns b) hi.heap e1 (viewOf_agree hv fun b hb => ha.η b hb) (fun _ => .inl) (fun _ => .inr)
          obtain ⟨A, c, hval, hnc, hml, hAc, hcell⟩ := hrs
          have hb := bounds true n c l h hnc h0 h1 h2 hl hh ha hi
          refine ⟨.slice (if c = l.toNat then A else A.map (·.add (l.toNat * te.size))) (h.toNat - l.toNat) (c - l.toNat), w, _, ν, .inl ?_, hi.freeze ns, ?_⟩
          · simp [execOp, ho, hval, Instr.sliceAt, hrun, Instr.slice, hb, hT.size e te hte]
          · refine ⟨_, _, rfl, by omega, by omega, fun hn => ?_, fun hlt => ?_⟩
            · cases A with
              | none => have := hAc rfl; omega
              | some ad => split at hn <;> cases hn
            · obtain ⟨ad, rfl, hF, hcell⟩ := hcell (by omega)
              rw [if_neg (by omega)]
              refine ⟨ad.add (l.toNat * te.size), rfl, by rw [block_add]; exact hF, fun i j hi' hj => ?_⟩
              rw [add_add', ← Nat.add_assoc, ← Nat.add_mul]
              exact hcell (l.toNat + i) j (by omega) hj
        rcases bndK_elim h with ⟨hl, h⟩ | ⟨k, l, hl, h⟩
        · rcases bndK_elim h with ⟨hh, h⟩ | ⟨k2, h2, hh, h⟩
          · exact fin _ _ (.inl ⟨hl, rfl⟩) (.inl ⟨hh, rfl⟩) h
          · exact fin _ _ (.inl ⟨hl, rfl⟩) (.inr ⟨_, hh⟩) h
        · rcases bndK_elim h with ⟨hh, h⟩ | ⟨k2, h2, hh, h⟩
          · exact fin _ _ (.inr ⟨_, hl⟩) (.inl ⟨hh, rfl⟩) h
          · exact fin _ _ (.inr ⟨_, hl⟩) (.inr ⟨_, hh⟩) h
    · exact h.elim

theorem sound_convert (hT : TabOk P T) {src dst : Nat} {x : Operand} (ho : o.op = .convert src dst x) (hd : dstOk o.dst σ.N = true) (h : convertK T src dst (ev σ x) o.dst K) : Sound P o σ K := by
  have mx : x ∈ o.op.operands.toList := by simp [ho, Op.operands]
  unfold convertK at h
  split at h
  · rename_i k hq
    obtain ⟨ti, hti, hk⟩ := tkOf_some hq (by simp)
    obtain ⟨d, hok, hund, hrun⟩ := run_und hT hti hk
    have hok : d = .int k := hok
    subst hok
    split at h
    · rename_i k2 hq2
      obtain ⟨ti2, hti2, hk2⟩ := tkOf_some hq2 (by simp)
      obtain ⟨d2, hok2, hund2, hrun2⟩ := run_und hT hti2 hk2
      have hok2 : d2 = .int k2 := hok2
      subst hok2
      split at h
      · rename_i k3 n hx
        refine sound_value (h _ (wrapO_eq _ _).symm) hd fun G σ' a w F ν ha hi => ?_
        have e1 := arg_rep ha hi mx
        rw [hx] at e1
        have e1 : a.eval x = .int k3 n := e1
        exact ⟨.int k (k.wrap n), by simp [execOp, ho, e1, convert, hrun, hrun2, Conv.intToInt], rfl⟩
      · exact h.elim
    · exact h.elim
  · rename_i hq
    obtain ⟨ti, hti, hk⟩ := tkOf_some hq (by simp)
    obtain ⟨d, hok, hund, hrun⟩ := run_und hT hti hk
    have hok : d = .string := hok
    subst hok
    split at h
    · rename_i hq2
      obtain ⟨ti2, hti2, hk2⟩ := tkOf_some hq2 (by simp)
      obtain ⟨d2, hok2, hund2, hrun2⟩ := run_und hT hti2 hk2
      have hok2 : d2 = .string := hok2
      subst hok2
      split at h
      · rename_i s hx
        refine sound_value h hd fun G σ' a w F ν ha hi => ?_
        have e1 := arg_rep ha hi mx
        rw [hx] at e1
        have e1 : a.eval x = .string s := e1
        exact ⟨.string s, by simp [execOp, ho, e1, convert, hrun, hrun2], rfl⟩
      · exact h.elim
    · exact h.elim
  · exact h.elim

theorem sound_nilCheck {x : Operand} (ho : o.op = .nilCheck x) (hd : dstOk o.dst σ.N = true) (h : nilCheckK (ev σ x) o.dst K) : Sound P o σ K := by
  have mx : x ∈ o.op.operands.toList := by simp [ho, Op.operands]
  have fin : ∀ y, ev σ x = y → retK o.dst y K → (∀ w F ν v, RepV w F ν y v → ∃ ad, v = .pointer (some ad)) → Sound P o σ K := by
    intro y hx hK hp
    refine sound_value hK hd fun G σ' a w F ν ha hi => ?_
    have e1 := arg_rep ha hi mx
    rw [hx] at e1
    obtain ⟨ad, hv⟩ := hp w F ν _ e1
    exact ⟨a.eval x, by simp [execOp, ho, hv], e1⟩
  unfold nilCheckK at h
  split at h
  · rename_i b i hx
    exact fin _ hx h fun w F ν v ⟨g, _, hv⟩ => ⟨_, hv⟩
  · rename_i b k i j hx
    exact fin _ hx h fun w F ν v ⟨g, n, c, _, hv⟩ => ⟨_, hv⟩
  · rename_i k f hx
    exact fin _ hx h fun w F ν v ⟨ad, hv, _⟩ => ⟨_, hv⟩
  · exact h.elim

theorem ptsOf_spec : ∀ (l : List AV) (m : List Nat), ptsOf l = some m → m.length = l.length ∧ ∀ (j b : Nat), m[j]? = some b → l[j]? = some (.pt b 0)
  | [], m, h => by simp [ptsOf] at h; subst h; exact ⟨rfl, fun j b hj => by simp at hj⟩
  | .pt b 0 :: l, m, h => by
    simp only [ptsOf] at h
    split at h
    · rename_i m' hm
      injection h with h
      subst h
      obtain ⟨h1, h2⟩ := ptsOf_spec l m' hm
      refine ⟨by simp [h1], fun j c hj => ?_⟩
      cases j with
      | zero => simp at hj; simp [hj]
      | succ j => simpa using h2 j c (by simpa using hj)
    · cases h
  | .pt b (i + 1) :: l, m, h => by simp [ptsOf] at h
  | .p _ :: l, m, h => by simp [ptsOf] at h
  | .rpt .. :: l, m, h => by simp [ptsOf] at h
  | .ssl .. :: l, m, h => by simp [ptsOf] at h
  | .psl .. :: l, m, h => by simp [ptsOf] at h
  | .sl _ :: l, m, h => by simp [ptsOf] at h
  | .fnc .. :: l, m, h => by simp [ptsOf] at h
  | .tup .. :: l, m, h => by simp [ptsOf] at h
  | .ag .. :: l, m, h => by simp [ptsOf] at h

theorem sound_makeFunc {fn : Fn} {first caps : Array Operand} (ho : o.op = .makeFunc fn first caps) (hd : dstOk o.dst σ.N = true) (h : makeFuncK fn first.toList caps.toList σ o.dst K) : Sound P o σ K := by
  have mc : ∀ x, x ∈ caps.toList → x ∈ o.op.operands.toList := by intro x hx; simp only [ho, Op.operands]; simp at hx ⊢; exact .inr hx
  unfold makeFuncK at h
  split at h
  · rename_i g hf
    have hf' : first = #[] := by rw [← Array.toArray_toList (xs := first), hf]
    split at h
    · rename_i hc
      have hc' : caps = #[] := by rw [← Array.toArray_toList (xs := caps), hc]
      refine sound_value h hd fun G σ' a w F ν ha hi => ⟨.func (.func g) #[] #[], by simp [execOp, ho, hf', hc', Instr.makeFunc], #[], rfl, rfl, fun j hj => absurd hj (by omega)⟩
    · split at h
      · rename_i l hl
        refine sound_value h hd fun G σ' a w F ν ha hi => ⟨.func (.func g) #[] (caps.map a.eval), by simp [execOp, ho, hf', Instr.makeFunc], caps.map a.eval, rfl, ?_, fun j b hj => ?_⟩
        · obtain ⟨h1, _⟩ := ptsOf_spec _ l hl
          simp at h1
          simp [h1]
        · obtain ⟨_, h2⟩ := ptsOf_spec _ l hl
          have := h2 j b hj
          rw [List.getElem?_map] at this
          cases hcj : caps.toList[j]? with
          | none => rw [hcj] at this; cases this
          | some x =>
            rw [hcj] at this
            simp at this
            have hr := arg_rep ha hi (mc x (List.mem_of_getElem? hcj))
            rw [this] at hr
            obtain ⟨g', q1, q2⟩ := hr
            refine ⟨g', ?_, q1⟩
            rw [Array.getElem?_map, ← Array.getElem?_toList, hcj]
            simp [q2]
      · exact h.elim
  · exact h.elim

theorem sound_storeRow (hT : TabOk P T) {ty : Nat} {x y : Operand} (ho : o.op = .store ty x y) (hd : dstOk o.dst σ.N = true) {b q i j : Nat} (hx : ev σ x = .rpt b q i j) (h : storeRowK T ty b q i j (ev σ y) σ o.dst K) : Sound P o σ K := by
  have mx : x ∈ o.op.operands.toList := by simp [ho, Op.operands]
  have my : y ∈ o.op.operands.toList := by simp [ho, Op.operands]
  unfold storeRowK at h
  split at h
  · rename_i ti hti
    split at h
    · rename_i e k n f hb
      split at h
      · rename_i v hy
        split at h
        · rename_i ys hys
          split at h
          · rename_i hcond
            obtain ⟨hin, hK⟩ := h
            simp only [Bool.and_eq_true] at hcond
            have hsz := beq_yes hcond.1
            have hle : j + ys.length ≤ k := Nat.le_of_ble_eq_true hcond.2.1
            have hqk := beq_yes hcond.2.2
            subst hqk
            refine sound_gen hK hd (by simp) (fun b' u hb' => by simp at hb'; simp [hb'.1]) fun G σ' a w F ν ha hi => ?_
            have e1 := arg_rep ha hi mx
            rw [hx] at e1
            obtain ⟨g, n', c, hν, hv⟩ := e1
            have hb' : σ'.η b = _ := (ha.η b (by simp)).trans hb
            obtain ⟨u, hu, xs, hown, hcc⟩ := hi.heap.rep b _ hb'
            rw [hν] at hu
            injection hu with hu
            subst hu
            obtain ⟨hxl, hown⟩ := hown
            rcases hown with ⟨hnil, _⟩ | ⟨g', cap, cur, hvv, _, hg', hnc, hcm, hcs, htk⟩
            · cases hnil
            injection hvv with hA hB hC
            injection hA with hA
            injection hA with hA
            subst hA
            have hy' := arg_rep ha hi my
            rw [hy] at hy'
            have hcr := cellsPV_rep hys hy'
            obtain ⟨c1, c2⟩ := hcr
            have hrow : i * q + q ≤ n * q := by
              have := Nat.mul_le_mul_right q (show i + 1 ≤ n from hin)
              rw [Nat.succ_mul] at this; exact this
            have hcap : n * q ≤ cap * q := Nat.mul_le_mul_right q hnc
            have hl : (a.eval y).cells.toList.length = ys.length := by simpa using c1
            have hone : ∀ v ∈ (a.eval y).cells.toList, v.oneCell' = true := by
              intro v hv'
              obtain ⟨r, hr, rfl⟩ := List.mem_iff_getElem.1 hv'
              have hr' : r < ys.length := by omega
              obtain ⟨c, a1, a2, _⟩ := c2 r _ (List.getElem?_eq_getElem hr')
              have : c = (a.eval y).cells.toList[r] := by
                have h2 := List.getElem?_eq_getElem hr
                rw [← Array.getElem?_toList, h2] at a1
                injection a1 with a1; exact a1.symm
              rw [← this]; exact a2
            obtain ⟨w', cs', r1, r2, r3, r4, r5, r6, r7, r8, r9, r10⟩ := run_storeCells P g (i * q + j) e (a.eval y).cells.toList 0 w cur hg' (by rw [hl, hcs]; omega) hone
            refine ⟨undef, w', F, ν, .inr ⟨?_, rfl⟩, ?_, trivial⟩
            · have hs2 : (a.eval y).cells.size = ti.size := by rw [← hsz]; exact c1
              simp [execOp, ho, hv, Instr.storeAt, Instr.sureAddr, storeVar, hT.size ty ti hti, hs2, r1]
            · have hF : ∀ k, F k → w'.heap[k]? = w.heap[k]? := fun k hk => r5 k fun e => hi.heap.out b _ _ g hb' hν rfl (e ▸ hk)
              refine hi.write (blk' := .row e q n (setF i j ys f)) hb' hν rfl r4 r5 r6 r7 r8 ?_
              have hxs : ∀ t, t < n * q → xs[t]? = cur[t]? := by
                intro t ht
                rw [← htk, List.getElem?_take, if_pos ht, Array.getElem?_toList]
              refine ⟨cs'.toList.take (n * q), ⟨by rw [List.length_take, Array.length_toList, r3, hcs]; omega, .inr ⟨g, cap, cs', by rw [hB, hC], Nat.zero_le _, r2, hnc, hcm, by rw [r3]; exact hcs, rfl⟩⟩, fun s t hs ht => ?_⟩
              have hst : s * q + t < n * q := by
                have := Nat.mul_le_mul_right q (show s + 1 ≤ n from hs)
                rw [Nat.succ_mul] at this; omega
              rw [List.getElem?_take, if_pos hst, Array.getElem?_toList]
              by_cases hin2 : s = i ∧ j ≤ t ∧ t < j + ys.length
              · obtain ⟨rfl, h1, h2⟩ := hin2
                have hset : setF s j ys f s t = at_ .any ys (t - j) := by
                  unfold setF
                  rw [show (Nat.beq s s && (Nat.ble j t && Nat.blt t (j + ys.length))) = true by
                    simp only [Bool.and_eq_true]; exact ⟨Nat.beq_refl s, Nat.ble_eq_true_of_le h1, Nat.ble_eq_true_of_le h2⟩]
                have h3 : t - j < ys.length := by omega
                obtain ⟨c, q1, q2, q3⟩ := c2 (t - j) _ (List.getElem?_eq_getElem h3)
                refine ⟨c, ?_, q2, ?_⟩
                · have := r10 (t - j) (by omega)
                  rw [show s * q + j + 0 + (t - j) = s * q + t from by omega] at this
                  rw [this, Array.getElem?_toList]; exact q1
                · rw [hset, at_get _ _ _ _ (List.getElem?_eq_getElem h3)]
                  exact RepP.mono hF (fun _ => id) _ _ q3
              · have hset : setF i j ys f s t = f s t := by
                  unfold setF
                  have : (Nat.beq s i && (Nat.ble j t && Nat.blt t (j + ys.length))) = false := by
                    rw [Bool.eq_false_iff]
                    intro hh
                    simp only [Bool.and_eq_true] at hh
                    exact hin2 ⟨beq_yes hh.1, Nat.le_of_ble_eq_true hh.2.1, Nat.le_of_ble_eq_true hh.2.2⟩
                  rw [this]
                obtain ⟨c, q1, q2, q3⟩ := hcc s t hs ht
                refine ⟨c, ?_, q2, by rw [hset]; exact RepP.mono hF (fun _ => id) _ _ q3⟩
                rw [r9 (s * q + t) ?_, ← hxs _ hst]
                · exact q1
                · rw [hl]
                  rcases Nat.lt_trichotomy s i with hlt | heq | hgt
                  · have := Nat.mul_le_mul_right q (show s + 1 ≤ i from hlt)
                    rw [Nat.succ_mul] at this; omega
                  · subst heq
                    omega
                  · have := Nat.mul_le_mul_right q (show i + 1 ≤ s from hgt)
                    rw [Nat.succ_mul] at this; omega
          · exact h.elim
        · exact h.elim
      · exact h.elim
    · exact h.elim
  · exact h.elim
theorem sound_storeAll (hT : TabOk P T) {ty : Nat} {x y : Operand} (ho : o.op = .store ty x y) (hd : dstOk o.dst σ.N = true) (h : storeAllK T ty (ev σ x) (ev σ y) σ o.dst K) : Sound P o σ K := by
  unfold storeAllK at h
  split at h
  · rename_i b q i j hx
    exact sound_storeRow hT ho hd hx h
  · exact sound_store hT ho hd h

theorem sound_sliceTail (hT : TabOk P T) {ty : Nat} {x y : Operand} (ho : o.op = .slice ty x (some y) none none) (hd : dstOk o.dst σ.N = true) {b : Nat} (hx : ev σ x = .sl b) (h : sliceTailK T ty b (ev σ y) σ o.dst K) : Sound P o σ K := by
  have mx : x ∈ o.op.operands.toList := by simp [ho, Op.operands]
  have my : y ∈ o.op.operands.toList := by simp [ho, Op.operands]
  unfold sliceTailK at h
  split at h
  · rename_i e hq
    obtain ⟨ti, hti, hk⟩ := tkOf_some hq (by simp)
    obtain ⟨d, hok, hund, hrun⟩ := run_und hT hti hk
    have hok : d = .slice e := hok
    subst hok
    split at h
    · rename_i te hte
      split at h
      · rename_i e' k n f hb
        split at h
        · rename_i hks
          have hks := beq_yes hks
          subst hks
          split at h
          · rename_i kk l hy
            obtain ⟨⟨hn, h0, h1⟩, hK⟩ := h
            refine sound_gen hK hd (by simp) (by simp) fun G σ' a w F ν ha hi => ?_
            have e1 := arg_rep ha hi mx
            rw [hx] at e1
            have e1 : ν b = some (a.eval x) := e1
            have e2 := arg_rep ha hi my
            rw [hy] at e2
            have e2 : a.eval y = .int kk l := e2
            have hb' : σ'.η b = _ := (ha.η b (by simp)).trans hb
            obtain ⟨u, hu, xs, hxl, hown⟩ := hi.heap.rep b _ hb'
            rw [e1] at hu
            injection hu with hu
            obtain ⟨⟨_, hown⟩, _⟩ := (⟨⟨trivial, hxl⟩, trivial⟩ : (True ∧ _) ∧ True)
            rcases hown.2 with ⟨_, hz⟩ | ⟨g, cap, cur, hvv, _, hg', hnc, hcm, hcs, htk⟩
            · omega
            have hval : a.eval x = .slice (some ⟨g, 0, none⟩) n cap := hu.trans hvv
            refine ⟨.slice (if cap = l.toNat then some ⟨g, 0, none⟩ else (some ⟨g, 0, none⟩ : Option Addr).map (·.add (l.toNat * te.size))) (n - l.toNat) (cap - l.toNat), w, F, ν, .inl ?_, hi, ?_⟩
            · have hb : (Instr.sliceBounds true n cap (some (.int kk l)) none none).run P w = .ok (l.toNat, n, cap) w := by
                have sb : ∀ (code : BoundsCode), (Instr.sliceBound (.int kk l) n code).run P w = .ok l.toNat w := by
                  intro code
                  simp [Instr.sliceBound, asIntOf, h0, h1]
                simp [Instr.sliceBounds, sb]
              simp [execOp, ho, hval, e2, Instr.sliceAt, hrun, Instr.slice, hb, hT.size e te hte]
            · have hl : l.toNat ≤ n := by omega
              by_cases hc : cap = l.toNat
              · rw [if_pos hc]
                exact ⟨g, n, cap, _, ⟨g, 0, none⟩, by rw [e1, hval], hl, rfl, fun hlt => by omega⟩
              · rw [if_neg hc]
                refine ⟨g, n, cap, _, (⟨g, 0, none⟩ : Addr).add (l.toNat * te.size), by rw [e1, hval], hl, rfl, fun hlt => ?_⟩
                unfold Addr.add
                split
                · rename_i hz; rw [hz]
                · simp
          · exact h.elim
        · exact h.elim
      · exact h.elim
    · exact h.elim
  · exact h.elim
theorem bound_ok {k : IntKind} {i : Int} {y : Nat} {code : BoundsCode} {w : World} (h0 : 0 ≤ i) (h1 : i ≤ (y : Int)) : (Instr.sliceBound (.int k i) y code).run P w = .ok i.toNat w := by
  simp [Instr.sliceBound, asIntOf, h0, h1]
/-- What an owned row's value is. -/
theorem row_value {w : World} {F : Nat → Prop} {ν : Nat → Option Value} {η : Nat → Option Blk} (hh : HInv w F ν η) {b : Nat} {e k n : Nat} {f : Nat → Nat → PV} (hb : η b = some (.row e k n f)) (hn : 0 < n) {v : Value} (hv : ν b = some v) : ∃ g cap, v = .slice (some ⟨g, 0, none⟩) n cap ∧ n ≤ cap := by
  obtain ⟨u, hu, xs, hown, hcc⟩ := hh.rep b _ hb
  rw [hv] at hu
  injection hu with hu
  subst hu
  rcases hown.2 with ⟨_, hz⟩ | ⟨g, cap, cur, hvv, _, hg, hnc, _⟩
  · omega
  · exact ⟨g, cap, hvv, hnc⟩
theorem sound_slicePre (hT : TabOk P T) {ty : Nat} {x y : Operand} (ho : o.op = .slice ty x none (some y) none) (hd : dstOk o.dst σ.N = true) {b : Nat} (hx : ev σ x = .sl b) (h : slicePreK T ty b (ev σ y) σ o.dst K) : Sound P o σ K := by
  have mx : x ∈ o.op.operands.toList := by simp [ho, Op.operands]
  have my : y ∈ o.op.operands.toList := by simp [ho, Op.operands]
  unfold slicePreK at h
  split at h
  · rename_i e hq
    obtain ⟨ti, hti, hk⟩ := tkOf_some hq (by simp)
    obtain ⟨d, hok, hund, hrun⟩ := run_und hT hti hk
    have hok : d = .slice e := hok
    subst hok
    split at h
    · rename_i te hte
      split at h
      · rename_i e' k n f hb
        split at h
        · rename_i kk l hy
          obtain ⟨⟨hn, h0, h1⟩, hK⟩ := h
          refine sound_gen hK hd (by simp) (by simp) fun G σ' a w F ν ha hi => ?_
          have e1 := arg_rep ha hi mx
          rw [hx] at e1
          have e1 : ν b = some (a.eval x) := e1
          have e2 := arg_rep ha hi my
          rw [hy] at e2
          have e2 : a.eval y = .int kk l := e2
          obtain ⟨g, cap, hval, hnc⟩ := row_value hi.heap ((ha.η b (by simp)).trans hb) hn e1
          refine ⟨.slice (some ⟨g, 0, none⟩) l.toNat cap, w, F, ν, .inl ?_, hi, ⟨g, n, cap, by rw [e1, hval], by omega, rfl⟩⟩
          have hb : (Instr.sliceBounds true n cap none (some (.int kk l)) none).run P w = .ok (0, l.toNat, cap) w := by
            simp [Instr.sliceBounds, bound_ok (P := P) (k := kk) (i := l) (y := cap) (w := w) h0 (by omega)]
          simp [execOp, ho, hval, e2, Instr.sliceAt, hrun, Instr.slice, hb, hT.size e te hte, Addr.add]
        · exact h.elim
      · exact h.elim
    · exact h.elim
  · exact h.elim
theorem sound_sliceRest (hT : TabOk P T) {ty : Nat} {x y z : Operand} (ho : o.op = .slice ty x (some y) (some z) none) (hd : dstOk o.dst σ.N = true) {b hi0 : Nat} (hx : ev σ x = .psl b hi0) (h : sliceRestK T ty b (ev σ y) (ev σ z) σ o.dst K) : Sound P o σ K := by
  have mx : x ∈ o.op.operands.toList := by simp [ho, Op.operands]
  have my : y ∈ o.op.operands.toList := by simp [ho, Op.operands]
  have mz : z ∈ o.op.operands.toList := by simp [ho, Op.operands]
  unfold sliceRestK at h
  split at h
  · rename_i e hq
    obtain ⟨ti, hti, hk⟩ := tkOf_some hq (by simp)
    obtain ⟨d, hok, hund, hrun⟩ := run_und hT hti hk
    have hok : d = .slice e := hok
    subst hok
    split at h
    · rename_i te hte
      split at h
      · rename_i e' k n f hb
        split at h
        · rename_i hks
          have hks := beq_yes hks
          subst hks
          split at h
          · rename_i kk l hy
            split at h
            · rename_i kz hh hz
              obtain ⟨⟨h0, h1, h2⟩, hK⟩ := h
              refine sound_gen hK hd (by simp) (by simp) fun G σ' a w F ν ha hi => ?_
              have e1 := arg_rep ha hi mx
              rw [hx] at e1
              obtain ⟨g, n', cap, hν, hle, hval⟩ := e1
              have e2 := arg_rep ha hi my
              rw [hy] at e2
              have e2 : a.eval y = .int kk l := e2
              have e3 := arg_rep ha hi mz
              rw [hz] at e3
              have e3 : a.eval z = .int kz hh := e3
              obtain ⟨u, hu, xs, hown, _⟩ := hi.heap.rep b _ ((ha.η b (by simp)).trans hb)
              rw [hν] at hu
              injection hu with hu
              subst hu
              rcases hown.2 with ⟨hz, _⟩ | ⟨g', cap', cur, hvv, _, hg, hnc, _⟩
              · cases hz
              injection hvv with hA hB hC
              subst hB hC
              have hb : (Instr.sliceBounds true hi0 cap (some (.int kk l)) (some (.int kz hh)) none).run P w = .ok (l.toNat, hh.toNat, cap) w := by
                simp [Instr.sliceBounds, bound_ok (P := P) (k := kz) (i := hh) (y := cap) (w := w) (by omega) (by omega), bound_ok (P := P) (k := kk) (i := l) (y := hh.toNat) (w := w) h0 (by omega)]
              have hn : hh.toNat = n' := by omega
              refine ⟨.slice (if cap = l.toNat then some ⟨g, 0, none⟩ else (some ⟨g, 0, none⟩ : Option Addr).map (·.add (l.toNat * te.size))) (n' - l.toNat) (cap - l.toNat), w, F, ν, .inl ?_, hi, ?_⟩
              · simp [execOp, ho, hval, e2, e3, Instr.sliceAt, hrun, Instr.slice, hb, hT.size e te hte, hn]
              · have hl : l.toNat ≤ n' := by omega
                by_cases hc : cap = l.toNat
                · rw [if_pos hc]
                  exact ⟨g, n', cap, _, ⟨g, 0, none⟩, hν, hl, rfl, fun hlt => by omega⟩
                · rw [if_neg hc]
                  refine ⟨g, n', cap, _, (⟨g, 0, none⟩ : Addr).add (l.toNat * te.size), hν, hl, rfl, fun hlt => ?_⟩
                  unfold Addr.add
                  split
                  · rename_i hz; rw [hz]
                  · simp
            · exact h.elim
          · exact h.elim
        · exact h.elim
      · exact h.elim
    · exact h.elim
  · exact h.elim
theorem sound_sliceAsk (hT : TabOk P T) {ty : Nat} {x y z m : Operand} (ho : o.op = .slice ty x (some y) (some z) (some m)) (hd : dstOk o.dst σ.N = true) {b : Nat} (hx : ev σ x = .sl b) (h : sliceAskK T ty b (ev σ y) (ev σ z) (ev σ m) σ o.dst K) : Sound P o σ K := by
  have mx : x ∈ o.op.operands.toList := by simp [ho, Op.operands]
  have my : y ∈ o.op.operands.toList := by simp [ho, Op.operands]
  have mz : z ∈ o.op.operands.toList := by simp [ho, Op.operands]
  have mm : m ∈ o.op.operands.toList := by simp [ho, Op.operands]
  unfold sliceAskK at h
  split at h
  · rename_i e hq
    obtain ⟨ti, hti, hk⟩ := tkOf_some hq (by simp)
    obtain ⟨d, hok, hund, hrun⟩ := run_und hT hti hk
    have hok : d = .slice e := hok
    subst hok
    split at h
    · rename_i te hte
      split at h
      · rename_i e' k n f hb
        split at h
        · rename_i kk l hy
          split at h
          · rename_i kz hh hz
            split at h
            · rename_i km mm' hm
              obtain ⟨⟨hn, h0, h1, h2, h3⟩, hK⟩ := h
              refine sound_gen hK hd (by simp) (by simp) fun G σ' a w F ν ha hi => ?_
              have e1 := arg_rep ha hi mx
              rw [hx] at e1
              have e1 : ν b = some (a.eval x) := e1
              have e2 := arg_rep ha hi my
              rw [hy] at e2
              have e2 : a.eval y = .int kk l := e2
              have e3 := arg_rep ha hi mz
              rw [hz] at e3
              have e3 : a.eval z = .int kz hh := e3
              have e4 := arg_rep ha hi mm
              rw [hm] at e4
              have e4 : a.eval m = .int km mm' := e4
              obtain ⟨g, cap, hval, hnc⟩ := row_value hi.heap ((ha.η b (by simp)).trans hb) hn e1
              have hb : (Instr.sliceBounds true n cap (some (.int kk l)) (some (.int kz hh)) (some (.int km mm'))).run P w = .ok (l.toNat, hh.toNat, mm'.toNat) w := by
                simp [Instr.sliceBounds, bound_ok (P := P) (k := km) (i := mm') (y := cap) (w := w) (by omega) (by omega), bound_ok (P := P) (k := kz) (i := hh) (y := mm'.toNat) (w := w) (by omega) (by omega), bound_ok (P := P) (k := kk) (i := l) (y := hh.toNat) (w := w) h0 (by omega)]
              exact ⟨_, w, F, ν, .inl (by simp [execOp, ho, hval, e2, e3, e4, Instr.sliceAt, hrun, Instr.slice, hb, hT.size e te hte]; rfl), hi, trivial⟩
            · exact h.elim
          · exact h.elim
        · exact h.elim
      · exact h.elim
    · exact h.elim
  · exact h.elim
theorem map_some {α β : Type} {f : α → β} {x : Option α} {y : β} (h : x.map f = some y) : ∃ z, x = some z ∧ f z = y := by
  cases x with
  | none => cases h
  | some z => exact ⟨z, rfl, by simpa using h⟩
theorem map_none {α β : Type} {f : α → β} {x : Option α} (h : x.map f = none) : x = none := by cases x with | none => rfl | some z => cases h
theorem sound_sliceAll (hT : TabOk P T) {ty : Nat} {x : Operand} {lo hi' mxx : Option Operand} (ho : o.op = .slice ty x lo hi' mxx) (hd : dstOk o.dst σ.N = true)
    (h : sliceAllK T ty (ev σ x) (lo.map (ev σ)) (hi'.map (ev σ)) (mxx.map (ev σ)) σ o.dst K) : Sound P o σ K := by
  unfold sliceAllK at h
  split at h
  · rename_i b l hx hl hh hm
    obtain ⟨y, rfl, rfl⟩ := map_some hl
    obtain rfl := map_none hh
    obtain rfl := map_none hm
    exact sound_sliceTail hT ho hd hx h
  · rename_i b l hx hl hh hm
    obtain rfl := map_none hl
    obtain ⟨y, rfl, rfl⟩ := map_some hh
    obtain rfl := map_none hm
    exact sound_slicePre hT ho hd hx h
  · rename_i b hi0 l hh1 hx hl hh hm
    obtain ⟨y, rfl, rfl⟩ := map_some hl
    obtain ⟨z, rfl, rfl⟩ := map_some hh
    obtain rfl := map_none hm
    exact sound_sliceRest hT ho hd hx h
  · rename_i b l hh1 mm hx hl hh hm
    obtain ⟨y, rfl, rfl⟩ := map_some hl
    obtain ⟨z, rfl, rfl⟩ := map_some hh
    obtain ⟨m, rfl, rfl⟩ := map_some hm
    exact sound_sliceAsk hT ho hd hx h
  · exact sound_slice hT ho hd h

theorem sound_appendIn (hT : TabOk P T) {ty : Nat} {x y : Operand} {c : Call} (ho : o.op = .call c) (hc : c.callee = .builtin .append) (hca : c.args.toList = [x, y]) (hct : c.argTypes.toList = [ty, ty])
    (hd : dstOk o.dst σ.N = true) {b hi0 : Nat} (hx : ev σ x = .psl b hi0) (h : appendInK T ty b hi0 (ev σ y) σ o.dst K) : Sound P o σ K := by
  have ha' : c.args = #[x, y] := by rw [← Array.toArray_toList (xs := c.args), hca]
  have ht' : c.argTypes = #[ty, ty] := by rw [← Array.toArray_toList (xs := c.argTypes), hct]
  have mx : x ∈ o.op.operands.toList := by simp [ho, Op.operands, Call.operands, hc, ha']
  have my : y ∈ o.op.operands.toList := by simp [ho, Op.operands, Call.operands, hc, ha']
  have run : ∀ (a : Act) (w w' : World) (v : Value), (Builtin.append_ #[ty, ty] o.type #[a.eval x, a.eval y]).run P w = .ok v w' → (execOp a.eval o).run P w = .ok (.value v) w' := by
    intro a w w' v hr
    simp [execOp, ho, resolve, hc, ha', ht', invoke, builtin, hr]
  unfold appendInK at h
  split at h
  case h_2 => exact h.elim
  rename_i e hq
  obtain ⟨ti, hti, hk⟩ := tkOf_some hq (by simp)
  obtain ⟨d, hok, hund, hrun⟩ := run_und hT hti hk
  have hok : d = .slice e := hok
  subst hok
  split at h
  case h_2 => exact h.elim
  rename_i te hte
  split at h
  case h_2 => exact h.elim
  rename_i b2 k lo hy
  split at h
  case h_2 => exact h.elim
  rename_i e' k' n f hb
  split at h
  case h_2 => exact h.elim
  rename_i hcond
  simp only [Bool.and_eq_true] at hcond
  have c1 := beq_yes hcond.1
  have c2 := beq_yes hcond.2.1
  have c3 := beq_yes hcond.2.2.1
  have c4 := beq_yes hcond.2.2.2
  subst c1 c2 c3 c4
  obtain ⟨hle, hK⟩ := h
  obtain ⟨i, i1, i2, i3⟩ := hT.info _ te hte
  refine sound_gen hK hd (by simp) (fun b' u hb' => by simp at hb'; simp [hb'.1]) fun G σ' a w F ν ha hi => ?_
  have e1 := arg_rep ha hi mx
  rw [hx] at e1
  obtain ⟨g, n1, cap, hν, hle1, hv1⟩ := e1
  have e2 := arg_rep ha hi my
  rw [hy] at e2
  obtain ⟨g2, n2, cap2, q, ad, hν2, hlo, hv2, had⟩ := e2
  rw [hν] at hν2
  injection hν2 with hν2
  injection hν2 with a1 a2 a3
  injection a1 with a1
  injection a1 with a1
  subst a1 a2 a3
  have hb' : σ'.η b2 = _ := (ha.η b2 (by simp)).trans hb
  obtain ⟨u, hu, xs, ⟨hxl, hown⟩, hcc⟩ := hi.heap.rep b2 _ hb'
  rw [hν] at hu
  injection hu with hu
  subst hu
  rcases hown with ⟨hnil, _⟩ | ⟨g', cap', cur, hvv, _, hg, hnc, hcm, hcs, htk⟩
  · cases hnil
  injection hvv with hA hB hC
  injection hA with hA
  injection hA with hA
  subst hA hB hC
  have hxs : ∀ t, t < n1 * te.size → xs[t]? = cur[t]? := by
    intro t ht
    rw [← htk, List.getElem?_take, if_pos ht, Array.getElem?_toList]
  have hcap : n1 * te.size ≤ cap * te.size := Nat.mul_le_mul_right _ hnc
  have hlk : lo * te.size + (n1 - lo) * te.size = n1 * te.size := by rw [← Nat.add_mul]; congr 1; omega
  have hhk : hi0 * te.size ≤ lo * te.size := Nat.mul_le_mul_right _ hle
  obtain ⟨news, hnews⟩ : ∃ news, news = xs.drop (lo * te.size) := ⟨_, rfl⟩
  have hnl : news.length = (n1 - lo) * te.size := by rw [hnews, List.length_drop, hxl]; omega
  have hnget : ∀ j, j < (n1 - lo) * te.size → news[j]? = cur[lo * te.size + j]? := by
    intro j hj
    rw [hnews, List.getElem?_drop]
    exact hxs _ (by omega)
  have hone : ∀ u ∈ news, u.oneCell' = true := by
    intro u hu
    obtain ⟨j, hj, hju⟩ := List.mem_iff_getElem.1 hu
    have hj' : j < (n1 - lo) * te.size := by rw [← hnl]; exact hj
    have hk0 : 0 < te.size := by
      rcases Nat.eq_zero_or_pos te.size with h0 | h0
      · rw [h0] at hj'; simp at hj'
      · exact h0
    have ht : lo * te.size + j < n1 * te.size := by omega
    obtain ⟨c, q1, q2, _⟩ := hcc ((lo * te.size + j) / te.size) ((lo * te.size + j) % te.size) (Nat.div_lt_of_lt_mul (by rw [Nat.mul_comm te.size n1]; exact ht)) (Nat.mod_lt _ hk0)
    have hdm : (lo * te.size + j) / te.size * te.size + (lo * te.size + j) % te.size = lo * te.size + j := by rw [Nat.mul_comm]; exact Nat.div_add_mod _ _
    rw [hdm] at q1
    have : some u = some c := by rw [← q1, ← hju, ← List.getElem?_eq_getElem hj, hnews, List.getElem?_drop]
    injection this with this
    rw [this]; exact q2
  have hcell : ∀ j u, news[j]? = some u → w.cell? (ad.add j) = some u := by
    intro j u hj
    have hjl : j < (n1 - lo) * te.size := by rw [← hnl]; exact (List.getElem?_eq_some_iff.1 hj).1
    have hlt : lo < n1 := by
      rcases Nat.lt_or_ge lo n1 with h | h
      · exact h
      · rw [show n1 - lo = 0 by omega] at hjl; simp at hjl
    rw [had hlt, show (⟨g, lo * te.size, none⟩ : Addr).add j = ⟨g, lo * te.size + j, none⟩ by unfold Addr.add; split <;> simp_all]
    rw [hnget j hjl] at hj
    unfold World.cell?
    simp [hg, hj]
  have hfit : hi0 * i.size + news.length ≤ cur.size := by rw [i2, hnl, hcs]; omega
  have hr := run_append_room (P := P) w ty o.type e' i hund i1 g hi0 cap cur hg ad (n1 - lo) q news (by rw [i2]; exact hnl) hcell hone (by omega) hfit
  rw [← hv1, ← hv2, i2] at hr
  obtain ⟨cs', hcs'⟩ : ∃ cs', cs' = (cur.toList.take (hi0 * te.size) ++ news ++ cur.toList.drop (hi0 * te.size + news.length)).toArray := ⟨_, rfl⟩
  rw [← hcs'] at hr
  have hsz : cs'.size = cur.size := by
    rw [hcs']
    simp only [List.size_toArray, List.length_append, List.length_take, List.length_drop, Array.length_toList]
    rw [i2] at hfit
    omega
  have hheap := setRow_heap w g cur cs' e' _ hg
  refine ⟨_, w.setRow g cs', F, ν, .inl (run a w _ _ hr), ?_, ⟨g, n1, cap, hν, by omega, rfl⟩⟩
  have hF : ∀ k, F k → (w.setRow g cs').heap[k]? = w.heap[k]? := fun k hk => setRow_other w g k _ fun e => hi.heap.out b2 _ _ g hb' hν rfl (e ▸ hk)
  have hget : ∀ t, cs'[t]? = if t < hi0 * te.size then cur[t]? else if t < hi0 * te.size + (n1 - lo) * te.size then cur[lo * te.size + (t - hi0 * te.size)]? else cur[t]? := by
    intro t
    rw [hcs', List.getElem?_toArray, List.append_assoc]
    have hl1 : (cur.toList.take (hi0 * te.size)).length = hi0 * te.size := by
      rw [List.length_take, Array.length_toList, hcs]; omega
    by_cases h1 : t < hi0 * te.size
    · rw [if_pos h1, List.getElem?_append_left (by omega), List.getElem?_take, if_pos h1, Array.getElem?_toList]
    · rw [if_neg h1, List.getElem?_append_right (by omega), hl1]
      by_cases h2 : t < hi0 * te.size + (n1 - lo) * te.size
      · rw [if_pos h2, List.getElem?_append_left (by omega), hnget _ (by omega)]
      · rw [if_neg h2, List.getElem?_append_right (by omega), List.getElem?_drop, Array.getElem?_toList]
        congr 1; omega
  refine hi.write (blk' := .row e' te.size n1 (moveF hi0 lo n1 f)) hb' hν rfl (by simp [World.setRow]) (fun k hk => setRow_other w g k _ hk) rfl rfl rfl ?_
  refine ⟨cs'.toList.take (n1 * te.size), ⟨by rw [List.length_take, Array.length_toList, hsz, hcs]; omega, .inr ⟨g, cap, cs', rfl, Nat.zero_le _, hheap, hnc, hcm, by rw [hsz]; exact hcs, rfl⟩⟩, fun s t hs ht => ?_⟩
  have hst : s * te.size + t < n1 * te.size := by
    have := Nat.mul_le_mul_right te.size (show s + 1 ≤ n1 from hs)
    rw [Nat.succ_mul] at this; omega
  rw [List.getElem?_take, if_pos hst, Array.getElem?_toList, hget]
  have blt : ∀ {x y : Nat}, x < y → Nat.blt x y = true := fun h => Nat.ble_eq_true_of_le h
  have bge : ∀ {x y : Nat}, y ≤ x → Nat.blt x y = false := by
    intro x y h
    cases hbb : Nat.blt x y with
    | false => rfl
    | true => have : x < y := Nat.le_of_ble_eq_true hbb; omega
  rcases Nat.lt_or_ge s hi0 with h1 | h1
  · have h2 : s * te.size + t < hi0 * te.size := by
      have := Nat.mul_le_mul_right te.size (show s + 1 ≤ hi0 from h1)
      rw [Nat.succ_mul] at this; omega
    obtain ⟨c, q1, q2, q3⟩ := hcc s t hs ht
    rw [if_pos h2, ← hxs _ hst]
    refine ⟨c, q1, q2, ?_⟩
    unfold moveF
    rw [blt h1]
    exact RepP.mono hF (fun _ => id) _ _ q3
  · have h2 : hi0 * te.size ≤ s * te.size := Nat.mul_le_mul_right _ h1
    rw [if_neg (by omega)]
    rcases Nat.lt_or_ge s (hi0 + (n1 - lo)) with h3 | h3
    · have h4 : s * te.size + t < hi0 * te.size + (n1 - lo) * te.size := by
        have := Nat.mul_le_mul_right te.size (show s + 1 ≤ hi0 + (n1 - lo) from h3)
        rw [Nat.succ_mul, Nat.add_mul] at this; omega
      have h5 : lo * te.size + (s * te.size + t - hi0 * te.size) = (lo + (s - hi0)) * te.size + t := by
        rw [Nat.add_mul, Nat.sub_mul]; omega
      obtain ⟨c, q1, q2, q3⟩ := hcc (lo + (s - hi0)) t (by omega) ht
      rw [if_pos h4, h5, ← hxs _ (by rw [← h5]; omega)]
      refine ⟨c, q1, q2, ?_⟩
      unfold moveF
      rw [bge h1, blt h3]
      exact RepP.mono hF (fun _ => id) _ _ q3
    · have h4 : hi0 * te.size + (n1 - lo) * te.size ≤ s * te.size := by
        rw [← Nat.add_mul]; exact Nat.mul_le_mul_right _ h3
      obtain ⟨c, q1, q2, q3⟩ := hcc s t hs ht
      rw [if_neg (by omega), ← hxs _ hst]
      refine ⟨c, q1, q2, ?_⟩
      unfold moveF
      rw [bge h1, bge h3]
      exact trivial
theorem sound_appendAll (hT : TabOk P T) {ty nm : Nat} {x y : Operand} {c : Call} (ho : o.op = .call c) (hc : c.callee = .builtin .append) (hca : c.args.toList = [x, y]) (hct : c.argTypes.toList = [ty, ty])
    (hd : dstOk o.dst σ.N = true) (h : appendAllK T ty (ev σ x) (ev σ y) nm σ o.dst K) : Sound P o σ K := by
  unfold appendAllK at h
  split at h
  · rename_i b hi0 hx
    exact sound_appendIn hT ho hc hca hct hd hx h
  · exact sound_append hT ho hc hca hct hd h

theorem zeroCells_one (z : Array Value) (n : Nat) (h : ∀ v ∈ z.toList, v.oneCell' = true) : (Builtin.zeroCells z n).toList.length = n * z.size ∧ ∀ v ∈ (Builtin.zeroCells z n).toList, v.oneCell' = true := by
  refine ⟨by simp [Builtin.zeroCells], fun v hv => ?_⟩
  simp only [Builtin.zeroCells, Array.toList_map, List.mem_map] at hv
  obtain ⟨i, hi, rfl⟩ := hv
  have hi : i < n * z.size := by simpa using hi
  have hz : 0 < z.size := by
    rcases Nat.eq_zero_or_pos z.size with h0 | h0
    · rw [h0] at hi; simp at hi
    · exact h0
  have hlt : i % z.size < z.size := Nat.mod_lt _ hz
  rw [getElem!_pos z (i % z.size) hlt]
  exact h _ (by simp)

theorem sound_clear (hT : TabOk P T) {ty : Nat} {x : Operand} {c : Call} (ho : o.op = .call c) (hc : c.callee = .builtin .clear) (ha : c.args.toList = [x]) (ht : c.argTypes.toList = [ty])
    (hd : dstOk o.dst σ.N = true) (h : clearK T ty (ev σ x) σ o.dst K) : Sound P o σ K := by
  have ha' : c.args = #[x] := by rw [← Array.toArray_toList (xs := c.args), ha]
  have ht' : c.argTypes = #[ty] := by rw [← Array.toArray_toList (xs := c.argTypes), ht]
  have mx : x ∈ o.op.operands.toList := by simp [ho, Op.operands, Call.operands, hc, ha']
  unfold clearK at h
  split at h
  · rename_i b k lo hx
    split at h
    · rename_i e hq
      obtain ⟨ti, hti, hk⟩ := tkOf_some hq (by simp)
      obtain ⟨d, hok, hund, hrun⟩ := run_und hT hti hk
      have hok : d = .slice e := hok
      subst hok
      split at h
      · rename_i te hte
        split at h
        · exact h.elim
        · rename_i z0 zs hzero
          split at h
          · rename_i e' k' n f hb
            split at h
            · rename_i hks
              rw [Bool.and_eq_true] at hks
              have h1 := beq_yes hks.1
              have h2 := beq_yes hks.2
              subst h1
              subst h2
              obtain ⟨z, hz1, hz2, hz3, hz4, _⟩ := hT.zero e te hte (by rw [hzero]; simp)
              refine sound_gen h hd (by simp) (fun b' u hb' => by simp at hb'; simp [hb'.1]) fun G σ' a w F ν hag hi => ?_
              have e1 := arg_rep hag hi mx
              rw [hx] at e1
              obtain ⟨g, n', c', q, ad, hν, hlo, hv, had⟩ := e1
              have hb' : σ'.η b = _ := (hag.η b (by simp)).trans hb
              obtain ⟨u, hu, xs, hown, hcc⟩ := hi.heap.rep b _ hb'
              rw [hν] at hu
              injection hu with hu
              subst hu
              obtain ⟨hxl, hown⟩ := hown
              rcases hown with ⟨hnil, _⟩ | ⟨g', cap, cur, hvv, _, hg', hnc, hcm, hcs, htk⟩
              · cases hnil
              injection hvv with hA hB hC
              injection hA with hA
              injection hA with hA
              subst hA
              subst hB
              have hrun1 : ∀ w' v', (Builtin.clear_ #[ty] o.type #[a.eval x]).run P w = .ok v' w' → (execOp a.eval o).run P w = .ok (.value v') w' := by
                intro w' v' hh
                simp [execOp, ho, resolve, hc, ha', ht', invoke, builtin, hh]
              have hsz : cur.size = cap * te.size := hcs
              have hcap : n' * te.size ≤ cap * te.size := Nat.mul_le_mul_right _ hnc
              have hlk : lo * te.size ≤ n' * te.size := Nat.mul_le_mul_right _ hlo
              have hxs : ∀ t, t < n' * te.size → xs[t]? = cur[t]? := by
                intro t ht
                rw [← htk, List.getElem?_take, if_pos ht, Array.getElem?_toList]
              have keep : ∀ (w' : World) (cs' : Array Value), (Builtin.clear_ #[ty] o.type #[a.eval x]).run P w = .ok (.tuple #[]) w' → w'.heap[g]? = some (.cells cs' e' (0, 0)) → cs'.size = cur.size → w'.heap.size = w.heap.size → (∀ k, k ≠ g → w'.heap[k]? = w.heap[k]?) →
                  w'.os = w.os → w'.tape = w.tape → w'.output = w.output → (∀ q, q < lo * te.size → cs'[q]? = cur[q]?) → (∀ q v, lo * te.size ≤ q → q < n' * te.size → cs'[q]? = some v → v.oneCell' = true) →
                  ∃ v w' F' ν', ((execOp a.eval o).run P w = .ok (.value v) w' ∨ ((execOp a.eval o).run P w = .ok .skip w' ∧ v = undef)) ∧
                    FInv G { σ' with η := upds σ'.η [(b, some (.row e' te.size n' (tailF lo f)))], us := upds σ'.us (([] : List Nat).map (·, true)) } a w' F' ν' ∧ RepV w' F' ν' (.p .any) v := by
                intro w' cs' r1 r2 r3 r4 r5 r6 r7 r8 r9 r10
                refine ⟨.tuple #[], w', F, ν, .inl (hrun1 _ _ r1), ?_, trivial⟩
                have hF : ∀ k, F k → w'.heap[k]? = w.heap[k]? := fun k hk => r5 k fun e => hi.heap.out b _ _ g hb' hν rfl (e ▸ hk)
                refine hi.write (blk' := .row e' te.size n' (tailF lo f)) hb' hν rfl r4 r5 r6 r7 r8 ?_
                refine ⟨cs'.toList.take (n' * te.size), ⟨by rw [List.length_take, Array.length_toList, r3, hsz]; omega, .inr ⟨g, cap, cs', by rw [hC], Nat.zero_le _, r2, hnc, hcm, by rw [r3]; exact hcs, rfl⟩⟩, fun s t hs ht => ?_⟩
                have hst : s * te.size + t < n' * te.size := by
                  have := Nat.mul_le_mul_right te.size (show s + 1 ≤ n' from hs)
                  rw [Nat.succ_mul] at this; omega
                rw [List.getElem?_take, if_pos hst, Array.getElem?_toList]
                rcases Nat.lt_or_ge s lo with hlt | hge
                · have hq2 : s * te.size + t < lo * te.size := by
                    have := Nat.mul_le_mul_right te.size (show s + 1 ≤ lo from hlt)
                    rw [Nat.succ_mul] at this; omega
                  obtain ⟨c, q1, q2, q3⟩ := hcc s t hs ht
                  refine ⟨c, by rw [r9 _ hq2, ← hxs _ hst]; exact q1, q2, ?_⟩
                  unfold tailF
                  rw [show Nat.blt s lo = true from Nat.ble_eq_true_of_le hlt]
                  exact RepP.mono hF (fun _ => id) _ _ q3
                · have hq2 : lo * te.size ≤ s * te.size + t := by
                    have := Nat.mul_le_mul_right te.size hge
                    omega
                  have hlt2 : s * te.size + t < cs'.size := by rw [r3, hsz]; omega
                  refine ⟨_, Array.getElem?_eq_getElem hlt2, r10 _ _ hq2 hst (Array.getElem?_eq_getElem hlt2), ?_⟩
                  unfold tailF
                  have : Nat.blt s lo = false := by
                    cases hbb : Nat.blt s lo with
                    | false => rfl
                    | true => have : s < lo := Nat.le_of_ble_eq_true hbb; omega
                  rw [this]
                  exact trivial
              rcases Nat.eq_zero_or_pos (n' - lo) with h0 | h0
              · refine keep w cur ?_ hg' rfl rfl (fun _ _ => rfl) rfl rfl rfl (fun _ _ => rfl) (fun q v hq1 hq2 _ => ?_)
                · rw [hv, h0]
                  simp [Builtin.clear_, run_underlying hund]
                · have : n' ≤ lo := by omega
                  have := Nat.mul_le_mul_right te.size this
                  omega
              · obtain ⟨m, hm⟩ : ∃ m, n' - lo = m + 1 := ⟨n' - lo - 1, by omega⟩
                have hadd := had (by omega)
                have hzv : ∀ w, (zeroValue e).run P w = .ok z w := fun w => by
                  cases hin : P.info? e with
                  | none => rw [hin] at hz1; cases hz1
                  | some i => rw [hin] at hz1; simp at hz1; simp [zeroValue, typeInfo, hin, hz1]
                have hzc := zeroCells_one z.cells (n' - lo) (by rw [hz2]; simpa using hz4)
                have hzl : (Builtin.zeroCells z.cells (n' - lo)).toList.length = (n' - lo) * te.size := by rw [hzc.1, hz2]; simp [hz3]
                have hmul : lo * te.size + (n' - lo) * te.size = n' * te.size := by rw [← Nat.add_mul]; congr 1; omega
                obtain ⟨w', cs', r1, r2, r3, r4, r5, r6, r7, r8, r9, r10⟩ := run_storeCells P g (lo * te.size) e' (Builtin.zeroCells z.cells (n' - lo)).toList 0 w cur hg' (by rw [hzl, hsz]; omega) hzc.2
                refine keep w' cs' ?_ r2 r3 r4 r5 r6 r7 r8 (fun q hq => r9 q (by omega)) (fun q v hq1 hq2 hqv => ?_)
                · rw [hv, hadd]
                  rw [hm] at r1 ⊢
                  simp [Builtin.clear_, run_underlying hund, hzv, r1]
                · have := r10 (q - lo * te.size) (by rw [hzl]; omega)
                  rw [show lo * te.size + 0 + (q - lo * te.size) = q from by omega, hqv] at this
                  exact hzc.2 v (List.mem_of_getElem? this.symm)
            · exact h.elim
          · exact h.elim
      · exact h.elim
    · exact h.elim
  · exact h.elim
end
end Go.Av
