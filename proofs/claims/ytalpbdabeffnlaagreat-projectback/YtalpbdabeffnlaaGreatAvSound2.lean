/- The reckoner is right: operations that only reckon or read. -/
import Derived.Test.YtalpbdabeffnlaaGreatAvSound
set_option linter.unusedVariables false
set_option linter.unusedSimpArgs false
namespace Go.Av
open Go

def TKok (P : Program) (d : TypeDesc) : TK → Prop
  | .int k => d = .int k
  | .bool => d = .bool
  | .str => d = .string
  | .slice e => d = .slice e
  | .ptr e => d = .pointer e
  | .struct fs => ∃ fields, d = .struct fields ∧ fields.size = fs.length ∧ ∀ i off size agg, nth? fs i = some (off, size, agg) → ∃ f : Field, fields[i]? = some f ∧ f.offset = off ∧
      (∀ w, (sizeOf f.type).run P w = .ok size w) ∧ (∀ w, (isAgg f.type).run P w = .ok agg w) ∧ (agg = false → size = 1)
  | .arr n k agg => ∃ e, d = .array n e ∧ (∀ w, (sizeOf e).run P w = .ok k w) ∧ (∀ w, (isAgg e).run P w = .ok agg w) ∧ (agg = false → k = 1)
  | .other => True
/-- Cells of the kinds that are told. -/
def FlatCells : List (Option IntKind) → List Value → Prop
  | [], l => l = []
  | some k :: ks, l => ∃ a m, l = .int k a :: m ∧ FlatCells ks m
  | none :: ks, l => ∃ s m, l = .string s :: m ∧ FlatCells ks m
def flatEqV : List Value → List Value → Bool
  | .int _ a :: l, .int _ b :: m => decide (a = b) && flatEqV l m
  | .string a :: l, .string b :: m => decide (a = b) && flatEqV l m
  | _, _ => true
structure TabOk (P : Program) (T : Nat → Option TI) : Prop where
  und : ∀ t ti, T t = some ti → ∃ d, P.underlying t = some d ∧ TKok P d ti.kind
  size : ∀ t ti, T t = some ti → ∀ w, (sizeOf t).run P w = .ok ti.size w
  agg : ∀ t ti, T t = some ti → ∀ w, (isAgg t).run P w = .ok ti.agg w
  one : ∀ t ti, T t = some ti → ti.agg = false → ti.size = 1
  info : ∀ t ti, T t = some ti → ∃ i, P.info? t = some i ∧ i.size = ti.size ∧ i.bytes = ti.bytes
  zero : ∀ t ti, T t = some ti → ti.zero ≠ [] → ∃ z, (P.info? t).map (·.zero) = some (some z) ∧ z.cells = ti.zero.toArray ∧ ti.zero.length = ti.size ∧ (∀ v, v ∈ ti.zero → v.oneCell' = true) ∧ (ti.agg = true → ∃ cs, z = .agg cs)
  flat : ∀ t ti fs, T t = some ti → ti.kind = .struct fs → ti.flat ≠ [] → ∀ (w : World) (xs ys : List Value) (x y : Operand) , FlatCells ti.flat xs → FlatCells ti.flat ys →
      (eqGuard .eql t x y (.agg xs.toArray) (.agg ys.toArray)).run P w = .ok () w ∧ (eqGuard .neq t x y (.agg xs.toArray) (.agg ys.toArray)).run P w = .ok () w ∧
      (binOp .eql t (.agg xs.toArray) (.agg ys.toArray)).run P w = .ok (.bool (flatEqV xs ys)) w ∧ (binOp .neq t (.agg xs.toArray) (.agg ys.toArray)).run P w = .ok (.bool (!flatEqV xs ys)) w

theorem upto_len {α : Type} (f : Nat → α) : ∀ n i, (upto f n i).length = n
  | 0, _ => rfl
  | n + 1, i => by simp [upto, upto_len f n]
theorem at_upto {α : Type} (d : α) (f : Nat → α) : ∀ n i j, j < n → at_ d (upto f n i) j = f (i + j)
  | 0, _, _, h => absurd h (by omega)
  | n + 1, i, 0, _ => rfl
  | n + 1, i, j + 1, h => by
    show at_ d (upto f n (i + 1)) j = _
    rw [at_upto d f n (i + 1) j (by omega)]
    congr 1
    omega
theorem upto_get {α : Type} (f : Nat → α) : ∀ n i j, j < n → (upto f n i)[j]? = some (f (i + j))
  | 0, _, _, h => absurd h (by omega)
  | n + 1, i, 0, _ => rfl
  | n + 1, i, j + 1, h => by
    show (upto f n (i + 1))[j]? = _
    rw [upto_get f n (i + 1) j (by omega)]
    congr 2
    omega
theorem at_get {α : Type} (d : α) : ∀ (l : List α) j x, l[j]? = some x → at_ d l j = x
  | [], _, _, h => by simp at h
  | y :: l, 0, x, h => by simpa [at_] using h
  | y :: l, j + 1, x, h => at_get d l j x (by simpa using h)
theorem get_at {α : Type} (d : α) : ∀ (l : List α) j, j < l.length → l[j]? = some (at_ d l j)
  | [], _, h => by simp at h
  | y :: l, 0, h => rfl
  | y :: l, j + 1, h => get_at d l j (by simpa using h)
theorem at_out {α : Type} (d : α) : ∀ (l : List α) j, l.length ≤ j → at_ d l j = d
  | [], _, h => rfl
  | y :: l, 0, h => by simp at h
  | y :: l, j + 1, h => at_out d l j (by simpa using h)
theorem shift_at : ∀ n (f : Nat → PV) j, shift n f j = f (n + j)
  | 0, f, j => by simp [shift]
  | n + 1, f, j => by
    show shift n (fun j => f (j + 1)) j = _
    rw [shift_at n]
    show f (n + j + 1) = _
    congr 1
    omega

theorem run_und {P : Program} {T : Nat → Option TI} (hT : TabOk P T) {t : Nat} {ti : TI} (h : T t = some ti) {tk : TK} (hk : ti.kind = tk) :
    ∃ d, TKok P d tk ∧ P.underlying t = some d ∧ ∀ w, (underlying t).run P w = .ok d w := by
  obtain ⟨d, h1, h2⟩ := hT.und t ti h
  subst hk
  exact ⟨d, h2, h1, fun w => by simp [underlying, h1]⟩
theorem tkOf_some {T : Nat → Option TI} {t : Nat} {tk : TK} (h : tkOf T t = tk) (hne : tk ≠ .other) : ∃ ti, T t = some ti ∧ ti.kind = tk := by
  unfold tkOf at h
  split at h
  · exact ⟨_, by assumption, h⟩
  · exact absurd h.symm hne

theorem run_loadCells (P : Program) (w : World) (a : Addr) : ∀ (n i : Nat) (acc : Array Value), (∀ j, j < n → ∃ u, w.cell? (a.add (i + j)) = some u) →
    ∃ cs : Array Value, cs.size = n ∧ (loadCellsFrom a i n acc).run P w = .ok (acc ++ cs) w ∧ ∀ j, j < n → cs[j]? = w.cell? (a.add (i + j))
  | 0, i, acc, _ => ⟨#[], rfl, by simp [loadCellsFrom], fun j hj => absurd hj (by omega)⟩
  | n + 1, i, acc, h => by
    obtain ⟨u, hu⟩ := h 0 (by omega)
    obtain ⟨cs, h1, h2, h3⟩ := run_loadCells P w a n (i + 1) (acc.push u) (fun j hj => by
      have := h (j + 1) (by omega)
      rwa [show i + (j + 1) = i + 1 + j from by omega] at this)
    refine ⟨#[u] ++ cs, by simp [h1]; omega, ?_, fun j hj => ?_⟩
    · rw [Nat.add_zero] at hu
      simp only [loadCellsFrom, Sem.run_bind, run_load, hu, Result.andThen_ok, h2]
      simp
    · cases j with
      | zero =>
        have hu' : w.cell? (a.add i) = some u := by simpa using hu
        simp [Array.getElem?_append, hu']
      | succ j =>
        rw [show i + (j + 1) = i + 1 + j from by omega, ← h3 j (by omega)]
        simp [Array.getElem?_append]

theorem run_loadVar_rep {P : Program} {T : Nat → Option TI} (hT : TabOk P T) {t : Nat} {ti : TI} (h : T t = some ti) {w : World} {F : Nat → Prop} {a : Addr} {f : Nat → PV}
    (hc : ∀ j, j < ti.size → ∃ u, w.cell? (a.add j) = some u ∧ u.oneCell' = true ∧ RepP w F (f j) u) :
    ∃ v, (loadVar t a).run P w = .ok v w ∧ RepP w F (asVal ti.agg ti.size f) v := by
  cases hag : ti.agg with
  | false =>
    obtain ⟨u, h1, h2, h3⟩ := hc 0 (by rw [hT.one t ti h hag]; omega)
    have : a.add 0 = a := by unfold Addr.add; simp
    rw [this] at h1
    exact ⟨u, by simp [loadVar, hT.agg t ti h, hag, h1], h3⟩
  | true =>
    obtain ⟨cs, h1, h2, h3⟩ := run_loadCells P w a ti.size 0 #[] (fun j hj => by
      obtain ⟨u, hu, _⟩ := hc j hj
      exact ⟨u, by simpa using hu⟩)
    refine ⟨.agg cs, by simp [loadVar, hT.agg t ti h, hag, hT.size t ti h, loadCells, h2], cs, rfl, by rw [h1, upto_len], fun j hj => ?_⟩
    rw [upto_len] at hj
    obtain ⟨u, hu, ho, hr⟩ := hc j hj
    exact ⟨u, by rw [h3 j hj]; simpa using hu, ho, by rw [at_upto _ _ _ _ _ hj, Nat.zero_add]; exact hr⟩

theorem kEq_eq {a b : IntKind} (h : kEq a b = true) : a = b := by cases a <;> cases b <;> first | rfl | (simp [kEq] at h)

theorem sEq_eq (a b : ByteArray) : sEq a b = (a.toList == b.toList) := by
  unfold sEq
  by_cases h : a = b
  · subst h; simp
  · have : a.toList ≠ b.toList := fun e => h (by
      rw [ByteArray.toList_eq, ByteArray.toList_eq] at e
      cases a with | mk a => cases b with | mk b => exact congrArg ByteArray.mk (Array.toList_inj.1 e))
    simp [h, this]

section ops
variable {P : Program} {T : Nat → Option TI} {o : Oper} {σ : St} {K : Eff → Prop}

/-- What every operation owes. -/
def Sound (P : Program) (o : Oper) (σ : St) (K : Eff → Prop) : Prop := ∃ e, K e ∧ e.dst.isSome = o.dst.isSome ∧ (∀ d x, e.dst = some (d, x) → o.dst = some d) ∧ (∀ b, b ∈ e.nw → σ.us b = false) ∧
  (∀ b u, (b, u) ∈ e.ups → b ∈ e.rd ∨ b ∈ e.nw) ∧ EffOk P o σ e

theorem sound_value {x : AV} {rd : List Nat} (hK : K { dst := dstE o.dst x, rd }) (hd : dstOk o.dst σ.N = true)
    (h : ∀ (G : Gh) (σ' : St) (a : Act) (w : World) (F : Nat → Prop) (ν : Nat → Option Value), AgreeOn o { dst := dstE o.dst x, rd } σ σ' → FInv G σ' a w F ν →
      ∃ v, (execOp a.eval o).run P w = .ok (.value v) w ∧ RepV w F ν x v) : Sound P o σ K :=
  ⟨_, hK, by cases o.dst <;> rfl, fun d y h => by cases hq : o.dst with | none => simp [dstE, hq] at h | some t => simp [dstE, hq] at h; simp [h.1], by simp, by simp, effok_value hd h⟩

theorem sound_move {x : Operand} (ho : o.op = .move x ∨ o.op = .assign x) (hd : dstOk o.dst σ.N = true) (h : forceK (ev σ x) fun x => retK o.dst x K) : Sound P o σ K := by
  have h := forceK_elim h
  refine sound_value h hd fun G σ' a w F ν ha hi => ⟨a.eval x, ?_, ?_⟩
  · rcases ho with ho | ho <;> simp [execOp, ho]
  · exact ev_agree ha (by rcases ho with ho | ho <;> simp [ho, Op.operands]) (ev_rep hi x)

theorem sound_pick {c x y : Operand} (ho : o.op = .pick c x y) (hd : dstOk o.dst σ.N = true)
    (h : boolK (ev σ c) fun t => match t with | true => forceK (ev σ x) fun x => retK o.dst x K | false => forceK (ev σ y) fun x => retK o.dst x K) : Sound P o σ K := by
  obtain ⟨t, h, hc⟩ := boolK_elim h
  cases t with
  | true =>
    have h := forceK_elim h
    refine sound_value h hd fun G σ' a w F ν ha hi => ⟨a.eval x, ?_, ?_⟩
    · have := hc w F ν (a.eval c) (ev_agree ha (by simp [ho, Op.operands]) (ev_rep hi c))
      simp [execOp, ho, this, asBool]
    · exact ev_agree ha (by simp [ho, Op.operands]) (ev_rep hi x)
  | false =>
    have h := forceK_elim h
    refine sound_value h hd fun G σ' a w F ν ha hi => ⟨a.eval y, ?_, ?_⟩
    · have := hc w F ν (a.eval c) (ev_agree ha (by simp [ho, Op.operands]) (ev_rep hi c))
      simp [execOp, ho, this, asBool]
    · exact ev_agree ha (by simp [ho, Op.operands]) (ev_rep hi y)

theorem sound_not {t : TypeId} {x : Operand} (ho : o.op = .unOp .not t x) (hd : dstOk o.dst σ.N = true)
    (h : match ev σ x with
      | .p (.bl b) => (match b with | true => retK o.dst (.p (.bl false)) K | false => retK o.dst (.p (.bl true)) K)
      | .p (.val (.bool b)) => retK o.dst (vB (!b)) K
      | _ => False) : Sound P o σ K := by
  have key : ∀ b : Bool, (∀ w F ν v, RepV w F ν (ev σ x) v → v = .bool b) → ∀ y : AV, (∀ w F ν, RepV w F ν y (.bool (!b))) → K { dst := dstE o.dst y } → Sound P o σ K := by
    intro b hx y hy hK
    refine sound_value hK hd fun G σ' a w F ν ha hi => ⟨.bool (!b), ?_, hy _ _ _⟩
    have := hx w F ν (a.eval x) (ev_agree ha (by simp [ho, Op.operands]) (ev_rep hi x))
    simp [execOp, ho, this, Op.unary]
  split at h
  · rename_i b hx
    cases b
    · exact key false (fun w F ν v hv => by rw [hx] at hv; exact hv) (.p (.bl true)) (fun _ _ _ => rfl) h
    · exact key true (fun w F ν v hv => by rw [hx] at hv; exact hv) (.p (.bl false)) (fun _ _ _ => rfl) h
  · rename_i b hx
    exact key b (fun w F ν v hv => by rw [hx] at hv; exact hv) (vB (!b)) (fun _ _ _ => rfl) h
  · exact h.elim

theorem sound_extract {t : Operand} {i : Nat} (ho : o.op = .extract t i) (hd : dstOk o.dst σ.N = true)
    (h : match ev σ t with | .tup n f => (match Nat.blt i n with | true => forceK (f i) fun x => retK o.dst x K | false => False) | _ => False) : Sound P o σ K := by
  split at h
  · rename_i n f ht
    split at h
    · rename_i hlt
      have hlt : i < n := Nat.le_of_ble_eq_true hlt
      have h := forceK_elim h
      refine sound_value h hd fun G σ' a w F ν ha hi => ?_
      have hr := ev_agree ha (by simp [ho, Op.operands]) (ev_rep hi t)
      rw [ht] at hr
      obtain ⟨vs, hv, hs, hc⟩ := hr
      obtain ⟨u, hu, hru⟩ := hc i hlt
      exact ⟨u, by simp [execOp, ho, hv, Instr.extract, hu], hru⟩
    · exact h.elim
  · exact h.elim

theorem arg_rep {e : Eff} {σ' : St} {G : Gh} {a : Act} {w : World} {F : Nat → Prop} {ν : Nat → Option Value} (ha : AgreeOn o e σ σ') (hi : FInv G σ' a w F ν) {x : Operand}
    (hx : x ∈ o.op.operands.toList) : RepV w F ν (ev σ x) (a.eval x) := by
  exact ev_agree ha hx (ev_rep hi x)

theorem wrapO_eq (k : IntKind) (z : Int) : wrapO k z = k.wrap z := by unfold wrapO; rfl

theorem run_binop {op : BinOp} {ty yt : TypeId} {x y : Operand} (ho : o.op = .binOp op ty x y yt) {a : Act} {w : World} {A B V : Value} (hx : a.eval x = A) (hy : a.eval y = B)
    (hg : (eqGuard op ty x y A B).run P w = .ok () w) (hr : (binOp op ty A B).run P w = .ok V w) : (execOp a.eval o).run P w = .ok (.value V) w := by
  simp [execOp, ho, hx, hy, hg, hr]

theorem guard_int (op : BinOp) (ty : TypeId) (x y : Operand) (k k' : IntKind) (A B : Int) (w : World) : (eqGuard op ty x y (.int k A) (.int k' B)).run P w = .ok () w := by
  unfold eqGuard; split <;> simp
theorem guard_str (op : BinOp) (ty : TypeId) (x y : Operand) (A B : ByteArray) (w : World) : (eqGuard op ty x y (.string A) (.string B)).run P w = .ok () w := by
  unfold eqGuard; split <;> simp

theorem sound_binint {op : BinOp} {ty yt : TypeId} {x y : Operand} (ho : o.op = .binOp op ty x y yt) (hd : dstOk o.dst σ.N = true) {k : IntKind} {A B : Int}
    (hx : ev σ x = .p (.val (.int k A))) (hy : ev σ y = .p (.val (.int k B))) (h : intOpK op k A B o.dst K) : Sound P o σ K := by
  have mx : x ∈ o.op.operands.toList := by simp [ho, Op.operands]
  have my : y ∈ o.op.operands.toList := by simp [ho, Op.operands]
  have key : ∀ (V : Value), (∀ w, (binOp op ty (.int k A) (.int k B)).run P w = .ok V w) → K { dst := dstE o.dst (.p (.val V)) } → Sound P o σ K := by
    intro V hr hK
    refine sound_value hK hd fun G σ' a w F ν ha hi => ⟨V, ?_, rfl⟩
    have e1 := arg_rep ha hi mx
    have e2 := arg_rep ha hi my
    rw [hx] at e1; rw [hy] at e2
    exact run_binop ho e1 e2 (guard_int _ _ _ _ _ _ _ _ _) (hr w)
  cases op <;> simp only [intOpK] at h
  case add => exact key (.int k (k.wrap (A + B))) (fun w => by simp [binOp, Op.intArith]) (h _ (wrapO_eq _ _).symm)
  case sub => exact key (.int k (k.wrap (A - B))) (fun w => by simp [binOp, Op.intArith]) (h _ (wrapO_eq _ _).symm)
  case mul => exact key (.int k (k.wrap (A * B))) (fun w => by simp [binOp, Op.intArith]) (h _ (wrapO_eq _ _).symm)
  case eql => exact key (.bool (iEq A B)) (fun w => by simp [binOp, Op.intCmp, iEq]; rfl) h
  case neq => exact key (.bool (!iEq A B)) (fun w => by simp [binOp, Op.intCmp, iEq]; rfl) h
  case lss => exact key (.bool (iLt A B)) (fun w => by simp [binOp, Op.intCmp, iLt]) h
  case leq => exact key (.bool (iLe A B)) (fun w => by simp [binOp, Op.intCmp, iLe]) h
  case gtr => exact key (.bool (iLt B A)) (fun w => by simp [binOp, Op.intCmp, iLt]) h
  case geq => exact key (.bool (iLe B A)) (fun w => by simp [binOp, Op.intCmp, iLe]) h
  case quo => exact key (.int k (k.wrap (A.tdiv B))) (fun w => by simp [binOp, Op.intDiv, h.1]) (h.2 _ (wrapO_eq _ _).symm)
  case rem => exact key (.int k (A.tmod B)) (fun w => by simp [binOp, Op.intDiv, h.1]) (h.2 _ rfl)
  case and => exact key (.int k (bitO k .and A B)) (fun w => by simp [binOp, Op.intBits, bitO]) (h _ rfl)
  case or => exact key (.int k (bitO k .or A B)) (fun w => by simp [binOp, Op.intBits, bitO]) (h _ rfl)
  case xor => exact key (.int k (bitO k .xor A B)) (fun w => by simp [binOp, Op.intBits, bitO]) (h _ rfl)
  all_goals exact h.elim

theorem sound_shift {op : BinOp} {ty yt : TypeId} {x y : Operand} (ho : o.op = .binOp op ty x y yt) (hd : dstOk o.dst σ.N = true) {k k' : IntKind} {A B : Int}
    (hx : ev σ x = .p (.val (.int k A))) (hy : ev σ y = .p (.val (.int k' B))) (h : shiftK op k A B o.dst K) : Sound P o σ K := by
  have mx : x ∈ o.op.operands.toList := by simp [ho, Op.operands]
  have my : y ∈ o.op.operands.toList := by simp [ho, Op.operands]
  have key : ∀ (V : Value), (∀ w, (binOp op ty (.int k A) (.int k' B)).run P w = .ok V w) → K { dst := dstE o.dst (.p (.val V)) } → Sound P o σ K := by
    intro V hr hK
    refine sound_value hK hd fun G σ' a w F ν ha hi => ⟨V, ?_, rfl⟩
    have e1 := arg_rep ha hi mx
    have e2 := arg_rep ha hi my
    rw [hx] at e1; rw [hy] at e2
    exact run_binop ho e1 e2 (guard_int _ _ _ _ _ _ _ _ _) (hr w)
  cases op <;> simp only [shiftK] at h
  case shl => exact key (.int k (k.wrap (A * 2 ^ (min B.toNat k.bits)))) (fun w => by simp [binOp, Op.shift, show ¬ B < 0 from by omega]) (h.2 _ (wrapO_eq _ _).symm)
  case shr => exact key (.int k (A.fdiv (2 ^ (min B.toNat k.bits)))) (fun w => by simp [binOp, Op.shift, show ¬ B < 0 from by omega]) (h.2 _ rfl)
  all_goals exact h.elim

theorem run_eqnil {ty e : TypeId} (hu : P.underlying ty = some (.slice e)) (A : Option Addr) (n c : Nat) (w : World) :
    (binOp .eql ty (.slice A n c) (.slice none 0 0)).run P w = .ok (.bool A.isNone) w ∧ (binOp .neq ty (.slice A n c) (.slice none 0 0)).run P w = .ok (.bool (!A.isNone)) w := by
  have key : ∀ d, (Op.equalIn (d + 1) ty (.slice A n c) (.slice none 0 0)).run P w = .ok A.isNone w := by
    intro d
    cases A <;> simp [Op.equalIn, run_underlying hu]
  have he : (Op.equal ty (.slice A n c) (.slice none 0 0)).run P w = .ok A.isNone w := key 9999
  constructor
  · show (do pure (Value.bool (← Op.equal ty (.slice A n c) (.slice none 0 0))) : Sem Value).run P w = _
    simp only [Sem.run_bind, he, Result.andThen_ok, Sem.run_pure]
  · show (do pure (Value.bool (!(← Op.equal ty (.slice A n c) (.slice none 0 0)))) : Sem Value).run P w = _
    simp only [Sem.run_bind, he, Result.andThen_ok, Sem.run_pure]

theorem run_eqbool {ty : TypeId} (hu : P.underlying ty = some .bool) (A B : Bool) (w : World) :
    (binOp .eql ty (.bool A) (.bool B)).run P w = .ok (.bool (bEq A B)) w ∧ (binOp .neq ty (.bool A) (.bool B)).run P w = .ok (.bool (!bEq A B)) w := by
  have key : ∀ d, (Op.equalIn (d + 1) ty (.bool A) (.bool B)).run P w = .ok (bEq A B) w := by
    intro d
    cases A <;> cases B <;> simp [Op.equalIn, run_underlying hu, bEq]
  have he : (Op.equal ty (.bool A) (.bool B)).run P w = .ok (bEq A B) w := key 9999
  constructor
  · show (do pure (Value.bool (← Op.equal ty (.bool A) (.bool B))) : Sem Value).run P w = _
    simp only [Sem.run_bind, he, Result.andThen_ok, Sem.run_pure]
  · show (do pure (Value.bool (!(← Op.equal ty (.bool A) (.bool B)))) : Sem Value).run P w = _
    simp only [Sem.run_bind, he, Result.andThen_ok, Sem.run_pure]

theorem sound_binstr {op : BinOp} {ty yt : TypeId} {x y : Operand} (ho : o.op = .binOp op ty x y yt) (hd : dstOk o.dst σ.N = true) {A B : ByteArray}
    (hx : ev σ x = .p (.val (.string A))) (hy : ev σ y = .p (.val (.string B))) (h : strOpK op A B o.dst K) : Sound P o σ K := by
  have mx : x ∈ o.op.operands.toList := by simp [ho, Op.operands]
  have my : y ∈ o.op.operands.toList := by simp [ho, Op.operands]
  have key : ∀ (V : Value), (∀ w, (binOp op ty (.string A) (.string B)).run P w = .ok V w) → K { dst := dstE o.dst (.p (.val V)) } → Sound P o σ K := by
    intro V hr hK
    refine sound_value hK hd fun G σ' a w F ν ha hi => ⟨V, ?_, rfl⟩
    have e1 := arg_rep ha hi mx
    have e2 := arg_rep ha hi my
    rw [hx] at e1; rw [hy] at e2
    exact run_binop ho e1 e2 (guard_str _ _ _ _ _ _ _) (hr w)
  cases op <;> simp only [strOpK] at h
  case add =>
    refine key (.string (A ++ B)) (fun w => ?_) h.2
    have hm : IntKind.i64.max = 9223372036854775807 := by decide
    have : ¬ ((A.size + B.size : Nat) : Int) > IntKind.i64.max := by rw [hm]; omega
    simp only [binOp, Op.stringOp]
    rw [if_neg this]; rfl
  case eql => exact key (.bool (sEq A B)) (fun w => by simp [binOp, Op.stringOp, sEq_eq]) h
  case neq => exact key (.bool (!sEq A B)) (fun w => by simp [binOp, Op.stringOp, sEq_eq]) h
  case lss => exact key (.bool (sLt A B)) (fun w => by simp [binOp, Op.stringOp, sLt]) h
  case geq => exact key (.bool (!sLt A B)) (fun w => by simp [binOp, Op.stringOp, sLt]) h
  all_goals exact h.elim

theorem flat_cells (w : World) (F : Nat → Prop) : ∀ (l : List (Option IntKind)) (f g : Nat → PV) (xs ys : List Value) (r : Bool), flatEq l f g = some r →
    xs.length = l.length → ys.length = l.length → (∀ j, j < l.length → ∃ u, xs[j]? = some u ∧ RepP w F (f j) u) → (∀ j, j < l.length → ∃ u, ys[j]? = some u ∧ RepP w F (g j) u) →
    FlatCells l xs ∧ FlatCells l ys ∧ flatEqV xs ys = r
  | [], f, g, xs, ys, r, h, hx, hy, _, _ => by
    simp only [List.length_nil, List.length_eq_zero_iff] at hx hy
    subst hx hy
    simp [flatEq] at h
    subst h
    exact ⟨rfl, rfl, rfl⟩
  | some k :: l, f, g, xs, ys, r, h, hx, hy, cx, cy => by
    obtain ⟨x, xs, rfl⟩ : ∃ x m, xs = x :: m := by cases xs with | nil => simp at hx | cons x m => exact ⟨x, m, rfl⟩
    obtain ⟨y, ys, rfl⟩ : ∃ x m, ys = x :: m := by cases ys with | nil => simp at hy | cons x m => exact ⟨x, m, rfl⟩
    simp only [flatEq] at h
    split at h
    · rename_i k1 a k2 b r' e1 e2 e3
      obtain ⟨u, hu, ru⟩ := cx 0 (by simp)
      obtain ⟨v, hv, rv⟩ := cy 0 (by simp)
      simp at hu hv
      subst hu hv
      rw [e1] at ru; rw [e2] at rv
      change x = _ at ru; change y = _ at rv
      subst ru rv
      split at h
      case h_2 => cases h
      rename_i hkk
      rw [Bool.and_eq_true] at hkk
      have hk1 := kEq_eq hkk.1
      have hk2 := kEq_eq hkk.2
      subst hk1 hk2
      obtain ⟨q1, q2, q3⟩ := flat_cells w F l _ _ xs ys r' e3 (by simpa using hx) (by simpa using hy) (fun j hj => by simpa using cx (j + 1) (by simp; omega)) (fun j hj => by simpa using cy (j + 1) (by simp; omega))
      simp at h
      subst h
      exact ⟨⟨_, _, rfl, q1⟩, ⟨_, _, rfl, q2⟩, by simp [flatEqV, q3, iEq]⟩
    · cases h
  | none :: l, f, g, xs, ys, r, h, hx, hy, cx, cy => by
    obtain ⟨x, xs, rfl⟩ : ∃ x m, xs = x :: m := by cases xs with | nil => simp at hx | cons x m => exact ⟨x, m, rfl⟩
    obtain ⟨y, ys, rfl⟩ : ∃ x m, ys = x :: m := by cases ys with | nil => simp at hy | cons x m => exact ⟨x, m, rfl⟩
    simp only [flatEq] at h
    split at h
    · rename_i a b r' e1 e2 e3
      obtain ⟨u, hu, ru⟩ := cx 0 (by simp)
      obtain ⟨v, hv, rv⟩ := cy 0 (by simp)
      simp at hu hv
      subst hu hv
      rw [e1] at ru; rw [e2] at rv
      change x = _ at ru; change y = _ at rv
      subst ru rv
      obtain ⟨q1, q2, q3⟩ := flat_cells w F l _ _ xs ys r' e3 (by simpa using hx) (by simpa using hy) (fun j hj => by simpa using cx (j + 1) (by simp; omega)) (fun j hj => by simpa using cy (j + 1) (by simp; omega))
      simp at h
      subst h
      exact ⟨⟨_, _, rfl, q1⟩, ⟨_, _, rfl, q2⟩, by simp [flatEqV, q3, sEq]⟩
    · cases h
end ops
end Go.Av
