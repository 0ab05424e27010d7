/- The reckoner is right: calls, whole. -/
import Derived.Test.YtalpbdabeffnlaaGreatAvSound5
set_option linter.unusedVariables false
set_option linter.unusedSimpArgs false
namespace Go.Av
open Go Go.RowKit

theorem upds_append {α : Type} : ∀ (l m : List (Nat × α)) (f : Nat → α), upds f (l ++ m) = upds (upds f l) m
  | [], _, _ => rfl
  | (k, x) :: l, m, f => upds_append l m (upd f k x)
theorem memB_iff {b : Nat} : ∀ (l : List Nat), memB b l = true ↔ b ∈ l
  | [] => by simp [memB]
  | c :: l => by
    simp only [memB]
    split
    · rename_i h; simp [beq_yes h]
    · rename_i h; rw [memB_iff l]; have := beq_no h; simp [Ne.symm this]
theorem apartB_spec : ∀ (l m : List Nat), apartB l m = true → ∀ b, b ∈ l → b ∉ m
  | [], _, _, b, h => by simp at h
  | c :: l, m, h, b, hb => by
    simp only [apartB] at h
    split at h
    · cases h
    · rename_i hc
      rcases List.mem_cons.1 hb with rfl | hb
      · intro hm; rw [(memB_iff m).2 hm] at hc; cases hc
      · exact apartB_spec l m h b hb
theorem nodupB_spec : ∀ (N : List Nat), nodupB N = true → ∀ i j b, nth? N i = some b → nth? N j = some b → i = j
  | [], _, i, j, b, h, _ => by simp [nth?] at h
  | c :: N, h, i, j, b, h1, h2 => by
    simp only [nodupB] at h
    split at h
    · cases h
    · rename_i hc
      have hmem : ∀ k, nth? N k = some c → False := by
        intro k hk
        have : c ∈ N := by
          clear h hc h1 h2
          induction N generalizing k with
          | nil => simp [nth?] at hk
          | cons d N ih => cases k with
            | zero => simp [nth?] at hk; simp [hk]
            | succ k => exact List.mem_cons.2 (.inr (ih k hk))
        rw [(memB_iff N).2 this] at hc
        cases hc
      cases i with
      | zero => cases j with
        | zero => rfl
        | succ j => simp [nth?] at h1; subst h1; exact (hmem j h2).elim
      | succ i => cases j with
        | zero => simp [nth?] at h2; subst h2; exact (hmem i h1).elim
        | succ j => rw [nodupB_spec N h i j b h1 h2]
theorem nth_mem : ∀ (N : List Nat) (j b : Nat), nth? N j = some b → b ∈ N ∧ j < N.length
  | [], j, b, h => by simp [nth?] at h
  | c :: N, 0, b, h => by simp [nth?] at h; simp [h]
  | c :: N, j + 1, b, h => by obtain ⟨h1, h2⟩ := nth_mem N j b h; exact ⟨by simp [h1], by simpa using h2⟩
theorem mem_nth : ∀ (N : List Nat) (b : Nat), b ∈ N → ∃ j, nth? N j = some b
  | [], b, h => by simp at h
  | c :: N, b, h => by
    rcases List.mem_cons.1 h with rfl | h
    · exact ⟨0, rfl⟩
    · obtain ⟨j, hj⟩ := mem_nth N b h; exact ⟨j + 1, hj⟩
theorem rho_in : ∀ (N : List Nat) (nm j b : Nat), nth? N j = some b → rho N nm j = b
  | [], nm, j, b, h => by simp [nth?] at h
  | c :: N, nm, 0, b, h => by simp [nth?] at h; simp [rho, h]
  | c :: N, nm, j + 1, b, h => rho_in N nm j b h
theorem rho_out : ∀ (N : List Nat) (nm j : Nat), N.length ≤ j → rho N nm j = nm + (j - N.length)
  | [], nm, j, h => by simp [rho]
  | c :: N, nm, 0, h => by simp at h
  | c :: N, nm, j + 1, h => by
    have := rho_out N nm j (by simpa using h)
    simp only [rho, this, List.length_cons]
    omega
theorem nth_none : ∀ (N : List Nat) (j : Nat), nth? N j = none → N.length ≤ j
  | [], j, _ => by simp
  | c :: N, 0, h => by simp [nth?] at h
  | c :: N, j + 1, h => by simpa using nth_none N j h
theorem nth_lt : ∀ (N : List Nat) (j : Nat), j < N.length → ∃ b, nth? N j = some b
  | [], j, h => by simp at h
  | c :: N, 0, h => ⟨c, rfl⟩
  | c :: N, j + 1, h => nth_lt N j (by simpa using h)
theorem keys_mem : ∀ (n nm b : Nat), b ∈ keysFrom nm n ↔ nm ≤ b ∧ b < nm + n
  | 0, nm, b => by simp only [keysFrom, List.not_mem_nil, false_iff]; omega
  | n + 1, nm, b => by simp only [keysFrom, List.mem_cons, keys_mem n]; omega
theorem anyIn_spec (us : Nat → Bool) : ∀ (n nm : Nat), anyIn us nm n = false → ∀ b, nm ≤ b → b < nm + n → us b = false
  | 0, nm, _, b, h1, h2 => by omega
  | n + 1, nm, h, b, h1, h2 => by
    simp only [anyIn, Bool.or_eq_false_iff] at h
    by_cases hb : b = nm
    · subst hb; exact h.1
    · exact anyIn_spec us n (nm + 1) h.2 b (by omega) (by omega)
theorem upds_keys (us : Nat → Bool) : ∀ (n nm b : Nat), upds us ((keysFrom nm n).map (·, true)) b = if nm ≤ b ∧ b < nm + n then true else us b := by
  intro n
  induction n generalizing us with
  | zero => intro nm b; rw [if_neg (by omega)]; rfl
  | succ n ih =>
    intro nm b
    show upds (upd us nm true) ((keysFrom (nm + 1) n).map (·, true)) b = _
    rw [ih]
    by_cases h1 : nm + 1 ≤ b ∧ b < nm + 1 + n
    · rw [if_pos h1, if_pos (by omega)]
    · rw [if_neg h1]
      by_cases h2 : b = nm
      · subst h2; rw [upd_same, if_pos (by omega)]
      · rw [upd_other _ _ (Ne.symm h2), if_neg (by omega)]
theorem upds_lay (ρ : Nat → Nat) (M : Nat) (hinj : ∀ i j, i < M → j < M → ρ i = ρ j → i = j) : ∀ (obs : List (Option Blk)) (i : Nat) (η : Nat → Option Blk) (n : Nat), i + obs.length ≤ M →
    (∀ j, j < obs.length → ρ (i + j) = n → upds η (layFrom ρ i obs) n = renB ρ (enumB obs j)) ∧ ((∀ j, j < obs.length → ρ (i + j) ≠ n) → upds η (layFrom ρ i obs) n = η n)
  | [], i, η, n, _ => ⟨fun j h => absurd h (by simp), fun _ => rfl⟩
  | b :: obs, i, η, n, hM => by
    simp only [List.length_cons] at hM
    obtain ⟨h1, h2⟩ := upds_lay ρ M hinj obs (i + 1) (upd η (ρ i) (renB ρ b)) n (by omega)
    refine ⟨fun j hj hn => ?_, fun hn => ?_⟩
    · cases j with
      | zero =>
        show upds (upd η (ρ i) (renB ρ b)) (layFrom ρ (i + 1) obs) n = _
        rw [h2 fun j hj hj' => by have := hinj _ _ (by omega) (by omega) (hj'.trans hn.symm); omega]
        have : ρ i = n := hn
        rw [← this, upd_same]
        rfl
      | succ j =>
        show upds (upd η (ρ i) (renB ρ b)) (layFrom ρ (i + 1) obs) n = _
        rw [h1 j (by simpa using hj) (by rw [← hn]; congr 1; omega)]
        rfl
    · show upds (upd η (ρ i) (renB ρ b)) (layFrom ρ (i + 1) obs) n = _
      rw [h2 fun j hj hj' => hn (j + 1) (by simpa using hj) (by rw [← hj']; congr 1; omega)]
      exact upd_other _ _ fun e => hn 0 (by simp) e

theorem RepV.ren {w : World} {F : Nat → Prop} {ν ν2 : Nat → Option Value} {ρ : Nat → Nat} (h : ∀ j u, ν j = some u → ν2 (ρ j) = some u) : ∀ (x : AV) (v : Value), RepV w F ν x v → RepV w F ν2 (ren ρ x) v := by
  intro x
  induction x with
  | p a => exact fun v h => h
  | pt b i => rintro v ⟨g, h1, h2⟩; exact ⟨g, h _ _ h1, h2⟩
  | rpt b k i j => rintro v ⟨g, n, c, h1, h2⟩; exact ⟨g, n, c, h _ _ h1, h2⟩
  | ssl b k i => rintro v ⟨g, n, c, q, ad, h1, h2⟩; exact ⟨g, n, c, q, ad, h _ _ h1, h2⟩
  | psl b i => rintro v ⟨g, n, c, h1, h2⟩; exact ⟨g, n, c, h _ _ h1, h2⟩
  | sl b => exact fun v hv => h _ _ hv
  | fnc g l =>
    rintro v ⟨cs, rfl, hs, hc⟩
    refine ⟨cs, rfl, by simp [hs], fun j b hj => ?_⟩
    rw [List.getElem?_map] at hj
    cases hl : l[j]? with
    | none => simp [hl] at hj
    | some c => simp [hl] at hj; subst hj; obtain ⟨g', h1, h2⟩ := hc j c hl; exact ⟨g', h1, h _ _ h2⟩
  | tup n f ih => rintro v ⟨vs, rfl, hs, hc⟩; exact ⟨vs, rfl, hs, fun j hj => let ⟨u, h1, h2⟩ := hc j hj; ⟨u, h1, ih j u h2⟩⟩
  | ag n f ih => rintro v ⟨vs, rfl, hs, hc⟩; exact ⟨vs, rfl, hs, fun j hj => let ⟨u, h1, h0, h2⟩ := hc j hj; ⟨u, h1, h0, ih j u h2⟩⟩

theorem BlkRep.ren {w : World} {F : Nat → Prop} {ν ν2 : Nat → Option Value} {ρ : Nat → Nat} (h : ∀ j u, ν j = some u → ν2 (ρ j) = some u) {u : Value} {blk blk2 : Blk} (hb : BlkRep w F ν u blk) (he : renB ρ (some blk) = some blk2) : BlkRep w F ν2 u blk2 := by
  cases blk with
  | box ty cells =>
    simp only [renB] at he
    injection he with he
    subst he
    obtain ⟨g, cs, h1, h2, h3, h4⟩ := hb
    refine ⟨g, cs, h1, h2, by simp [h3], fun j x hj => ?_⟩
    rw [List.getElem?_map] at hj
    cases hl : cells[j]? with
    | none => simp [hl] at hj
    | some y => simp [hl] at hj; subst hj; obtain ⟨c, q1, q2, q3⟩ := h4 j y hl; exact ⟨c, q1, q2, RepV.ren h y c q3⟩
  | row e k n f =>
    simp only [renB] at he
    injection he with he
    subst he
    exact hb

theorem BlkRep.pure {w : World} {F F' : Nat → Prop} {ν ν2 : Nat → Option Value} {u : Value} {blk : Blk} (hp : pureBlk (some blk) = true) (hF : ∀ b, F b → F' b) (hb : BlkRep w F ν u blk) : BlkRep w F' ν2 u blk := by
  cases blk with
  | box ty cells =>
    obtain ⟨g, cs, h1, h2, h3, h4⟩ := hb
    refine ⟨g, cs, h1, h2, h3, fun j x hj => ?_⟩
    obtain ⟨c, q1, q2, q3⟩ := h4 j x hj
    simp only [pureBlk] at hp
    split at hp
    · rename_i l hl
      obtain ⟨_, hx⟩ := pcells_spec cells l hl
      have := hx j x hj
      subst this
      exact ⟨c, q1, q2, RepP.mono (fun _ _ => rfl) hF _ _ q3⟩
    · cases hp
  | row e k n f =>
    obtain ⟨xs, h1, h2⟩ := hb
    exact ⟨xs, h1, fun i j hi hj => let ⟨c, q1, q2, q3⟩ := h2 i j hi hj; ⟨c, q1, q2, RepP.mono (fun _ _ => rfl) hF _ _ q3⟩⟩

theorem enumB_lt {l : List (Option Blk)} {n : Nat} {b : Blk} (h : enumB l n = some b) : n < l.length := by
  rcases Nat.lt_or_ge n l.length with h1 | h1
  · exact h1
  · unfold enumB at h; rw [at_out _ _ _ h1] at h; cases h

section
variable {P : Program} {T : Nat → Option TI} {o : Oper} {σ : St} {K : Eff → Prop}

theorem run_call {c : Call} {f : Operand} {g : FuncId} {caps : Array Value} (ho : o.op = .call c) (hc : c.callee = .value f) (hE : Ent P g) {a : Act} (hf : a.eval f = .func (.func g) #[] caps) (w : World) :
    (execOp a.eval o).run P w = .ok (.enter g (c.args.map a.eval ++ caps)) w := by
  simp [execOp, ho, resolve, hc, hf, Deferred.ofValue, invoke, hE _ w]

theorem sound_call {c : Call} {f : Operand} {nm : Nat} (ho : o.op = .call c) (hc : c.callee = .value f) (hd : dstOk o.dst σ.N = true) {xs : List AV} {g : FuncId}
    (hxs : ∀ (G : Gh) (σ' : St) (a : Act) (w : World) (F : Nat → Prop) (ν : Nat → Option Value) (e : Eff), AgreeOn o e σ σ' → FInv G σ' a w F ν →
      ∃ caps, a.eval f = .func (.func g) #[] caps ∧ (c.args.map a.eval ++ caps).size = xs.length ∧ ∀ (j : Nat) (x : AV) (v : Value), xs[j]? = some x → (c.args.map a.eval ++ caps)[j]? = some v → RepV w F ν x v)
    (h : CallK P nm g xs σ o.dst K) : Sound P o σ K := by
  cases h with
  | lent hG hv k =>
    rename_i ys ns u
    refine ⟨_, k, by cases o.dst <;> rfl, fun d y h => by cases hq : o.dst with | none => simp [dstE, hq] at h | some t => simp [dstE, hq] at h; simp [h.1], by simp, by simp, ?_⟩
    intro G σ' a w Kk Q ha ⟨hdef, hN, F, ν, hi⟩ hK'
    obtain ⟨caps, hf, hsz, hargs⟩ := hxs G σ' a w F ν _ ha hi
    have hv' := argsOf_agree xs ys ns hv fun b hb => ha.η b hb
    obtain ⟨q1, q2⟩ := argsOf_rep (F' := fun b => F b ∨ Base ν σ'.η ns b) (νc := fun _ => none) hi.heap (fun _ => .inl) (fun j b u hj => by simp [nth?] at hj) xs ys ns hv' (fun _ => .inr)
    have hfb : ∀ b, (F b ∨ Base ν σ'.η ns b) → b < w.heap.size := by
      rintro b (hb | hb)
      · exact hi.heap.fb b hb
      · obtain ⟨n, bn, u', _, h1, h2, h3⟩ := hb
        obtain ⟨u'', hu', hr⟩ := hi.heap.rep n bn h1
        rw [h2] at hu'; injection hu' with hu'; subst hu'
        exact blk_lt hr h3
    unfold Oper.wp
    rw [run_call ho hc hG.1 hf w, Oper.upon_enter]
    have hcall := hG.2 w (fun b => F b ∨ Base ν σ'.η ns b) (fun _ => none) (c.args.map a.eval ++ caps).toList ⟨hfb, fun n bn hn => by simp [enumB, at_] at hn, fun n m bn bm u u' g' hn => by simp [enumB, at_] at hn, fun n bn u g' hn => by simp [enumB, at_] at hn⟩
      (fun _ _ => rfl) (by rw [q1]; simpa using hsz) (fun i y v hy hvv => by
        obtain ⟨x, hx, hr⟩ := q2 i y hy
        exact hr v (hargs i x v hx (by rw [← Array.getElem?_toList]; exact hvv)))
    rw [Array.toArray_toList] at hcall
    refine hcall.mono ?_
    rintro e w' ⟨v, F', ν', rfl, hres, hh, hext, _, _, _, _, _, hdr⟩
    have hres : v = u := hres
    subst hres
    have hold : ∀ b, b < w.heap.size → w'.heap[b]? = w.heap[b]? := fun b hb => hext.blk b hb (by rintro ⟨n, bn, u, h1, _⟩; simp [enumB, at_] at h1)
    have hF : ∀ b, F b → w'.heap[b]? = w.heap[b]? := fun b hb => hold b (hi.heap.fb b hb)
    refine hK' _ _ ⟨⟨by rw [defers_put]; exact hdef.1, Nat.le_trans hdef.2 hdr⟩, by rw [size_put, N_app]; exact hN, F, ν, ?_⟩
    refine FInv.put (σ := σ') (rd := ns) (d := o.dst) ⟨⟨fun b hb => Nat.lt_of_lt_of_le (hi.heap.fb b hb) hext.size, fun n bn hn => ?_, hi.heap.sep, hi.heap.out⟩, fun t => RepV.mono hF (fun _ => id) (fun _ _ => id) _ _ (hi.tmps t), hi.names,
      ⟨Nat.le_trans hi.ext.size hext.size, fun b hb hS => (hold b (Nat.lt_of_lt_of_le hb hi.ext.size)).trans (hi.ext.blk b hb hS), hext.os.trans hi.ext.os, hext.tape.trans hi.ext.tape, hext.output.trans hi.ext.output⟩, hi.same, hi.owns, hi.fl, hi.fr, hi.used⟩ hN (by rw [ha.N]; exact hd) (show RepV w' F ν (.p (.val v)) v from rfl)
    obtain ⟨u', hu', hr⟩ := hi.heap.rep n bn hn
    exact ⟨u', hu', hr.mono hF (fun _ => id) (fun _ _ => id) fun g' hg' => hold g' (blk_lt hr hg')⟩
  | go N hG hv hb hn hl hf k =>
    rename_i ys ns bs res obs
    rw [Bool.and_eq_true] at hn
    have hl : N.length ≤ obs.length := Nat.le_of_ble_eq_true hl
    have hmemN : ∀ b u, (b, u) ∈ layFrom (rho N nm) 0 obs → ∃ j, j < obs.length ∧ b = rho N nm j := by
      have : ∀ (l : List (Option Blk)) i b u, (b, u) ∈ layFrom (rho N nm) i l → ∃ j, j < l.length ∧ b = rho N nm (i + j) := by
        intro l
        induction l with
        | nil => intro i b u h; simp [layFrom] at h
        | cons y l ih =>
          intro i b u h
          simp only [layFrom, List.mem_cons, Prod.mk.injEq] at h
          rcases h with ⟨h, _⟩ | h
          · exact ⟨0, by simp, by simpa using h⟩
          · obtain ⟨j, h1, h2⟩ := ih (i + 1) b u h
            exact ⟨j + 1, by simpa using h1, by rw [h2]; congr 1; omega⟩
      intro b u h
      simpa using this obs 0 b u h
    refine ⟨_, k, by cases o.dst <;> rfl, fun d y h => by cases hq : o.dst with | none => simp [dstE, hq] at h | some t => simp [dstE, hq] at h; simp [h.1], ?_, ?_, ?_⟩
    · intro b hb'
      obtain ⟨h1, h2⟩ := (keys_mem _ _ _).1 hb'
      exact anyIn_spec _ _ _ hf b h1 h2
    · intro b u hbu
      rcases List.mem_append.1 hbu with h1 | h1
      · exact .inl (List.mem_append.2 (.inr (mem_frees ns h1)))
      · obtain ⟨j, hj, rfl⟩ := hmemN b u h1
        rcases Nat.lt_or_ge j N.length with h2 | h2
        · obtain ⟨b', hb'⟩ := nth_lt N j h2
          rw [rho_in N nm j b' hb']
          exact .inl (List.mem_append.2 (.inl (nth_mem N j b' hb').1))
        · rw [rho_out N nm j h2]
          exact .inr ((keys_mem _ _ _).2 ⟨by omega, by omega⟩)
    · intro G σ' a w Kk Q ha ⟨hdef, hN, F, ν, hi⟩ hK'
      obtain ⟨caps, hfv, hsz, hargs⟩ := hxs G σ' a w F ν _ ha hi
      have hagN : ∀ b, b ∈ N → σ'.η b = σ.η b := fun b hb' => ha.η b (List.mem_append.2 (.inl hb'))
      have hagns : ∀ b, b ∈ ns → σ'.η b = σ.η b := fun b hb' => ha.η b (List.mem_append.2 (.inr hb'))
      have husnm : ∀ b, nm ≤ b → b < nm + (obs.length - N.length) → σ'.us b = false := fun b h1 h2 => ha.us b ((keys_mem _ _ _).2 ⟨h1, h2⟩)
      have hv' := argsOf_agree xs ys ns hv hagns
      obtain ⟨hbl, hb', hbs⟩ := blksOf_spec N bs hb hagN
      have hnd := nodupB_spec N hn.1
      have hap := apartB_spec N ns hn.2
      let Fc : Nat → Prop := fun b => F b ∨ Base ν σ'.η ns b
      let νc : Nat → Option Value := fun j => match nth? N j with | some b => ν b | none => none
      have hνc : ∀ j b, nth? N j = some b → νc j = ν b := fun j b hj => by simp only [νc, hj]
      obtain ⟨q1, q2⟩ := argsOf_rep (F' := Fc) (νc := νc) hi.heap (fun _ => .inl) (fun j b u hj hu => by rw [hνc j b hj]; exact hu) xs ys ns hv' (fun _ => .inr)
      have hblt : ∀ n bn u g', σ'.η n = some bn → ν n = some u → baseOf u = some g' → g' < w.heap.size := by
        intro n bn u g' h1 h2 h3
        obtain ⟨u'', hu', hr⟩ := hi.heap.rep n bn h1
        rw [h2] at hu'; injection hu' with hu'; subst hu'
        exact blk_lt hr h3
      have hfb : ∀ b, Fc b → b < w.heap.size := by
        rintro b (hb | ⟨n, bn, u', _, h1, h2, h3⟩)
        · exact hi.heap.fb b hb
        · exact hblt n bn u' b h1 h2 h3
      -- the blocks handed in
      have hin : ∀ j bn, enumB bs j = some bn → ∃ b, nth? N j = some b ∧ σ'.η b = some bn ∧ pureBlk (some bn) = true := by
        intro j bn hj
        have hlt : j < N.length := by rw [← hbl]; exact enumB_lt hj
        obtain ⟨b, hb⟩ := nth_lt N j hlt
        obtain ⟨h1, h2, _⟩ := hbs j b hb
        rw [hj] at h1
        exact ⟨b, hb, (hagN b (nth_mem N j b hb).1).trans h1.symm, by rw [← h1] at h2; exact h2⟩
      have hHc : HInv w Fc νc (enumB bs) := by
        refine ⟨hfb, fun j bn hj => ?_, fun i j bi bj u u' g' hi' hj' h1 h2 h3 h4 => ?_, fun j bn u g' hj h1 h2 => ?_⟩
        · obtain ⟨b, hb, h1, h2⟩ := hin j bn hj
          obtain ⟨u, hu, hr⟩ := hi.heap.rep b bn h1
          exact ⟨u, by rw [hνc j b hb]; exact hu, hr.pure h2 fun _ => .inl⟩
        · obtain ⟨b, hb, a1, a2⟩ := hin i bi hi'
          obtain ⟨c', hc', c1, c2⟩ := hin j bj hj'
          rw [hνc i b hb] at h1; rw [hνc j c' hc'] at h2
          have := hi.heap.sep b c' bi bj u u' g' a1 c1 h1 h2 h3 h4
          subst this
          exact hnd i j b hb hc'
        · obtain ⟨b, hb, a1, a2⟩ := hin j bn hj
          rw [hνc j b hb] at h1
          rintro (hF | ⟨n, bn', u', hn', c1, c2, c3⟩)
          · exact hi.heap.out b bn u g' a1 h1 h2 hF
          · have := hi.heap.sep b n bn bn' u u' g' a1 c1 h1 c2 h2 c3
            subst this
            exact hap b (nth_mem N j b hb).1 hn'
      unfold Oper.wp
      rw [run_call ho hc hG.1 hfv w, Oper.upon_enter]
      have hcall := hG.2 w Fc νc (c.args.map a.eval ++ caps).toList hHc (fun n hn' => by
          simp only [νc]
          split
          · rename_i b hb; have := (nth_mem N n b hb).2; omega
          · rfl) (by rw [q1]; simpa using hsz) (fun i y v hy hvv => by
          obtain ⟨x, hx, hr⟩ := q2 i y hy
          exact hr v (hargs i x v hx (by rw [← Array.getElem?_toList]; exact hvv)))
      rw [Array.toArray_toList] at hcall
      refine hcall.mono ?_
      rintro e w' ⟨v, F', ν', rfl, hres, hh, hext, hkeep, hnone, hown, hFl, hFr, hdr⟩
      -- the blocks that the callee may have written
      have hS : ∀ g', Owns νc (enumB bs) g' ↔ ∃ b bn u, b ∈ N ∧ σ'.η b = some bn ∧ ν b = some u ∧ baseOf u = some g' := by
        intro g'
        constructor
        · rintro ⟨j, bn, u, h1, h2, h3⟩
          obtain ⟨b, hb, a1, a2⟩ := hin j bn h1
          rw [hνc j b hb] at h2
          exact ⟨b, bn, u, (nth_mem N j b hb).1, a1, h2, h3⟩
        · rintro ⟨b, bn, u, h1, h2, h3, h4⟩
          obtain ⟨j, hj⟩ := mem_nth N b h1
          refine ⟨j, bn, u, ?_, by rw [hνc j b hj]; exact h3, h4⟩
          rw [(hbs j b hj).1, ← hagN b h1]; exact h2
      have hold : ∀ b, b < w.heap.size → ¬ Owns νc (enumB bs) b → w'.heap[b]? = w.heap[b]? := hext.blk
      have hFold : ∀ b, F b → w'.heap[b]? = w.heap[b]? := by
        intro b hb
        refine hold b (hi.heap.fb b hb) fun hc' => ?_
        obtain ⟨n, bn, u, _, h2, h3, h4⟩ := (hS b).1 hc'
        exact hi.heap.out n bn u b h2 h3 h4 hb
      let ρ := rho N nm
      have hinN : ∀ j b, nth? N j = some b → ρ j = b := fun j b hj => rho_in N nm j b hj
      have hNus : ∀ b, b ∈ N → ∀ u, ν b = some u → ¬ (nm ≤ b ∧ b < nm + (obs.length - N.length)) := by
        intro b hb u hu hr
        have := hi.names b (husnm b hr.1 hr.2)
        rw [this] at hu; cases hu
      let ν2 : Nat → Option Value := fun n => if nm ≤ n ∧ n < nm + (obs.length - N.length) then ν' (n - nm + N.length) else ν n
      have hν2 : ∀ b u, ν b = some u → ν2 b = some u := by
        intro b u hu
        show (if _ then _ else _) = _
        rw [if_neg]
        · exact hu
        · intro hr
          have := hi.names b (husnm b hr.1 hr.2)
          rw [this] at hu; cases hu
      have hρ2 : ∀ j u, ν' j = some u → ν2 (ρ j) = some u := by
        intro j u hu
        have hjl : j < obs.length := by
          rcases Nat.lt_or_ge j obs.length with h1 | h1
          · exact h1
          · rw [hnone j h1] at hu; cases hu
        rcases Nat.lt_or_ge j N.length with h1 | h1
        · obtain ⟨b, hb⟩ := nth_lt N j h1
          rw [hkeep j (by omega), hνc j b hb] at hu
          show ν2 (rho N nm j) = _
          rw [rho_in N nm j b hb]
          exact hν2 b u hu
        · show ν2 (rho N nm j) = _
          rw [rho_out N nm j h1]
          show (if _ then _ else _) = _
          rw [if_pos (by omega), show nm + (j - N.length) - nm + N.length = j from by omega]
          exact hu
      have hrng : ∀ j b, nth? N j = some b → ¬ (nm ≤ b ∧ b < nm + (obs.length - N.length)) := by
        intro j b hb hr
        obtain ⟨_, _, blk, hblk⟩ := hbs j b hb
        have hbN := (nth_mem N j b hb).1
        obtain ⟨u, hu, _⟩ := hi.heap.rep b blk ((hagN b hbN).trans hblk)
        exact hNus b hbN u hu hr
      have hinj : ∀ i j, i < obs.length → j < obs.length → ρ i = ρ j → i = j := by
        intro i j hi' hj' he
        change rho N nm i = rho N nm j at he
        rcases Nat.lt_or_ge i N.length with h1 | h1
        · obtain ⟨b, hb⟩ := nth_lt N i h1
          rw [rho_in N nm i b hb] at he
          rcases Nat.lt_or_ge j N.length with h2 | h2
          · obtain ⟨c', hc'⟩ := nth_lt N j h2
            rw [rho_in N nm j c' hc'] at he
            subst he
            exact hnd i j b hb hc'
          · rw [rho_out N nm j h2] at he
            exact (hrng i b hb (by omega)).elim
        · rw [rho_out N nm i h1] at he
          rcases Nat.lt_or_ge j N.length with h2 | h2
          · obtain ⟨c', hc'⟩ := nth_lt N j h2
            rw [rho_in N nm j c' hc'] at he
            exact (hrng j c' hc' (by omega)).elim
          · rw [rho_out N nm j h2] at he
            omega
      have hη2 : ∀ n bn, upds (upds σ'.η (frees ns)) (layFrom ρ 0 obs) n = some bn →
          (∃ j bj u, j < obs.length ∧ n = ρ j ∧ enumB obs j = some bj ∧ renB ρ (some bj) = some bn ∧ ν' j = some u ∧ ν2 n = some u ∧ BlkRep w' F' ν' u bj) ∨
          (n ∉ N ∧ n ∉ ns ∧ σ'.η n = some bn) := by
        intro n bn hn'
        obtain ⟨h1, h2⟩ := upds_lay ρ obs.length hinj obs 0 (upds σ'.η (frees ns)) n (by omega)
        by_cases hex : ∃ j, j < obs.length ∧ ρ j = n
        · obtain ⟨j, hj, hjn⟩ := hex
          have he := h1 j hj (by simpa using hjn)
          rw [hn'] at he
          cases hob : enumB obs j with
          | none => rw [hob] at he; cases he
          | some bj =>
            rw [hob] at he
            obtain ⟨u, hu, hr⟩ := hh.rep j bj hob
            exact .inl ⟨j, bj, u, hj, hjn.symm, hob, he.symm, hu, by rw [← hjn]; exact hρ2 j u hu, hr⟩
        · have hno : ∀ j, j < obs.length → ρ (0 + j) ≠ n := fun j hj e => hex ⟨j, hj, by simpa using e⟩
          rw [h2 hno, upds_frees] at hn'
          split at hn'
          · cases hn'
          · rename_i hns
            refine .inr ⟨fun hN' => ?_, hns, hn'⟩
            obtain ⟨j, hj⟩ := mem_nth N n hN'
            exact hex ⟨j, by have := (nth_mem N j n hj).2; omega, hinN j n hj⟩
      -- a name that stays as it was
      have hB : ∀ n bn u g', n ∉ N → σ'.η n = some bn → ν2 n = some u → baseOf u = some g' → ν n = some u ∧ g' < w.heap.size ∧ ¬ Owns νc (enumB bs) g' := by
        intro n bn u g' hnN h1 h2 h3
        obtain ⟨u0, hu0, hr⟩ := hi.heap.rep n bn h1
        have := hν2 n u0 hu0
        rw [h2] at this
        injection this with this
        subst this
        refine ⟨hu0, blk_lt hr h3, fun ho' => ?_⟩
        obtain ⟨b, bb, ub, c1, c2, c3, c4⟩ := (hS g').1 ho'
        exact hnN (hi.heap.sep n b bn bb u ub g' h1 c2 hu0 c3 h3 c4 ▸ c1)
      have husb : ∀ b, upds σ'.us ((keysFrom nm (obs.length - N.length)).map (·, true)) b = false → ¬ (nm ≤ b ∧ b < nm + (obs.length - N.length)) ∧ σ'.us b = false := by
        intro b hb
        rw [upds_keys] at hb
        split at hb
        · cases hb
        · exact ⟨by assumption, hb⟩
      have hmain : FInv G { σ' with η := upds (upds σ'.η (frees ns)) (layFrom ρ 0 obs), us := upds σ'.us ((keysFrom nm (obs.length - N.length)).map (·, true)) } a w' F' ν2 := by
        refine ⟨⟨hh.fb, ?_, ?_, ?_⟩, fun t => RepV.mono hFold (fun b hb => hFl b (.inl hb)) hν2 _ _ (hi.tmps t), ?_, ⟨Nat.le_trans hi.ext.size hext.size, ?_, hext.os.trans hi.ext.os, hext.tape.trans hi.ext.tape, hext.output.trans hi.ext.output⟩, ?_, ?_, fun b hb => hFl b (.inl (hi.fl b hb)), ?_, ?_⟩
        · intro n bn hn'
          rcases hη2 n bn hn' with ⟨j, bj, u, hj, hjn, hob, hren, hu, hu2, hr⟩ | ⟨hnN, hnns, hold'⟩
          · exact ⟨u, hu2, hr.ren hρ2 hren⟩
          · obtain ⟨u, hu, hr⟩ := hi.heap.rep n bn hold'
            exact ⟨u, hν2 n u hu, hr.mono hFold (fun b hb => hFl b (.inl hb)) hν2 fun g' hg' => let ⟨_, h1, h2⟩ := hB n bn u g' hnN hold' (hν2 n u hu) hg'; hold g' h1 h2⟩
        · intro n m bn bm u u' g' hn' hm' h1 h2 h3 h4
          rcases hη2 n bn hn' with ⟨i, bi, ui, hi1, hi2, hi3, hi4, hi5, hi6, hi7⟩ | ⟨hnN, hnns, hold'⟩
          · rw [h1] at hi6; injection hi6 with hi6; subst hi6
            rcases hη2 m bm hm' with ⟨j, bj, uj, hj1, hj2, hj3, hj4, hj5, hj6, hj7⟩ | ⟨hmN, hmns, hold''⟩
            · rw [h2] at hj6; injection hj6 with hj6; subst hj6
              have := hh.sep i j bi bj u u' g' hi3 hj3 hi5 hj5 h3 h4
              subst this
              rw [hi2, hj2]
            · obtain ⟨c1, c2, c3⟩ := hB m bm u' g' hmN hold'' h2 h4
              rcases hown g' ⟨i, bi, u, hi3, hi5, h3⟩ with h5 | h5
              · exact (c3 h5).elim
              · omega
          · obtain ⟨a1, a2, a3⟩ := hB n bn u g' hnN hold' h1 h3
            rcases hη2 m bm hm' with ⟨j, bj, uj, hj1, hj2, hj3, hj4, hj5, hj6, hj7⟩ | ⟨hmN, hmns, hold''⟩
            · rw [h2] at hj6; injection hj6 with hj6; subst hj6
              rcases hown g' ⟨j, bj, u', hj3, hj5, h4⟩ with h5 | h5
              · exact (a3 h5).elim
              · omega
            · obtain ⟨c1, c2, c3⟩ := hB m bm u' g' hmN hold'' h2 h4
              exact hi.heap.sep n m bn bm u u' g' hold' hold'' a1 c1 h3 h4
        · intro n bn u g' hn' h1 h2 hF'
          rcases hη2 n bn hn' with ⟨i, bi, ui, hi1, hi2, hi3, hi4, hi5, hi6, hi7⟩ | ⟨hnN, hnns, hold'⟩
          · rw [h1] at hi6; injection hi6 with hi6; subst hi6
            exact hh.out i bi u g' hi3 hi5 h2 hF'
          · obtain ⟨a1, a2, a3⟩ := hB n bn u g' hnN hold' h1 h2
            rcases hFr g' hF' with (h3 | ⟨m, bm, um, hm, c1, c2, c3⟩) | h3 | h3
            · exact hi.heap.out n bn u g' hold' a1 h2 h3
            · exact hnns (hi.heap.sep n m bn bm u um g' hold' c1 a1 c2 h2 c3 ▸ hm)
            · exact a3 h3
            · omega
        · intro b hb
          obtain ⟨h1, h2⟩ := husb b hb
          show (if _ then _ else _) = _
          rw [if_neg h1]
          exact hi.names b h2
        · intro b hb hSb
          rw [hold b (Nat.lt_of_lt_of_le hb hi.ext.size) ?_]
          · exact hi.ext.blk b hb hSb
          · intro ho'
            obtain ⟨n, bn, u, _, c2, c3, c4⟩ := (hS b).1 ho'
            rcases hi.owns b ⟨n, bn, u, c2, c3, c4⟩ with h1 | h1
            · exact hSb h1
            · omega
        · intro n hn'
          show (if _ then _ else _) = _
          rw [if_neg]
          · exact hi.same n hn'
          · intro hr
            have := husnm n hr.1 hr.2
            rw [hi.used n hn'] at this; cases this
        · rintro g' ⟨n, bn, u, hn', h1, h2⟩
          rcases hη2 n bn hn' with ⟨i, bi, ui, hi1, hi2, hi3, hi4, hi5, hi6, hi7⟩ | ⟨hnN, hnns, hold'⟩
          · rw [h1] at hi6; injection hi6 with hi6; subst hi6
            rcases hown g' ⟨i, bi, u, hi3, hi5, h2⟩ with h5 | h5
            · obtain ⟨b, bb, ub, _, c2, c3, c4⟩ := (hS g').1 h5
              exact hi.owns g' ⟨b, bb, ub, c2, c3, c4⟩
            · exact .inr (Nat.le_trans hi.ext.size h5)
          · exact hi.owns g' ⟨n, bn, u, hold', (hB n bn u g' hnN hold' h1 h2).1, h2⟩
        · intro b hb
          rcases hFr b hb with (h3 | h3) | h3 | h3
          · exact hi.fr b h3
          · exact .inr (hi.owns b h3.owns)
          · obtain ⟨n, bn, u, _, c2, c3, c4⟩ := (hS b).1 h3
            exact .inr (hi.owns b ⟨n, bn, u, c2, c3, c4⟩)
          · exact .inr (.inr (Nat.le_trans hi.ext.size h3))
        · intro n hn'
          show upds _ _ _ = true
          rw [upds_keys]
          split
          · rfl
          · exact hi.used n hn'
      refine hK' _ _ ⟨⟨by rw [defers_put]; exact hdef.1, Nat.le_trans hdef.2 hdr⟩, by rw [size_put, N_app]; exact hN, F', ν2, ?_⟩
      have := FInv.put (d := o.dst) hmain hN (by show dstOk o.dst σ'.N = true; rw [ha.N]; exact hd) (RepV.ren hρ2 res v hres) []
      have hst : (σ'.app { dst := dstE o.dst (Av.ren (rho N nm) res), ups := frees ns ++ layFrom (rho N nm) 0 obs, rd := N ++ ns, nw := keysFrom nm (obs.length - N.length) }) =
          ({ σ' with η := upds (upds σ'.η (frees ns)) (layFrom ρ 0 obs), us := upds σ'.us ((keysFrom nm (obs.length - N.length)).map (·, true)) } : St).app { dst := dstE o.dst (Av.ren ρ res), rd := [] } := by
        unfold St.app
        simp only [upds_append]
        rfl
      rw [hst]
      exact this
end
end Go.Av
