/- Arguments opened: from what a row reads of memory to pure values. -/
import Derived.Test.YtalpbdabeffnlaaGreatAvAid
import Derived.ProofKit
import Derived.HandedShaped
import Derived.SizedLaws
import Derived.ChangeArms
set_option linter.unusedVariables false
set_option linter.unusedSimpArgs false
namespace Go.Av
open Go Go.RowKit

/-- The blocks that were there. -/
def Old (w : World) (b : Nat) : Prop := b < w.heap.size
/-- Cells that stand for pure values, one by one. -/
def CellsAre (w : World) (cs : List Value) (l : List PV) : Prop :=
  l.length = cs.length ∧ ∀ (j : Nat) (u : Value), cs[j]? = some u → u.oneCell' = true ∧ RepP w (Old w) (at_ .any l j) u
/-- What a row reads at a type is told by a thing of 'X'. -/
def Opens (P : Program) (t : TypeId) (X : Type) (E : X → List PV) (ok : X → Prop) : Prop :=
  ∀ (H : Type) (enc : TypeId × Value → H) (w : World) (fuel : Nat) (cs : List Value) (d : DataW H) (ps : List MemPlace),
    DataW.trod enc P w 0 (fun _ => true) true fuel t cs = some (d, ps) → (∀ n, n ∈ d.weights P t → n ≤ reachBytes) → ∃ x, ok x ∧ CellsAre w cs (E x)
/-- Told otherwise. -/
theorem Opens.as {P : Program} {t : TypeId} {X Y : Type} {E : X → List PV} {ok : X → Prop} {E' : Y → List PV} {ok' : Y → Prop} (h : Opens P t X E ok) (hk : ∀ x, ok x → ∃ y, ok' y ∧ PLes (E x) (E' y)) : Opens P t Y E' ok' := by
  intro H enc w fuel cs d ps h1 h2
  obtain ⟨x, hx, c1, c2⟩ := h H enc w fuel cs d ps h1 h2
  obtain ⟨y, hy, hle⟩ := hk x hx
  obtain ⟨e1, e2⟩ := PLes.spec _ _ hle
  exact ⟨y, hy, by rw [← e1]; exact c1, fun j u hu => ⟨(c2 j u hu).1, e2 j _ _ _ (c2 j u hu).2⟩⟩

theorem opens_int {P : Program} {t : TypeId} {k : IntKind} (ht : P.underlying t = some (.int k)) : Opens P t Int (fun n => [.val (.int k n)]) fun n => (Lit.int k n).wf = true := by
  intro H enc w fuel cs d ps h1 h2
  obtain ⟨n, rfl, _, hw⟩ := DataW.trod_int ht h1
  refine ⟨n, hw, rfl, fun j u hu => ?_⟩
  cases j with
  | zero => simp at hu; subst hu; exact ⟨rfl, rfl⟩
  | succ j => simp at hu
theorem opens_bool {P : Program} {t : TypeId} (ht : P.underlying t = some .bool) : Opens P t Bool (fun b => [.val (.bool b)]) fun _ => True := by
  intro H enc w fuel cs d ps h1 h2
  obtain ⟨b, rfl, _⟩ := DataW.trod_bool ht h1
  refine ⟨b, trivial, rfl, fun j u hu => ?_⟩
  cases j with
  | zero => simp at hu; subst hu; exact ⟨rfl, rfl⟩
  | succ j => simp at hu
theorem opens_str {P : Program} {t : TypeId} (ht : P.underlying t = some .string) : Opens P t ByteArray (fun s => [.val (.string s)]) fun s => s.size ≤ maxLen := by
  intro H enc w fuel cs d ps h1 h2
  obtain ⟨n, rfl, _, hw⟩ := DataW.trod_string ht h1
  refine ⟨n, hw, rfl, fun j u hu => ?_⟩
  cases j with
  | zero => simp at hu; subst hu; exact ⟨rfl, rfl⟩
  | succ j => simp at hu

theorem cells_get {w : World} {b : Nat} {a : Addr} {n : Nat} {cs : List Value} (h : w.cells? b a n = some cs) : cs.length = n ∧ ∀ j, j < n → ∃ u, cs[j]? = some u ∧ w.cell? (a.add j) = some u := by
  unfold World.cells? at h
  split at h
  · refine ⟨by simpa using mapM_some_length h, fun j hj => ?_⟩
    have := mapM_some_get h j j (by simp [hj])
    have hl : j < cs.length := by rw [show cs.length = n by simpa using mapM_some_length h]; exact hj
    exact ⟨cs[j], List.getElem?_eq_getElem hl, by rw [this]; exact List.getElem?_eq_getElem hl⟩
  · cases h

theorem addr_add (a : Addr) (i j : Nat) : (a.add i).add j = a.add (i + j) := by
  by_cases hi : i = 0
  · subst hi; simp [Addr.add]
  · by_cases hj : j = 0
    · subst hj; simp [Addr.add]
    · simp [Addr.add, hi, hj, Nat.add_assoc]
theorem cell_old {w : World} {a : Addr} {u : Value} (h : w.cell? a = some u) : Old w a.block := by
  unfold World.cell? at h
  unfold Old
  rcases Nat.lt_or_ge a.block w.heap.size with hlt | hge
  · exact hlt
  · have : w.heap[a.block]? = none := by simp [hge]
    rw [this] at h
    simp at h

theorem opens_slice {P : Program} {t e : TypeId} {X : Type} {E : X → List PV} {ok : X → Prop} (ht : P.underlying t = some (.slice e)) (hE : Opens P e X E ok) (hk : 0 < P.cellsOf e) (d0 : X) :
    Opens P t (List X) (fun l => [.rs (P.cellsOf e) l.length fun i => at_ .any (E (l.getD i d0))]) fun l => l.length * P.bytesOf e ≤ reachBytes ∧ l.length ≤ maxLen ∧ ∀ x, x ∈ l → ok x := by
  intro H enc w fuel cs d ps h1 h2
  rcases DataW.trod_slice ht h1 with ⟨rfl, _⟩ | ⟨a, len, cap, elems, rest, n, rfl, rfl, hd, _, hlc, hcm, hel, hi, _, _⟩
  · refine ⟨[], ⟨by simp, by simp, by simp⟩, rfl, fun j u hu => ?_⟩
    cases j with
    | zero => simp at hu; subst hu; exact ⟨rfl, none, 0, rfl, Nat.le_refl _, Nat.zero_le _, fun _ => rfl, fun h => absurd h (by simp)⟩
    | succ j => simp at hu
  · injection hd with hd hp
    subst hd
    have hw : (elems.length + rest.length) * P.bytesOf e ≤ reachBytes ∧ ∀ (i : Nat) (y : DataW H × List MemPlace), elems[i]? = some y → ∀ m, m ∈ y.1.weights P e → m ≤ reachBytes := by
      have hall : ∀ (l : List (DataW H × List MemPlace)) (i : Nat) (y : DataW H × List MemPlace), l[i]? = some y → ∀ m, m ∈ y.1.weights P e → m ∈ DataW.weightsAll P e (l.map (·.1)) := by
        intro l
        induction l with
        | nil => intro i y hy; simp at hy
        | cons z l ih =>
          intro i y hy m hm
          simp only [List.map_cons, DataW.weightsAll, List.mem_append]
          cases i with
          | zero => simp at hy; subst hy; exact .inl hm
          | succ i => exact .inr (ih i y (by simpa using hy) m hm)
      unfold DataW.weights at h2
      simp only [ht, List.length_map] at h2
      exact ⟨h2 _ (List.mem_cons.2 (.inl rfl)), fun i y hy m hm => h2 _ (List.mem_cons.2 (.inr (List.mem_append.2 (.inl (hall _ i y hy m hm)))))⟩
    have hx : ∀ i, i < len → ∃ x, ok x ∧ (E x).length = P.cellsOf e ∧ ∀ j, j < P.cellsOf e → ∃ u, w.cell? (a.add (i * P.cellsOf e + j)) = some u ∧ u.oneCell' = true ∧ RepP w (Old w) (at_ .any (E x) j) u := by
      intro i hil
      have hg := hi i hil
      rw [List.getElem?_eq_getElem (by omega)] at hg
      simp only [Option.bind_eq_some_iff] at hg
      obtain ⟨csi, c1, c2⟩ := hg
      obtain ⟨c3, c4⟩ := cells_get c1
      obtain ⟨x, x1, x2, x3⟩ := hE H enc w n csi _ _ c2 (hw.2 i _ (List.getElem?_eq_getElem (by omega)))
      refine ⟨x, x1, by rw [x2, c3], fun j hj => ?_⟩
      obtain ⟨u, u1, u2⟩ := c4 j hj
      refine ⟨u, ?_, (x3 j u u1).1, (x3 j u u1).2⟩
      rw [← u2, addr_add]
    classical
    let f : Nat → X := fun i => if h : i < len then Classical.choose (hx i h) else d0
    have hf : ∀ i (h : i < len), f i = Classical.choose (hx i h) := fun i h => by simp only [f]; rw [dif_pos h]
    have hg : ∀ i, i < len → ((List.range len).map f).getD i d0 = f i := fun i h => by simp [List.getD_eq_getElem?_getD, h]
    refine ⟨(List.range len).map f, ⟨?_, ?_, ?_⟩, rfl, fun j u hu => ?_⟩
    · simp only [List.length_map, List.length_range]
      refine Nat.le_trans (Nat.mul_le_mul_right _ ?_) hw.1
      omega
    · simp; omega
    · intro x hxm
      simp at hxm
      obtain ⟨i, hil, rfl⟩ := hxm
      rw [hf i hil]
      exact (Classical.choose_spec (hx i hil)).1
    · cases j with
      | zero =>
        simp at hu; subst hu
        refine ⟨rfl, some a, cap, (by simp), (by simp; exact hlc), (by simp; omega), (fun h => by cases h), fun hn => ⟨a, rfl, ?_, fun i j hil hj => ?_⟩⟩
        · obtain ⟨x, _, _, hc⟩ := hx 0 (by simpa using hn)
          obtain ⟨u, u1, _⟩ := hc 0 hk
          have := cell_old u1
          simpa [Addr.add] using this
        · have hil : i < len := by simpa using hil
          show ∃ u, w.cell? (a.add (i * P.cellsOf e + j)) = some u ∧ u.oneCell' = true ∧ RepP w (Old w) (at_ PV.any (E (((List.range len).map f).getD i d0)) j) u
          rw [hg i hil, hf i hil]
          exact (Classical.choose_spec (hx i hil)).2.2 j hj
      | succ j => simp at hu

/-! ### Structs -/
theorem CellsAre.nil {w : World} {cs : List Value} {o : Nat} (h : cs.length = o) : CellsAre w (cs.drop o) [] :=
  ⟨by simp [h], fun j u hu => by rw [List.getElem?_drop, List.getElem?_eq_none (by omega)] at hu; cases hu⟩
theorem CellsAre.cons {w : World} {cs : List Value} {o k : Nat} {l m : List PV} (hk : o + k ≤ cs.length) (h1 : CellsAre w ((cs.drop o).take k) l) (h2 : CellsAre w (cs.drop (o + k)) m) : CellsAre w (cs.drop o) (l ++ m) := by
  obtain ⟨a1, a2⟩ := h1
  obtain ⟨b1, b2⟩ := h2
  have hl : l.length = k := by rw [a1]; simp; omega
  refine ⟨by simp [hl, b1]; omega, fun j u hu => ?_⟩
  rw [List.getElem?_drop] at hu
  rcases Nat.lt_or_ge j k with hj | hj
  · have := a2 j u (by rw [List.getElem?_take, if_pos hj, List.getElem?_drop]; exact hu)
    have e : at_ PV.any (l ++ m) j = at_ PV.any l j := by
      have hjl : j < l.length := by omega
      have e1 := at_get PV.any l j _ (List.getElem?_eq_getElem hjl)
      have e2 := at_get PV.any (l ++ m) j l[j] (by rw [List.getElem?_append_left hjl]; exact List.getElem?_eq_getElem hjl)
      rw [e1, e2]
    rw [e]; exact this
  · have := b2 (j - k) u (by rw [List.getElem?_drop, show o + k + (j - k) = o + j from by omega]; exact hu)
    have hjl : j - k < m.length := by
      rw [b1]; simp
      have := (List.getElem?_eq_some_iff.1 hu).1
      omega
    have e : at_ PV.any (l ++ m) j = at_ PV.any m (j - k) := by
      have e1 := at_get PV.any m (j - k) _ (List.getElem?_eq_getElem hjl)
      have e2 := at_get PV.any (l ++ m) j m[j - k] (by rw [List.getElem?_append_right (by omega), hl]; exact List.getElem?_eq_getElem hjl)
      rw [e1, e2]
    rw [e]; exact this
/-- The fields of a struct: each one's cells, and its weights. -/
theorem struct_fields {P : Program} {H : Type} {enc : TypeId × Value → H} {w : World} {fuel : Nat} {t : TypeId} {cs : List Value} {d : DataW H} {ps : List MemPlace} {fs : Array Field} (ht : P.underlying t = some (.struct fs))
    (h : DataW.trod enc P w 0 (fun _ => true) true fuel t cs = some (d, ps)) (h2 : ∀ n, n ∈ d.weights P t → n ≤ reachBytes) :
    cs.length = P.cellsOf t ∧ ∀ (i : Nat) (f : Field), fs[i]? = some f → ∀ (X : Type) (E : X → List PV) (ok : X → Prop), Opens P f.type X E ok → ∃ x, ok x ∧ CellsAre w ((cs.drop f.offset).take (P.cellsOf f.type)) (E x) := by
  obtain ⟨xs, n, _, hx, hl, hxl, hi⟩ := DataW.trod_struct ht h
  injection hx with hd hp
  subst hd
  refine ⟨hl, fun i f hf X E ok ho => ?_⟩
  have hg := hi i f hf
  have hil : i < xs.length := by rw [hxl]; exact (Array.getElem?_eq_some_iff.1 hf).1
  rw [List.getElem?_eq_getElem hil] at hg
  refine ho H enc w n _ _ _ hg fun m hm => h2 m ?_
  unfold DataW.weights
  simp only [ht]
  exact DataW.weights_mem_each (j := i) (t := f.type) (d := xs[i].1) (by simp [hf]) (by simp [hil]) m hm
theorem struct_parts {P : Program} {H : Type} {enc : TypeId × Value → H} {w : World} {fuel : Nat} {t : TypeId} {cs : List Value} {d : DataW H} {ps : List MemPlace} {fs : Array Field} (ht : P.underlying t = some (.struct fs)) {n : Nat} (hn : P.cellsOf t = n)
    (h : DataW.trod enc P w 0 (fun _ => true) true fuel t cs = some (d, ps)) (h2 : ∀ n, n ∈ d.weights P t → n ≤ reachBytes) :
    cs.length = n ∧ ∀ (i : Nat) (f : Field), fs[i]? = some f → ∀ (k : Nat), P.cellsOf f.type = k → ∀ {X : Type} {E : X → List PV} {ok : X → Prop}, Opens P f.type X E ok → ∃ x, ok x ∧ CellsAre w ((cs.drop f.offset).take k) (E x) := by
  obtain ⟨h3, h4⟩ := struct_fields ht h h2
  refine ⟨h3.trans hn, fun i f hf k hk X E ok ho => ?_⟩
  obtain ⟨x, hx, hc⟩ := h4 i f hf X E ok ho
  exact ⟨x, hx, by rw [← hk]; exact hc⟩
theorem opens_list {P : Program} {t e : TypeId} {X : Type} {E : X → List PV} {ok : X → Prop} (ht : P.underlying t = some (.slice e)) (hE : Opens P e X E ok) {k b : Nat} (hc : P.cellsOf e = k) (hb : P.bytesOf e = b) (hk : 0 < k) (d0 : X) :
    Opens P t (List X) (fun l => [.rs k l.length fun i => at_ .any (E (l.getD i d0))]) fun l => l.length * b ≤ reachBytes ∧ l.length ≤ maxLen ∧ ∀ x, x ∈ l → ok x := by
  subst hc hb
  exact opens_slice ht hE hk d0
/-- A call of plain data, as the kit's calls: what stands in memory stays. -/
theorem PCall.calls {P : Program} {f : FuncId} {args : List PV} {u : Value} (h : PCall P f args (.p (.val u)) []) {w : World} {vals : List Value} (hl : vals.length = args.length)
    (hv : ∀ (i : Nat) (x : PV) (v : Value), args[i]? = some x → vals[i]? = some v → RepP w (Old w) x v) : Calls P f vals.toArray w fun e w' => e = .returned u ∧ Ext w w' fun _ => False := by
  have hh : HInv w (Old w) (fun _ => none) (enumB []) := ⟨fun b hb => hb, fun n blk hn => by simp [enumB, at_] at hn, fun n m bn bm u u' g hn => by simp [enumB, at_] at hn, fun n bn u g hn => by simp [enumB, at_] at hn⟩
  refine (h.2 w (Old w) (fun _ => none) vals hh (fun _ _ => rfl) (by simpa using hl) fun i x v hx hu => ?_).mono fun e w' ⟨v, F', ν', e1, e2, _, e4, _⟩ => ?_
  · simp only [List.getElem?_map, Option.map_eq_some_iff] at hx
    obtain ⟨a, ha, rfl⟩ := hx
    exact hv i a v ha hu
  · have e2 : v = u := e2
    subst e2
    refine ⟨e1, e4.size, fun b hb _ => e4.blk b hb ?_, e4.os, e4.tape, e4.output⟩
    rintro ⟨n, bn, u, hn, _⟩
    simp [enumB, at_] at hn
end Go.Av
