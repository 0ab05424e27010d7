/- The reckoner is right: regions in the text's order. -/
import Derived.Test.YtalpbdabeffnlaaGreatAvOps2
set_option linter.unusedVariables false
set_option linter.unusedSimpArgs false
namespace Go.Av
open Go Go.RowKit
section
variable {P : Program} {T : Nat → Option TI}

theorem opK_sound (hT : TabOk P T) {nm : Nat} {o : Oper} {σ : St} {K : Eff → Prop} (hd : dstOk o.dst σ.N = true) (h : opK P T nm o σ K) : Sound P o σ K := by
  unfold opK at h
  split at h
  case h_1 x ho => exact sound_move (.inl ho) hd h
  case h_2 x ho => exact sound_move (.inr ho) hd h
  case h_3 c a b ho => exact sound_pick ho hd h
  case h_4 op ty x y yt ho => exact sound_binop hT ho hd h
  case h_5 t x ho => exact sound_not ho hd h
  case h_6 t i ho => exact sound_extract ho hd h
  case h_7 ty x i ho => exact sound_field hT ho hd h
  case h_8 ty x i ho => exact sound_fieldAddr hT ho hd h
  case h_9 ty x ho => exact sound_load hT ho hd h
  case h_10 ty x y ho => exact sound_storeAll hT ho hd h
  case h_11 ty x ho => exact sound_box ho hd h
  case h_12 ty x y ho => exact sound_indexAddr hT ho hd h
  case h_13 ty x y ho => exact sound_index hT ho hd h
  case h_14 c ho =>
    split at h
    · rename_i hc
      split at h
      · rename_i x ty ha ht
        exact sound_len hT ho hc ha ht hd h
      · exact h.elim
    · rename_i hc
      split at h
      · rename_i x y ty ty' ha ht
        split at h
        · rename_i hb
          have hb := beq_yes hb
          subst hb
          exact sound_appendAll hT ho hc ha ht hd h
        · exact h.elim
      · exact h.elim
    · rename_i hc
      split at h
      · rename_i x ty ha ht
        exact sound_clear hT ho hc ha ht hd h
      · exact h.elim
    · rename_i f hc
      have mf : f ∈ o.op.operands.toList := by simp [ho, Op.operands, Call.operands, hc]
      have marg : ∀ x, x ∈ c.args.toList → x ∈ o.op.operands.toList := by
        intro x hx
        simp only [ho, Op.operands, Call.operands, hc]
        simp at hx ⊢
        exact .inr hx
      have argsr : ∀ {e : Eff} {σ' : St} {G : Gh} {a : Act} {w : World} {F : Nat → Prop} {ν : Nat → Option Value}, AgreeOn o e σ σ' → FInv G σ' a w F ν →
          ∀ (j : Nat) (x : AV) (v : Value), (c.args.toList.map (ev σ))[j]? = some x → (c.args.toList.map a.eval)[j]? = some v → RepV w F ν x v := by
        intro e σ' G a w F ν hag hi j x v hx hv
        rw [List.getElem?_map] at hx hv
        cases hj : c.args.toList[j]? with
        | none => rw [hj] at hx; cases hx
        | some y =>
          rw [hj] at hx hv
          simp at hx hv
          subst hx hv
          exact ev_agree hag (marg y (List.mem_of_getElem? hj)) (ev_rep hi y)
      split at h
      · rename_i g n cs hf
        refine sound_call ho hc hd (fun G σ' a w F ν e hag hi => ?_) h
        have hr := ev_agree hag mf (ev_rep hi f)
        rw [hf] at hr
        obtain ⟨caps, hv, hs, hcc⟩ := hr
        refine ⟨caps, hv, by simp [upto_len, hs], fun j x v hx hvv => ?_⟩
        rw [← Array.getElem?_toList, Array.toList_append, Array.toList_map] at hvv
        rcases Nat.lt_or_ge j (c.args.toList.map (ev σ)).length with hj | hj
        · rw [List.getElem?_append_left hj] at hx
          rw [List.getElem?_append_left (by simpa using hj)] at hvv
          exact argsr hag hi j x v hx hvv
        · rw [List.getElem?_append_right hj] at hx
          rw [List.getElem?_append_right (by simpa using hj)] at hvv
          simp only [List.length_map] at hx hvv
          have hjn : j - c.args.toList.length < n := by
            have := (List.getElem?_eq_some_iff.1 hx).1
            simpa [upto_len] using this
          rw [List.getElem?_map, upto_get _ _ _ _ hjn] at hx
          simp at hx
          subst hx
          obtain ⟨u, hu, hru⟩ := hcc _ hjn
          simp only [Array.length_toList] at hvv hu hru ⊢
          rw [Array.getElem?_toList, hu] at hvv
          injection hvv with hvv
          subst hvv
          exact hru
      · rename_i g l hf
        refine sound_call ho hc hd (fun G σ' a w F ν e hag hi => ?_) h
        have hr := ev_agree hag mf (ev_rep hi f)
        rw [hf] at hr
        obtain ⟨caps, hv, hs, hcc⟩ := hr
        refine ⟨caps, hv, by simp [hs], fun j x v hx hvv => ?_⟩
        rw [← Array.getElem?_toList, Array.toList_append, Array.toList_map] at hvv
        rcases Nat.lt_or_ge j (c.args.toList.map (ev σ)).length with hj | hj
        · rw [List.getElem?_append_left hj] at hx
          rw [List.getElem?_append_left (by simpa using hj)] at hvv
          exact argsr hag hi j x v hx hvv
        · rw [List.getElem?_append_right hj] at hx
          rw [List.getElem?_append_right (by simpa using hj)] at hvv
          simp only [List.length_map] at hx hvv
          rw [List.getElem?_map] at hx
          cases hl : l[j - c.args.toList.length]? with
          | none => rw [hl] at hx; cases hx
          | some b =>
            rw [hl] at hx
            simp at hx
            subst hx
            obtain ⟨g', h1, h2⟩ := hcc _ b hl
            rw [Array.getElem?_toList, h1] at hvv
            injection hvv with hvv
            subst hvv
            exact ⟨g', h2, rfl⟩
      · exact h.elim
    · exact h.elim
  case h_15 ty parts ho => exact sound_build hT ho hd h
  case h_16 ty ho => exact sound_alloc hT ho hd h
  case h_17 ty len parts ho => exact sound_buildSlice hT ho hd h
  case h_18 ty x y ho => exact sound_makeSlice hT ho hd h
  case h_19 ty x lo hi mx ho => exact sound_sliceAll hT ho hd h
  case h_20 src dst x ho => exact sound_convert hT ho hd h
  case h_21 x ho => exact sound_nilCheck ho hd h
  case h_22 fn first caps ho => exact sound_makeFunc ho hd h
  case h_23 => exact h.elim

/-! ### A chain of operations -/
structure Item where
  o : Oper
  on : Bool
  e : Eff

def GuardVal (ops : List Oper) (σ : St) (o : Oper) (on : Bool) : Prop :=
  match o.guard with
  | none => on = true
  | some (j, want) => ∃ t, dstOf ops j = some t ∧ ((∃ c, (∀ w F ν v, RepV w F ν (σ.τ t) v → v = .bool c) ∧ on = wantB c want) ∨ ((∀ w F ν v, RepV w F ν (σ.τ t) v → ∃ vs, v = .tuple vs) ∧ on = false))

structure ItemOk (P : Program) (ops : List Oper) (σ : St) (it : Item) : Prop where
  gv : GuardVal ops σ it.o it.on
  dst : dstOk it.o.dst σ.N = true
  ed : ∀ d x, it.e.dst = some (d, x) → it.o.dst = some d
  eds : it.e.dst.isSome = it.o.dst.isSome
  nw : ∀ b, b ∈ it.e.nw → σ.us b = false
  ups : ∀ b u, (b, u) ∈ it.e.ups → b ∈ it.e.rd ∨ b ∈ it.e.nw
  yes : it.on = true → EffOk P it.o σ it.e
  no : it.on = false → it.e = { dst := dstE it.o.dst (.p (.val undef)) }

/-- The same frame, told otherwise. -/
structure Like (σ σ' : St) : Prop where
  N : σ'.N = σ.N
  τ : ∀ t w F ν v, RepV w F ν (σ'.τ t) v ↔ RepV w F ν (σ.τ t) v
  η : σ'.η = σ.η
  us : σ'.us = σ.us
theorem Like.refl (σ : St) : Like σ σ := ⟨rfl, fun _ _ _ _ _ => .rfl, rfl, rfl⟩
theorem Like.symm {σ σ' : St} (h : Like σ σ') : Like σ' σ := ⟨h.N.symm, fun t w F ν v => (h.τ t w F ν v).symm, h.η.symm, h.us.symm⟩
theorem Like.trans {σ σ' σ'' : St} (h : Like σ σ') (k : Like σ' σ'') : Like σ σ'' := ⟨k.N.trans h.N, fun t w F ν v => (k.τ t w F ν v).trans (h.τ t w F ν v), k.η.trans h.η, k.us.trans h.us⟩
theorem Like.app {σ σ' : St} (h : Like σ σ') (e : Eff) : Like (σ.app e) (σ'.app e) := by
  refine ⟨h.N, fun t w F ν v => ?_, by show upds σ'.η _ = upds σ.η _; rw [h.η], by show upds σ'.us _ = upds σ.us _; rw [h.us]⟩
  cases hd : e.dst with
  | none => simpa [St.app, St.put, hd] using h.τ t w F ν v
  | some d =>
    obtain ⟨t0, x⟩ := d
    simp only [St.app, St.put, hd]
    rcases upd_cases σ.τ t0 t x with ⟨rfl, e1⟩ | ⟨hne, e1⟩
    · rw [e1, upd_same]
    · rw [e1, upd_other _ _ hne]; exact h.τ t w F ν v
theorem Like.inv {σ σ' : St} (h : Like σ σ') {G : Gh} {a : Act} {w : World} (hi : Inv G σ a w) : Inv G σ' a w := by
  obtain ⟨h1, h2, F, ν, hf⟩ := hi
  exact ⟨h1, h2.trans h.N.symm, F, ν, ⟨by rw [h.η]; exact hf.heap, fun t => (h.τ t _ _ _ _).2 (hf.tmps t), by rw [h.us]; exact hf.names, hf.ext, hf.same, by rw [h.η]; exact hf.owns, hf.fl, hf.fr, by rw [h.us]; exact hf.used⟩⟩
theorem Like.effok {σ σ' : St} (h : Like σ σ') {o : Oper} {e : Eff} (he : EffOk P o σ e) : EffOk P o σ' e := by
  intro G σ2 a w K Q ha hi hK
  exact he G σ2 a w K Q ⟨ha.N.trans h.N, fun t ht w F ν v hv => (h.τ t w F ν v).1 (ha.τ t ht w F ν v hv), fun b hb => by rw [ha.η b hb, h.η], ha.us⟩ hi hK
theorem Like.item {ops : List Oper} {σ σ' : St} (h : Like σ σ') {it : Item} (hi : ItemOk P ops σ it) : ItemOk P ops σ' it := by
  refine ⟨?_, by rw [h.N]; exact hi.dst, hi.ed, hi.eds, fun b hb => by rw [h.us]; exact hi.nw b hb, hi.ups, fun ho => h.effok (hi.yes ho), hi.no⟩
  have := hi.gv
  unfold GuardVal at this ⊢
  split at this
  · exact this
  · obtain ⟨t, h1, h2⟩ := this
    refine ⟨t, h1, ?_⟩
    rcases h2 with ⟨c, h2, h3⟩ | ⟨h2, h3⟩
    · exact .inl ⟨c, fun w F ν v hv => h2 w F ν v ((h.τ t w F ν v).1 hv), h3⟩
    · exact .inr ⟨fun w F ν v hv => h2 w F ν v ((h.τ t w F ν v).1 hv), h3⟩

inductive Chain (P : Program) (ops : List Oper) : St → List Item → St → Prop where
  | nil {σ σ' : St} (h : Like σ σ') : Chain P ops σ [] σ'
  | cons {σ σ' : St} {it : Item} {its : List Item} (h : ItemOk P ops σ it) (k : Chain P ops (σ.app it.e) its σ') : Chain P ops σ (it :: its) σ'
theorem Chain.like {ops : List Oper} {σ1 σ2 σ' : St} {its : List Item} (h : Like σ1 σ2) (hc : Chain P ops σ1 its σ') : Chain P ops σ2 its σ' := by
  induction hc generalizing σ2 with
  | nil k => exact .nil (h.symm.trans k)
  | cons hi _ ih => exact .cons (h.item hi) (ih (h.app _))

theorem like_refine {N : Nat} {τ : Nat → AV} {η : Nat → Option Blk} {us : Nat → Bool} {t : Nat} {c : Bool} (hc : ∀ w F ν v, RepV w F ν (τ t) v ↔ v = .bool c) :
    Like ⟨N, upd τ t (.p (.bl c)), η, us⟩ ⟨N, τ, η, us⟩ := by
  refine ⟨rfl, fun t' w F ν v => ?_, rfl, rfl⟩
  rcases upd_cases τ t t' (.p (.bl c)) with ⟨rfl, e⟩ | ⟨hne, e⟩
  · show RepV w F ν (τ t) v ↔ RepV w F ν (upd τ t (.p (.bl c)) t) v
    rw [e, hc]
    exact .rfl
  · show RepV w F ν (τ t') v ↔ RepV w F ν (upd τ t (.p (.bl c)) t') v
    rw [e]

theorem boolK_elim2 {x : AV} {K : Bool → Prop} (h : boolK x K) : ∃ c, K c ∧ ∀ w F ν v, RepV w F ν x v ↔ v = .bool c := by
  unfold boolK at h
  split at h
  · rename_i c
    cases c
    · exact ⟨false, h, fun _ _ _ _ => .rfl⟩
    · exact ⟨true, h, fun _ _ _ _ => .rfl⟩
  · rename_i c
    cases c
    · exact ⟨false, h.2 rfl, fun _ _ _ _ => .rfl⟩
    · exact ⟨true, h.1 rfl, fun _ _ _ _ => .rfl⟩
  · exact h.elim

theorem opsK_chain (hT : TabOk P T) (ops : List Oper) : ∀ (rest : List Oper) (nm : Nat) (acc : List Eff) (σ : St) (K : List Eff → St → Prop), opsK P T ops nm rest acc σ K →
    ∃ its σ', its.map (·.o) = rest ∧ K ((its.map (·.e)).reverse ++ acc) σ' ∧ Chain P ops σ its σ'
  | [], nm, acc, σ, K, h => ⟨[], σ, rfl, h, .nil (Like.refl σ)⟩
  | o :: rest, nm, acc, ⟨N, τ, η, us⟩, K, h => by
    rw [opsK_cons] at h
    split at h
    · exact h.elim
    · rename_i hd
      have step : ∀ (σ0 : St), Like σ0 ⟨N, τ, η, us⟩ → σ0.N = N → GuardVal ops ⟨N, τ, η, us⟩ o true → opK P T nm o σ0 (fun e => opsK P T ops (nm + 8) rest (e :: acc) (σ0.app e) K) →
          ∃ its σ', its.map (·.o) = o :: rest ∧ K ((its.map (·.e)).reverse ++ acc) σ' ∧ Chain P ops ⟨N, τ, η, us⟩ its σ' := by
        intro σ0 hlike hN0 hg hk
        obtain ⟨e, he, h1, h2, h3, h4, h5⟩ := opK_sound hT (by rw [hN0]; exact hd) hk
        obtain ⟨its, σ', a1, a2, a3⟩ := opsK_chain hT ops rest _ _ _ _ he
        refine ⟨⟨o, true, e⟩ :: its, σ', by simp [a1], by simpa using a2, .cons ⟨hg, hd, h2, h1, fun b hb => ?_, h4, fun _ => hlike.effok h5, by simp⟩ (a3.like (hlike.app e))⟩
        have := h3 b hb
        rw [← hlike.us] at this
        exact this
      split at h
      · rename_i hgd
        exact step _ (Like.refl _) rfl (by unfold GuardVal; rw [hgd]) h
      · rename_i j want hgd
        split at h
        · exact h.elim
        · rename_i t ht
          have off : ∀ (σ0 : St), Like σ0 ⟨N, τ, η, us⟩ → GuardVal ops ⟨N, τ, η, us⟩ o false → opsK P T ops (nm + 8) rest ({ dst := dstE o.dst (.p (.val undef)) } :: acc) (σ0.app { dst := dstE o.dst (.p (.val undef)) }) K →
              ∃ its σ', its.map (·.o) = o :: rest ∧ K ((its.map (·.e)).reverse ++ acc) σ' ∧ Chain P ops ⟨N, τ, η, us⟩ its σ' := by
            intro σ0 hlike hg h
            obtain ⟨its, σ', a1, a2, a3⟩ := opsK_chain hT ops rest _ _ _ _ h
            refine ⟨⟨o, false, { dst := dstE o.dst (.p (.val undef)) }⟩ :: its, σ', by simp [a1], by simpa using a2, .cons ⟨hg, hd, ?_, by cases o.dst <;> rfl, by simp, by simp, by simp, fun _ => rfl⟩ (a3.like (hlike.app _))⟩
            intro d x h
            cases hq : o.dst with | none => simp [dstE, hq] at h | some t => simp [dstE, hq] at h; simp [h.1]
          split at h
          · rename_i hun
            have hg : GuardVal ops ⟨N, τ, η, us⟩ o false := by
              unfold GuardVal
              rw [hgd]
              refine ⟨t, ht, .inr ⟨fun w F ν v hv => ?_, rfl⟩⟩
              simp only [isUndef] at hun
              split at hun
              · rename_i vs hvs
                rw [show (⟨N, τ, η, us⟩ : St).τ t = _ from hvs] at hv
                exact ⟨vs, hv⟩
              · cases hun
            exact off _ (Like.refl _) hg h
          · obtain ⟨c, h, hc⟩ := boolK_elim2 h
            have hlike := like_refine (N := N) (η := η) (us := us) (t := t) (c := c) hc
            split at h
            · rename_i hw
              exact step _ hlike rfl (by unfold GuardVal; rw [hgd]; exact ⟨t, ht, .inl ⟨c, fun w F ν v hv => (hc w F ν v).1 hv, hw.symm⟩⟩) h
            · rename_i hw
              exact off _ hlike (by unfold GuardVal; rw [hgd]; exact ⟨t, ht, .inl ⟨c, fun w F ν v hv => (hc w F ν v).1 hv, hw.symm⟩⟩) h

theorem dstOf_get : ∀ (ops : List Oper) (j : Nat), dstOf ops j = (ops[j]?).bind (·.dst)
  | [], j => by simp [dstOf]
  | o :: l, 0 => by simp [dstOf]
  | o :: l, j + 1 => by simpa [dstOf] using dstOf_get l j

theorem wanted_of {ops : List Oper} {σ : St} {o : Oper} {on : Bool} (hg : GuardVal ops σ o on) {G : Gh} {a : Act} {w : World} (hi : Inv G σ a w) : Region.wanted o (yielded ops.toArray a.tmps) = on := by
  obtain ⟨_, hN, F, ν, hf⟩ := hi
  unfold GuardVal at hg
  unfold Region.wanted
  cases hgd : o.guard with
  | none => rw [hgd] at hg; exact hg.symm
  | some jw =>
    obtain ⟨j, want⟩ := jw
    rw [hgd] at hg
    obtain ⟨t, h1, h2⟩ := hg
    rcases h2 with ⟨c, h2, h3⟩ | ⟨h2, h3⟩
    case inr =>
      obtain ⟨vs, hv⟩ := h2 w F ν _ (hf.tmps t)
      have hy : yielded ops.toArray a.tmps j = none := by
        unfold yielded
        rw [List.getElem?_toArray, ← dstOf_get, h1]
        simp only [Option.bind_some]
        simp only [Array.getD_eq_getD_getElem?] at hv
        cases ht : a.tmps[t]? with
        | none => rfl
        | some u => rw [ht] at hv; simp at hv; subst hv; rfl
      show (yielded ops.toArray a.tmps j == some want) = on
      rw [hy, h3]
      rfl
    have hv := h2 w F ν _ (hf.tmps t)
    have hlt : t < a.tmps.size := by
      rcases Nat.lt_or_ge t a.tmps.size with h | h
      · exact h
      · simp only [Array.getD_eq_getD_getElem?] at hv
        rw [Array.getElem?_eq_none h] at hv
        simp [undef] at hv
    have hy : yielded ops.toArray a.tmps j = some c := by
      unfold yielded
      rw [List.getElem?_toArray, ← dstOf_get, h1]
      simp only [Option.bind_some]
      have : a.tmps[t]? = some (.bool c) := by
        rw [Array.getElem?_eq_getElem hlt]
        simp only [Array.getD_eq_getD_getElem?, Array.getElem?_eq_getElem hlt, Option.getD_some] at hv
        rw [hv]
      rw [this]
    show (yielded ops.toArray a.tmps j == some want) = on
    rw [hy, h3]
    cases c <;> cases want <;> rfl

/-- One operation of a chain. -/
theorem item_step {ops : List Oper} {σ : St} {it : Item} (hi : ItemOk P ops σ it) {G : Gh} {a : Act} {w : World} (hv : Inv G σ a w) {K : Act → World → Prop} {Q : Exit → Act → World → Prop}
    (hK : ∀ a' w', Inv G (σ.app it.e) a' w' → K a' w') : if Region.wanted it.o (yielded ops.toArray a.tmps) then it.o.wp P a w K Q else K (a.put it.o.dst undef) w := by
  have hw := wanted_of hi.gv hv
  cases hon : it.on with
  | true =>
    rw [hon] at hw
    rw [if_pos hw]
    exact hi.yes hon G σ a w K Q (AgreeOn.refl _ _ _ hi.nw) hv hK
  | false =>
    rw [hon] at hw
    rw [if_neg (by simp [hw])]
    obtain ⟨h1, h2, F, ν, hf⟩ := hv
    refine hK _ _ ⟨by rw [defers_put]; exact h1, by rw [size_put, N_app]; exact h2, F, ν, ?_⟩
    rw [hi.no hon]
    exact hf.put (x := .p (.val undef)) (v := undef) h2 hi.dst rfl []

theorem chain_list {ops : List Oper} {Q : Exit → Act → World → Prop} {G : Gh} : ∀ (its : List Item) (σ σ' : St), Chain P ops σ its σ' → (∀ a w, Inv G σ' a w → Q .normal a w) → ∀ a w, Inv G σ a w →
    wpList P ops.toArray Q (its.map (·.o)) a w
  | [], σ, σ', .nil h, hQ, a, w, hi => hQ a w (h.inv hi)
  | it :: its, σ, σ', .cons h k, hQ, a, w, hi => by
    refine wpList_step fun K hK => ?_
    exact item_step h hi fun a' w' hi' => hK _ _ (chain_list its _ _ k hQ a' w' hi')
end
end Go.Av
