/- Rules for code over told frames. -/
import Derived.Test.YtalpbdabeffnlaaGreatAvSound8
import Derived.LoopN
import Derived.ScopeJumps
set_option linter.unusedVariables false
set_option linter.unusedSimpArgs false
namespace Go.Av
open Go Go.RowKit

/-- From the frame 'σ' the code comes to an end of which 'Q' is true. -/
def AW (P : Program) (G : Gh) (c : Code) (Q : Exit → St → Prop) (σ : St) : Prop :=
  ∀ a w, Inv G σ a w → c.wp P (fun e a' w' => ∃ σ', Inv G σ' a' w' ∧ Q e σ') a w

section
variable {P : Program} {T : Nat → Option TI} {G : Gh} {Q : Exit → St → Prop} {σ : St}

theorem AW.mono {c : Code} {Q' : Exit → St → Prop} (h : AW P G c Q σ) (hq : ∀ e σ, Q e σ → Q' e σ) : AW P G c Q' σ :=
  fun a w hi => wp_mono (h a w hi) fun e a w ⟨σ', h1, h2⟩ => ⟨σ', h1, hq _ _ h2⟩
theorem AW.region (hT : TabOk P T) (hm : P.follows .mixedOrders = true) {id : Nat} {ops : List Oper} {d : Bool} (h : opsK P T ops (id * 4096) ops [] σ (endK d ops (Q .normal))) : AW P G (.region id ops.toArray d) Q σ := by
  intro a w hi
  refine region_sound hT hm (nm := id * 4096) (K := Q .normal) (G := G) (σ := σ) ?_ (fun σ' a w h1 h2 => ⟨σ', h2, h1⟩) hi
  have : endK d ops (Q .normal) = fun acc σ' => (d = true → orderB ops acc = true) ∧ Q .normal σ' := by
    funext acc σ'
    cases d <;> simp [endK]
  rw [← this]
  exact h
def thenK (K : St → Prop) (Q : Exit → St → Prop) : Exit → St → Prop
  | .normal, σ => K σ
  | e, σ => Q e σ
theorem AW.seq {x y : Code} (h : AW P G x (thenK (AW P G y Q) Q) σ) : AW P G (.seq x y) Q σ := by
  intro a w hi
  refine wp_seq (wp_mono (h a w hi) fun e a' w' ⟨σ', h1, h2⟩ => ?_)
  cases e with
  | normal => exact h2 a' w' h1
  | _ => exact ⟨σ', h1, h2⟩
theorem AW.skip (h : Q .normal σ) : AW P G .skip Q σ := fun a w hi => wp_skip ⟨σ, hi, h⟩
theorem AW.label {l : Nat} (h : Q .normal σ) : AW P G (.label l) Q σ := fun a w hi => wp_label ⟨σ, hi, h⟩
theorem AW.ret (h : Q .ret σ) : AW P G .ret Q σ := fun a w hi => wp_ret ⟨σ, hi, h⟩
theorem AW.exit {id : Nat} (h : Q (.exit id) σ) : AW P G (.exit id) Q σ := fun a w hi => wp_exit ⟨σ, hi, h⟩
theorem AW.goto {l : Nat} (h : Q (.goto l) σ) : AW P G (.goto l) Q σ := fun a w hi => wp_goto ⟨σ, hi, h⟩
theorem AW.cond {c : Operand} {x y : Code} (h : boolK (ev σ c) fun t => match t with | true => AW P G x Q σ | false => AW P G y Q σ) : AW P G (.cond c x y) Q σ := by
  intro a w hi
  obtain ⟨t, h, hc⟩ := boolK_elim h
  obtain ⟨h1, h2, F, ν, hf⟩ := hi
  have := hc w F ν _ (ev_rep hf c)
  refine wp_cond this ?_
  cases t with
  | true => exact h a w ⟨h1, h2, F, ν, hf⟩
  | false => exact h a w ⟨h1, h2, F, ν, hf⟩
def blockK (id : Nat) (Q : Exit → St → Prop) : Exit → St → Prop
  | .exit id', σ => match Nat.beq id' id with | true => Q .normal σ | false => Q (.exit id') σ
  | e, σ => Q e σ
theorem AW.block {id : Nat} {c : Code} (h : AW P G c (blockK id Q) σ) : AW P G (.block id c) Q σ := by
  intro a w hi
  refine wp_block (wp_mono (h a w hi) fun e a' w' ⟨σ', h1, h2⟩ => ?_)
  cases e with
  | exit id' =>
    show if id' = id then _ else _
    simp only [blockK] at h2
    split at h2
    · rename_i hb; rw [if_pos (beq_yes hb)]; exact ⟨σ', h1, h2⟩
    · rename_i hb; rw [if_neg (beq_no hb)]; exact ⟨σ', h1, h2⟩
  | _ => exact ⟨σ', h1, h2⟩

/-- Told otherwise: what is true of a frame told one way is true of it told the other way. -/
def UsOk (G : Gh) (us : Nat → Bool) : Prop := G.m ≤ 64 ∧ ∀ n, n < G.m → us n = true
def StLe (σ σ' : St) : Prop := ∀ (G : Gh) a w, Inv G σ a w → UsOk G σ'.us → Inv G σ' a w

theorem AW.loop {c : Code} {X : Type} (S : X → St) (J : X → Prop) (μ : X → Nat) (hu : ∀ x, UsOk G (S x).us) (x0 : X) (h0 : J x0) (hs : StLe σ (S x0))
    (h : ∀ x, J x → AW P G c (thenK (fun σ' => ∃ x', J x' ∧ μ x' < μ x ∧ StLe σ' (S x')) Q) (S x)) : AW P G (.loop c) Q σ := by
  intro a w hi
  refine wp_loop_rounds (μ x0 + 1) ?_
  have key : ∀ n x a w, μ x < n → J x → Inv G (S x) a w → Code.rounds P c (fun e a' w' => ∃ σ', Inv G σ' a' w' ∧ Q e σ') n a w := by
    intro n
    induction n with
    | zero => intro x a w hx; omega
    | succ n ih =>
      intro x a w hx hJ hi
      show c.wp P _ a w
      refine wp_mono (h x hJ a w hi) fun e a' w' ⟨σ', h1, h2⟩ => ?_
      cases e with
      | normal =>
        obtain ⟨x', h3, h4, h5⟩ := h2
        exact ih x' a' w' (by omega) h3 (h5 G a' w' h1 (hu x'))
      | _ => exact ⟨σ', h1, h2⟩
  exact key _ x0 a w (by omega) h0 (hs G a w hi (hu x0))

/-- A loop that is left by its own ways alone, at a number of rounds that is known. -/
theorem AW.weak {c : Code} {σ' : St} (hs : StLe σ σ') (hu : UsOk G σ'.us) (h : AW P G c Q σ') : AW P G c Q σ := fun a w hi => h a w (hs G a w hi hu)

def gotoK (l : Nat) (J : St → Prop) (Q : Exit → St → Prop) : Exit → St → Prop
  | .goto l', σ => match Nat.beq l' l with | true => J σ | false => False
  | e, σ => Q e σ
theorem AW.scope {c rest : Code} {X : Type} (l : Nat) (S : X → St) (J : X → Prop) (μ : X → Nat) (hu : ∀ x, UsOk G (S x).us) (hf : findLabel c l = some rest)
    (first : AW P G c (gotoK l (fun σ' => ∃ x, J x ∧ StLe σ' (S x)) Q) σ)
    (pass : ∀ x, J x → AW P G rest (gotoK l (fun σ' => ∃ x', J x' ∧ μ x' < μ x ∧ StLe σ' (S x')) Q) (S x)) : AW P G (.scope c) Q σ := by
  intro a w hi b k cs
  have hg : gotoIn l (.inScope c :: k) = some (.code rest :: .inScope c :: k) := by simp [gotoIn, hf]
  have fin : ∀ (m : Machine) (Jn : St → Prop), (∃ e a₁ w₁, (∃ σ', Inv G σ' a₁ w₁ ∧ gotoK l Jn Q e σ') ∧ Arrives P m b (.inScope c :: k) cs e a₁ w₁) →
      (∀ σ' a₁ w₁, Inv G σ' a₁ w₁ → Jn σ' → ∃ e a' w', (∃ σ', Inv G σ' a' w' ∧ Q e σ') ∧ Arrives P (lone (b.at a₁ (.code rest :: .inScope c :: k)) cs w₁) b k cs e a' w') →
      ∃ e a' w', (∃ σ', Inv G σ' a' w' ∧ Q e σ') ∧ Arrives P m b k cs e a' w' := by
    rintro m Jn ⟨e, a₁, w₁, ⟨σ', h1, h2⟩, harr⟩ hj
    cases e with
    | normal => exact ⟨.normal, a₁, w₁, ⟨σ', h1, h2⟩, Steps.trans harr (.one step_inScope)⟩
    | exit id => exact ⟨.exit id, a₁, w₁, ⟨σ', h1, h2⟩, fun k' hk => harr k' (by simp [exitTo, hk])⟩
    | goto l' =>
      simp only [gotoK] at h2
      split at h2
      · rename_i hb
        have hb := beq_yes hb
        subst hb
        obtain ⟨e₂, a₂, w₂, hq₂, harr₂⟩ := hj σ' a₁ w₁ h1 h2
        exact ⟨e₂, a₂, w₂, hq₂, .of_steps (harr _ hg) harr₂⟩
      · exact h2.elim
    | ret => exact ⟨_, a₁, w₁, ⟨σ', h1, h2⟩, harr⟩
    | panic ch => exact ⟨_, a₁, w₁, ⟨σ', h1, h2⟩, harr⟩
    | outgrown => exact ⟨_, a₁, w₁, ⟨σ', h1, h2⟩, harr⟩
  have key : ∀ n x a w, μ x < n → J x → Inv G (S x) a w → ∃ e a' w', (∃ σ', Inv G σ' a' w' ∧ Q e σ') ∧ Arrives P (lone (b.at a (.code rest :: .inScope c :: k)) cs w) b k cs e a' w' := by
    intro n
    induction n with
    | zero => intro x a w hx; omega
    | succ n ih =>
      intro x a w hx hJ hi
      refine fin _ _ (pass x hJ a w hi b (.inScope c :: k) cs) ?_
      rintro σ' a₁ w₁ h1 ⟨x', h3, h4, h5⟩
      exact ih x' a₁ w₁ (by omega) h3 (h5 G a₁ w₁ h1 (hu x'))
  obtain ⟨e, a₁, w₁, hq, harr⟩ := fin _ _ (first a w hi b (.inScope c :: k) cs) (by
    rintro σ' a₁ w₁ h1 ⟨x', h3, h5⟩
    exact key _ x' a₁ w₁ (Nat.lt_succ_self _) h3 (h5 G a₁ w₁ h1 (hu x')))
  exact ⟨e, a₁, w₁, hq, .of_steps (.one step_scope) harr⟩
theorem AW.straight {c : Code} (h : AW P G c (gotoK 0 (fun _ => False) Q) σ) : AW P G (.scope c) Q σ := by
  intro a w hi
  refine wp_scope_straight (wp_mono (h a w hi) fun e a' w' ⟨σ', h1, h2⟩ => ?_)
  cases e with
  | goto l => simp only [gotoK] at h2; split at h2 <;> exact h2.elim
  | _ => exact ⟨σ', h1, h2⟩
end

/-! ### A frame told by lists -/
theorem RepLe.refl (x : AV) : RepLe x x := fun _ _ _ _ h => h
theorem BlkLe.refl (b : Blk) : BlkLe b b := fun _ _ _ _ h => h
theorem upds_get {α : Type} : ∀ (l : List (Nat × α)) (f : Nat → α) (k : Nat), (k ∉ fsts l ∧ upds f l k = f k) ∨ ∃ x, (k, x) ∈ l ∧ upds f l k = x
  | [], f, k => .inl ⟨by simp [fsts], rfl⟩
  | (c, y) :: l, f, k => by
    rcases upds_get l (upd f c y) k with ⟨h1, h2⟩ | ⟨x, h1, h2⟩
    · rcases upd_cases f c k y with ⟨rfl, e⟩ | ⟨hne, e⟩
      · exact .inr ⟨y, by simp, by show upds (upd f c y) l c = y; rw [h2, e]⟩
      · exact .inl ⟨by simp [fsts, h1, Ne.symm hne], by show upds (upd f c y) l k = _; rw [h2, e]⟩
    · exact .inr ⟨x, by simp [h1], h2⟩
theorem allB'_spec {α : Type} {f : α → Bool} : ∀ (l : List α), allB' f l = true → ∀ x, x ∈ l → f x = true
  | [], _, x, h => by simp at h
  | y :: l, h, x, hx => by
    simp only [allB', andB_iff] at h
    rcases List.mem_cons.1 hx with rfl | hx
    · exact h.1
    · exact allB'_spec l h.2 x hx
theorem namesOk_rep {w : World} {F : Nat → Prop} {ν : Nat → Option Value} {us : List Nat} {x : AV} (h : namesOk us x = true) {v : Value} (hv : RepV w F ν x v) :
    RepV w F (fun b => if memB b us = true then ν b else none) x v := by
  cases x with
  | p q => exact RepP.mono (fun _ _ => rfl) (fun _ h => h) q v hv
  | pt b i => obtain ⟨g, h1, h2⟩ := hv; exact ⟨g, by show (if _ then _ else _) = _; rw [if_pos (show memB b us = true from h)]; exact h1, h2⟩
  | rpt b k i j => obtain ⟨g, n, c, h1, h2⟩ := hv; exact ⟨g, n, c, by show (if _ then _ else _) = _; rw [if_pos (show memB b us = true from h)]; exact h1, h2⟩
  | ssl b k i => obtain ⟨g, n, c, q, ad, h1, h2⟩ := hv; exact ⟨g, n, c, q, ad, by show (if _ then _ else _) = _; rw [if_pos (show memB b us = true from h)]; exact h1, h2⟩
  | psl b i => obtain ⟨g, n, c, h1, h2⟩ := hv; exact ⟨g, n, c, by show (if _ then _ else _) = _; rw [if_pos (show memB b us = true from h)]; exact h1, h2⟩
  | sl b => show (if _ then _ else _) = _; rw [if_pos (show memB b us = true from h)]; exact hv
  | fnc g l =>
    obtain ⟨cs, rfl, hs, hc⟩ := hv
    refine ⟨cs, rfl, hs, fun j b hj => ?_⟩
    obtain ⟨g', h1, h2⟩ := hc j b hj
    refine ⟨g', h1, ?_⟩
    show (if _ then _ else _) = _
    rw [if_pos (allB'_spec l h b (List.mem_of_getElem? hj))]
    exact h2
  | tup n f => cases h
  | ag n f => cases h

theorem blkLe_mem {η : Nat → Option Blk} {n : Nat} {blk : Blk} : ∀ (h : List (Nat × Option Blk)), blkLe η h → (n, some blk) ∈ h → ∃ blk0, η n = some blk0 ∧ BlkLe blk0 blk
  | [], _, hx => by simp at hx
  | (b, none) :: h, hb, hx => by
    rcases List.mem_cons.1 hx with hx | hx
    · injection hx with e1 e2; cases e2
    · exact blkLe_mem h hb hx
  | (b, some y) :: h, hb, hx => by
    rcases List.mem_cons.1 hx with hx | hx
    · injection hx with e1 e2
      injection e2 with e2
      subst e1 e2
      exact hb.1
    · exact blkLe_mem h hb.2 hx
theorem tmpsLe_mem {τ : Nat → AV} {t : Nat} {x : AV} : ∀ (l : List (Nat × AV)), tmpsLe τ l → (t, x) ∈ l → RepLe (τ t) x
  | [], _, hx => by simp at hx
  | (b, y) :: l, hb, hx => by
    rcases List.mem_cons.1 hx with hx | hx
    · injection hx with e1 e2
      subst e1 e2
      exact hb.1
    · exact tmpsLe_mem l hb.2 hx
theorem stle {N : Nat} {τ : Nat → AV} {η : Nat → Option Blk} {u : Nat → Bool} {l : List (Nat × AV)} {h : List (Nat × Option Blk)} {us : List Nat}
    (ht : tmpsLe τ l) (hb : blkLe η h) (hc : andB (allB' (fun p => namesOk us p.2) l) (andB (allB' (fun p => blkNamesOk us p.2) h) (andB (allB' (fun b => memB b us) (fsts h)) (distinctB h))) = true) :
    StLe ⟨N, τ, η, u⟩ (told N l h us) := by
  intro G a w ⟨h1, h2, F, ν, hf⟩ ⟨_, hu⟩
  simp only [andB_iff] at hc
  obtain ⟨c1, c2, c3, c4⟩ := hc
  have hus : ∀ b, (told N l h us).us b = memB b us := by
    intro b
    show upds (fun _ => false) _ b = _
    rw [upds_true]; simp
  have hη : ∀ n blk, (told N l h us).η n = some blk → ∃ blk0, η n = some blk0 ∧ BlkLe blk0 blk ∧ memB n us = true ∧ blkNamesOk us (some blk) = true := by
    intro n blk hn
    rcases upds_get h (fun _ => none) n with ⟨_, e⟩ | ⟨x, hx, e⟩
    · have : (told N l h us).η n = none := e
      rw [this] at hn; cases hn
    · have he : (told N l h us).η n = x := e
      rw [he] at hn
      subst hn
      have q1 := allB'_spec h c2 _ hx
      have q2 := allB'_spec _ c3 n (fsts_mem _ _ _ hx)
      obtain ⟨blk0, a1, a2⟩ := blkLe_mem h hb hx
      exact ⟨blk0, a1, a2, q2, q1⟩
  let ν' : Nat → Option Value := fun b => if memB b us = true then ν b else none
  refine ⟨h1, h2, F, ν', ⟨⟨hf.heap.fb, ?_, ?_, ?_⟩, fun t => ?_, ?_, hf.ext, ?_, ?_, hf.fl, hf.fr, hu⟩⟩
  · intro n blk hn
    obtain ⟨blk0, a1, a2, a3, a4⟩ := hη n blk hn
    obtain ⟨v, hv, hr⟩ := hf.heap.rep n blk0 a1
    refine ⟨v, by show (if _ then _ else _) = _; rw [if_pos a3]; exact hv, ?_⟩
    have hr := a2 w F ν v hr
    cases blk with
    | row e k n f => exact hr
    | box ty cells =>
      obtain ⟨g, cs, b1, b2, b3, b4⟩ := hr
      refine ⟨g, cs, b1, b2, b3, fun j x hx => ?_⟩
      obtain ⟨c, d1, d2, d3⟩ := b4 j x hx
      exact ⟨c, d1, d2, namesOk_rep (allB'_spec _ a4 x (List.mem_of_getElem? hx)) d3⟩
  · intro n m bn bm v v' g hn hm e1 e2 e3 e4
    obtain ⟨_, a1, _, a3, _⟩ := hη n bn hn
    obtain ⟨_, b1, _, b3, _⟩ := hη m bm hm
    have e1 : (if _ then _ else _) = some v := e1
    have e2 : (if _ then _ else _) = some v' := e2
    rw [if_pos a3] at e1; rw [if_pos b3] at e2
    exact hf.heap.sep n m _ _ v v' g a1 b1 e1 e2 e3 e4
  · intro n bn v g hn e1 e2
    obtain ⟨_, a1, _, a3, _⟩ := hη n bn hn
    have e1 : (if _ then _ else _) = some v := e1
    rw [if_pos a3] at e1
    exact hf.heap.out n _ v g a1 e1 e2
  · rcases upds_get l (fun _ => AV.p .any) t with ⟨_, e⟩ | ⟨x, hx, e⟩
    · have : (told N l h us).τ t = .p .any := e
      rw [this]; exact trivial
    · have he : (told N l h us).τ t = x := e
      rw [he]
      refine namesOk_rep (allB'_spec l c1 _ hx) ?_
      exact tmpsLe_mem l ht hx _ _ _ _ (hf.tmps t)
  · intro b hb'
    rw [hus] at hb'
    show (if _ then _ else _) = _
    rw [if_neg (by rw [hb']; simp)]
  · intro n hn
    have := hu n hn
    rw [hus] at this
    show (if _ then _ else _) = _
    rw [if_pos this]
    exact hf.same n hn
  · rintro g ⟨n, bn, v, hn, e1, e2⟩
    obtain ⟨_, a1, _, a3, _⟩ := hη n bn hn
    have e1 : (if _ then _ else _) = some v := e1
    rw [if_pos a3] at e1
    exact hf.owns g ⟨n, _, v, a1, e1, e2⟩

theorem ren_rep {w : World} {F : Nat → Prop} {ν : Nat → Option Value} {us : List Nat} (ρ : Nat → Nat) {x : AV} (h : namesOk us x = true) {v : Value} (hv : RepV w F ν (ren ρ x) v) :
    RepV w F (fun b => if memB b us = true then ν (ρ b) else none) x v := by
  cases x with
  | p q => exact RepP.mono (fun _ _ => rfl) (fun _ h => h) q v hv
  | pt b i => obtain ⟨g, h1, h2⟩ := hv; exact ⟨g, by show (if _ then _ else _) = _; rw [if_pos (show memB b us = true from h)]; exact h1, h2⟩
  | rpt b k i j => obtain ⟨g, n, c, h1, h2⟩ := hv; exact ⟨g, n, c, by show (if _ then _ else _) = _; rw [if_pos (show memB b us = true from h)]; exact h1, h2⟩
  | ssl b k i => obtain ⟨g, n, c, q, ad, h1, h2⟩ := hv; exact ⟨g, n, c, q, ad, by show (if _ then _ else _) = _; rw [if_pos (show memB b us = true from h)]; exact h1, h2⟩
  | psl b i => obtain ⟨g, n, c, h1, h2⟩ := hv; exact ⟨g, n, c, by show (if _ then _ else _) = _; rw [if_pos (show memB b us = true from h)]; exact h1, h2⟩
  | sl b => show (if _ then _ else _) = _; rw [if_pos (show memB b us = true from h)]; exact hv
  | fnc g l =>
    obtain ⟨cs, rfl, hs, hc⟩ := hv
    refine ⟨cs, rfl, by simpa using hs, fun j b hj => ?_⟩
    obtain ⟨g', h1, h2⟩ := hc j (ρ b) (by simp [hj])
    refine ⟨g', h1, ?_⟩
    show (if _ then _ else _) = _
    rw [if_pos (allB'_spec l h b (List.mem_of_getElem? hj))]
    exact h2
  | tup n f => cases h
  | ag n f => cases h
theorem renL_mem (ρ : Nat → Nat) : ∀ (l : List (Nat × AV)) (t : Nat) (x : AV), (t, x) ∈ l → (t, ren ρ x) ∈ renL ρ l
  | (t', x') :: l, t, x, h => by
    rcases List.mem_cons.1 h with h | h
    · injection h with e1 e2; subst e1 e2; exact List.mem_cons.2 (.inl rfl)
    · exact List.mem_cons.2 (.inr (renL_mem ρ l t x h))
theorem renH_mem (ρ : Nat → Nat) : ∀ (l : List (Nat × Option Blk)) (b : Nat) (x : Option Blk), (b, x) ∈ l → (ρ b, renB ρ x) ∈ renH ρ l
  | (t', x') :: l, t, x, h => by
    rcases List.mem_cons.1 h with h | h
    · injection h with e1 e2; subst e1 e2; exact List.mem_cons.2 (.inl rfl)
    · exact List.mem_cons.2 (.inr (renH_mem ρ l t x h))
theorem nth_map {α β : Type} (f : α → β) : ∀ (l : List α) (i : Nat) (x : α), nth? l i = some x → nth? (l.map f) i = some (f x)
  | y :: l, 0, x, h => by injection h with h; subst h; rfl
  | y :: l, i + 1, x, h => nth_map f l i x h
theorem rhoM_small : ∀ (m : List (Nat × Nat)) (n : Nat), allB' (fun p => Nat.ble 64 p.1) m = true → n < 64 → rhoM m n = n
  | [], n, _, _ => rfl
  | (k, v) :: m, n, h, hn => by
    simp only [allB', andB_iff] at h
    have hk : 64 ≤ k := Nat.le_of_ble_eq_true h.1
    simp only [rhoM]
    split
    · rename_i hb; have := beq_yes hb; omega
    · exact rhoM_small m n h.2 hn
/-- A frame told anew: what is told is true of it, its names other ones. -/
theorem stleR (m : List (Nat × Nat)) {N : Nat} {τ : Nat → AV} {η : Nat → Option Blk} {u : Nat → Bool} {l : List (Nat × AV)} {h : List (Nat × Option Blk)} {us : List Nat}
    (ht : tmpsLe τ (renL (rhoM m) l)) (hb : blkLe η (renH (rhoM m) h)) (hc : andB (allB' (fun p => namesOk us p.2) l) (andB (allB' (fun p => blkNamesOk us p.2) h) (andB (allB' (fun b => memB b us) (fsts h)) (andB (nodupB ((fsts h).map (rhoM m))) (allB' (fun p => Nat.ble 64 p.1) m)))) = true) :
    StLe ⟨N, τ, η, u⟩ (told N l h us) := by
  intro G a w ⟨h1, h2, F, ν, hf⟩ ⟨hm64, hu⟩
  simp only [andB_iff] at hc
  obtain ⟨c1, c2, c3, c4, c5⟩ := hc
  have hus : ∀ b, (told N l h us).us b = memB b us := by
    intro b
    show upds (fun _ => false) _ b = _
    rw [upds_true]; simp
  have hη : ∀ n blk, (told N l h us).η n = some blk → ∃ blk0, η (rhoM m n) = some blk0 ∧ (∀ v, BlkRep w F ν v blk0 → ∃ blk', renB (rhoM m) (some blk) = some blk' ∧ BlkRep w F ν v blk') ∧ memB n us = true ∧ blkNamesOk us (some blk) = true ∧ n ∈ fsts h := by
    intro n blk hn
    rcases upds_get h (fun _ => none) n with ⟨_, e⟩ | ⟨x, hx, e⟩
    · have : (told N l h us).η n = none := e
      rw [this] at hn; cases hn
    · have he : (told N l h us).η n = x := e
      rw [he] at hn
      subst hn
      have q1 := allB'_spec h c2 _ hx
      have q2 := allB'_spec _ c3 n (fsts_mem _ _ _ hx)
      have hx' := renH_mem (rhoM m) h n _ hx
      obtain ⟨blk', hblk'⟩ : ∃ blk', renB (rhoM m) (some blk) = some blk' := by cases blk <;> exact ⟨_, rfl⟩
      rw [hblk'] at hx'
      obtain ⟨blk0, a1, a2⟩ := blkLe_mem _ hb hx'
      exact ⟨blk0, a1, fun v hv => ⟨blk', hblk', a2 w F ν v hv⟩, q2, q1, fsts_mem _ _ _ hx⟩
  let ν' : Nat → Option Value := fun b => if memB b us = true then ν (rhoM m b) else none
  have hinj : ∀ n k, n ∈ fsts h → k ∈ fsts h → rhoM m n = rhoM m k → n = k := by
    intro n k hn hk he
    obtain ⟨i, hi⟩ := mem_nth _ n hn
    obtain ⟨j, hj⟩ := mem_nth _ k hk
    have := nodupB_spec _ c4 i j (rhoM m n) (nth_map _ _ _ _ hi) (by rw [he]; exact nth_map _ _ _ _ hj)
    subst this
    rw [hi] at hj; injection hj
  refine ⟨h1, h2, F, ν', ⟨⟨hf.heap.fb, ?_, ?_, ?_⟩, fun t => ?_, ?_, hf.ext, ?_, ?_, hf.fl, hf.fr, hu⟩⟩
  · intro n blk hn
    obtain ⟨blk0, a1, a2, a3, a4, _⟩ := hη n blk hn
    obtain ⟨v, hv, hr⟩ := hf.heap.rep _ blk0 a1
    refine ⟨v, by show (if _ then _ else _) = _; rw [if_pos a3]; exact hv, ?_⟩
    obtain ⟨blk', e, hr⟩ := a2 v hr
    cases blk with
    | row e k n f => injection e with e; subst e; exact hr
    | box ty cells =>
      injection e with e; subst e
      obtain ⟨g, cs, b1, b2, b3, b4⟩ := hr
      refine ⟨g, cs, b1, b2, by simpa using b3, fun j x hx => ?_⟩
      obtain ⟨c, d1, d2, d3⟩ := b4 j (ren (rhoM m) x) (by simp [hx])
      exact ⟨c, d1, d2, ren_rep _ (allB'_spec _ a4 x (List.mem_of_getElem? hx)) d3⟩
  · intro n k bn bm v v' g hn hm e1 e2 e3 e4
    obtain ⟨_, a1, _, a3, _, a5⟩ := hη n bn hn
    obtain ⟨_, b1, _, b3, _, b5⟩ := hη k bm hm
    have e1 : (if _ then _ else _) = some v := e1
    have e2 : (if _ then _ else _) = some v' := e2
    rw [if_pos a3] at e1; rw [if_pos b3] at e2
    exact hinj n k a5 b5 (hf.heap.sep _ _ _ _ v v' g a1 b1 e1 e2 e3 e4)
  · intro n bn v g hn e1 e2
    obtain ⟨_, a1, _, a3, _⟩ := hη n bn hn
    have e1 : (if _ then _ else _) = some v := e1
    rw [if_pos a3] at e1
    exact hf.heap.out _ _ v g a1 e1 e2
  · rcases upds_get l (fun _ => AV.p .any) t with ⟨_, e⟩ | ⟨x, hx, e⟩
    · have : (told N l h us).τ t = .p .any := e
      rw [this]; exact trivial
    · have he : (told N l h us).τ t = x := e
      rw [he]
      refine ren_rep _ (allB'_spec l c1 _ hx) ?_
      exact tmpsLe_mem _ ht (renL_mem _ _ _ _ hx) _ _ _ _ (hf.tmps t)
  · intro b hb'
    rw [hus] at hb'
    show (if _ then _ else _) = _
    rw [if_neg (by rw [hb']; simp)]
  · intro n hn
    have := hu n hn
    rw [hus] at this
    show (if _ then _ else _) = _
    rw [if_pos this, rhoM_small m n c5 (by omega)]
    exact hf.same n hn
  · rintro g ⟨n, bn, v, hn, e1, e2⟩
    obtain ⟨_, a1, _, a3, _⟩ := hη n bn hn
    have e1 : (if _ then _ else _) = some v := e1
    rw [if_pos a3] at e1
    exact hf.owns g ⟨_, _, v, a1, e1, e2⟩

/-! ### A function -/
theorem argsFrom_get : ∀ (l : List AV) (i t : Nat) (x : AV), (t, x) ∈ argsFrom i l → i ≤ t ∧ l[t - i]? = some x
  | [], i, t, x, h => by simp [argsFrom] at h
  | y :: l, i, t, x, h => by
    simp only [argsFrom, List.mem_cons, Prod.mk.injEq] at h
    rcases h with ⟨rfl, rfl⟩ | h
    · simp
    · obtain ⟨h1, h2⟩ := argsFrom_get l (i + 1) t x h
      refine ⟨by omega, ?_⟩
      rw [show t - i = (t - (i + 1)) + 1 from by omega]
      simpa using h2

theorem obsOf_spec {η : Nat → Option Blk} : ∀ (M : List Nat) (obs : List (Option Blk)), obsOf η M = some obs → obs.length = M.length ∧ ∀ (j b : Nat), nth? M j = some b → enumB obs j = η b ∧ pureBlk (η b) = true
  | [], obs, h => by simp [obsOf] at h; subst h; exact ⟨rfl, fun j b hj => by simp [nth?] at hj⟩
  | b :: M, obs, h => by
    simp only [obsOf] at h
    split at h
    · rename_i hp
      split at h
      · rename_i m hm
        injection h with h
        subst h
        obtain ⟨h1, h2⟩ := obsOf_spec M m hm
        refine ⟨by simp [h1], fun j c hj => ?_⟩
        cases j with
        | zero => simp [nth?] at hj; subst hj; exact ⟨rfl, hp⟩
        | succ j => exact h2 j c hj
      · cases h
    · cases h
theorem upFrom_nth : ∀ (n i j : Nat), j < n → nth? (upFrom n i) j = some (i + j)
  | 0, i, j, h => by omega
  | n + 1, i, 0, _ => rfl
  | n + 1, i, j + 1, h => by
    show nth? (upFrom n (i + 1)) j = _
    rw [upFrom_nth n (i + 1) j (by omega)]
    congr 1; omega
theorem upFrom_len : ∀ (n i : Nat), (upFrom n i).length = n
  | 0, i => rfl
  | n + 1, i => by simp [upFrom, upFrom_len n]
theorem nth_append : ∀ (l m : List Nat) (j : Nat), j < l.length → nth? (l ++ m) j = nth? l j
  | [], m, j, h => by simp at h
  | x :: l, m, 0, _ => rfl
  | x :: l, m, j + 1, h => nth_append l m j (by simpa using h)
theorem getTmps_get (τ : Nat → AV) : ∀ (l : List Nat) (j t : Nat), l[j]? = some t → (getTmps τ l)[j]? = some (τ t)
  | [], j, t, h => by simp at h
  | u :: l, 0, t, h => by simp at h; subst h; rfl
  | u :: l, j + 1, t, h => by simpa [getTmps] using getTmps_get τ l j t (by simpa using h)
theorem getTmps_len (τ : Nat → AV) : ∀ (l : List Nat), (getTmps τ l).length = l.length
  | [] => rfl
  | u :: l => by simp [getTmps, getTmps_len τ l]

theorem obsLe_spec : ∀ (l m : List (Option Blk)), obsLe l m → l.length = m.length ∧ ∀ j c, enumB m j = some c → ∃ b, enumB l j = some b ∧ BlkLe b c
  | [], [], _ => ⟨rfl, fun j c h => by simp [enumB, at_] at h⟩
  | none :: l, none :: m, h => by
    obtain ⟨h1, h2⟩ := obsLe_spec l m h
    refine ⟨by simp [h1], fun j c hj => ?_⟩
    cases j with
    | zero => simp [enumB, at_] at hj
    | succ j => exact h2 j c hj
  | some b :: l, some c :: m, h => by
    obtain ⟨h1, h2⟩ := obsLe_spec l m h.2
    refine ⟨by simp [h1], fun j d hj => ?_⟩
    cases j with
    | zero => simp [enumB, at_] at hj; subst hj; exact ⟨b, rfl, h.1⟩
    | succ j => exact h2 j d hj
  | [], x :: _, h => by cases x <;> simp [obsLe] at h
  | x :: _, [], h => by cases x <;> simp [obsLe] at h
  | none :: _, some _ :: _, h => by simp [obsLe] at h
  | some _ :: _, none :: _, h => by simp [obsLe] at h
theorem RepLe.of {x y : AV} (h : x = y) : RepLe x y := h ▸ RepLe.refl x
theorem RepLe.bl {b c : Bool} (h : b = c) : RepLe (.p (.bl b)) (.p (.val (.bool c))) := by subst h; exact fun _ _ _ _ h => h
theorem RepLe.any {x : AV} : RepLe x (.p .any) := fun _ _ _ _ _ => trivial
def allLe : List AV → List AV → Prop
  | [], [] => True
  | x :: l, y :: m => RepLe x y ∧ allLe l m
  | _, _ => False
theorem allLe_spec : ∀ (l m : List AV), allLe l m → l.length = m.length ∧ ∀ j, RepLe (at_ (.p .any) l j) (at_ (.p .any) m j)
  | [], [], _ => ⟨rfl, fun j => RepLe.refl _⟩
  | x :: l, y :: m, h => by
    obtain ⟨h1, h2⟩ := allLe_spec l m h.2
    exact ⟨by simp [h1], fun j => by cases j with | zero => exact h.1 | succ j => exact h2 j⟩
  | [], _ :: _, h => h.elim
  | _ :: _, [], h => h.elim
theorem RepLe.tup {l m : List AV} (h : allLe l m) : RepLe (.tup l.length (at_ (.p .any) l)) (.tup m.length (at_ (.p .any) m)) := by
  obtain ⟨h1, h2⟩ := allLe_spec l m h
  rintro w F ν v ⟨vs, rfl, hs, hc⟩
  exact ⟨vs, rfl, by omega, fun j hj => let ⟨u, a, b⟩ := hc j (by omega); ⟨u, a, h2 j _ _ _ _ b⟩⟩

theorem tmp_put (a : Act) (t : Nat) (v : Value) (h : t < a.tmps.size) (s : Nat) : (a.put (some t) v).tmps.getD s undef = if s = t then v else a.tmps.getD s undef := by
  by_cases e : s = t
  · subst e; simp [Act.put, h]
  · rw [if_neg e]
    simp [Act.put, Array.getElem?_setIfInBounds_ne (Ne.symm e)]

/-- A variable of a result is read. -/
theorem load_cell {P : Program} {T : Nat → Option TI} (hT : TabOk P T) {ty : Nat} {ti : TI} (hti : T ty = some ti) (hag : ti.agg = true) {t b i tt : Nat} {cells : List AV} {vs : List PV} {ns : List Nat} {σ : St} (hx : σ.τ t = .pt b i)
    (hb : σ.η b = some (.box tt cells)) (hp : purify σ.η (take_ ti.size (drop_ i cells)) = some (vs, ns)) (hlen : vs.length = ti.size) {G : Gh} {a : Act} {w : World} {F : Nat → Prop} {ν : Nat → Option Value} (hi : FInv G σ a w F ν) :
    ∃ ad v F', a.tmps.getD t undef = .pointer (some ad) ∧ (loadVar ty ad).run P w = .ok v w ∧ FInv G { σ with η := upds σ.η (frees ns) } a w F' ν ∧ RepV w F' ν (.p (aggL vs)) v := by
  have e1 := hi.tmps t
  rw [hx] at e1
  obtain ⟨g, hν, hv⟩ := e1
  obtain ⟨u, hu, g', cs, hu', hg', hs, hc⟩ := hi.heap.rep b _ hb
  rw [hν] at hu
  injection hu with hu
  rw [hu'] at hu
  injection hu with hu
  injection hu with hu
  injection hu with hu
  subst hu
  obtain ⟨q1, q2⟩ := purify_rep (F' := fun b => F b ∨ Base ν σ.η ns b) hi.heap (fun _ => .inl) _ vs ns hp (fun _ => .inr)
  have hcells : ∀ j, j < ti.size → ∃ u, w.cell? ((⟨g, i, none⟩ : Addr).add j) = some u ∧ u.oneCell' = true ∧ RepP w (fun b => F b ∨ Base ν σ.η ns b) (at_ .any vs j) u := by
    intro j hj
    have hj' : j < (take_ ti.size (drop_ i cells)).length := by omega
    have hget := List.getElem?_eq_getElem hj'
    generalize (take_ ti.size (drop_ i cells))[j] = y at hget
    have hcl := (take_get _ _ _ _ hget).1
    rw [drop_get] at hcl
    obtain ⟨z, z1, z2, z3⟩ := hc (i + j) y hcl
    refine ⟨z, ?_, z2, q2 j y z hget z3⟩
    rw [at_add]
    unfold World.cell?
    rw [hg']
    simpa using z1
  obtain ⟨v, hr, hpv⟩ := run_loadVar_rep hT hti (w := w) (a := ⟨g, i, none⟩) (f := at_ .any vs) hcells
  refine ⟨_, v, _, hv, hr, hi.freeze ns, ?_⟩
  rw [hag] at hpv
  obtain ⟨cs2, e1, e2, e3⟩ := hpv
  refine ⟨cs2, e1, by rw [e2, upto_len]; exact hlen.symm, fun j hj => ?_⟩
  rw [hlen] at hj
  obtain ⟨u2, b1, b2, b3⟩ := e3 j (by rw [upto_len]; exact hj)
  rw [at_upto _ _ _ _ _ hj, Nat.zero_add] at b3
  exact ⟨u2, b1, b2, b3⟩

/-- The same, its rows still the frame's own. -/
theorem load_cell_ag {P : Program} {T : Nat → Option TI} (hT : TabOk P T) {ty : Nat} {ti : TI} (hti : T ty = some ti) (hag : ti.agg = true) {t b i tt : Nat} {cells : List AV} {σ : St} (hx : σ.τ t = .pt b i)
    (hb : σ.η b = some (.box tt cells)) (hlen : (take_ ti.size (drop_ i cells)).length = ti.size) {G : Gh} {a : Act} {w : World} {F : Nat → Prop} {ν : Nat → Option Value} (hi : FInv G σ a w F ν) :
    ∃ ad v, a.tmps.getD t undef = .pointer (some ad) ∧ (loadVar ty ad).run P w = .ok v w ∧ RepV w F ν (.ag ti.size (at_ (.p .any) (take_ ti.size (drop_ i cells)))) v := by
  have e1 := hi.tmps t
  rw [hx] at e1
  obtain ⟨g, hν, hv⟩ := e1
  obtain ⟨u, hu, g', cs, hu', hg', hs, hc⟩ := hi.heap.rep b _ hb
  rw [hν] at hu
  injection hu with hu
  rw [hu'] at hu
  injection hu with hu
  injection hu with hu
  injection hu with hu
  subst hu
  obtain ⟨v, hr, hpv⟩ := load_ag (P := P) hT hti hag hc hg' hlen
  exact ⟨_, v, hv, hr, hpv⟩

theorem nodup_cons {t : Nat} {l : List Nat} (h : nodupB (t :: l) = true) : t ∉ l ∧ nodupB l = true := by
  simp only [nodupB] at h
  split at h
  · cases h
  · rename_i hm
    refine ⟨fun hx => ?_, h⟩
    rw [(memB_iff l).2 hx] at hm
    cases hm

theorem fsts_rv_mem : ∀ (l : List RV) (r : RV), r ∈ l → r.1 ∈ fsts l
  | r' :: l, r, h => by
    rcases List.mem_cons.1 h with rfl | h
    · exact List.mem_cons.2 (.inl rfl)
    · exact List.mem_cons.2 (.inr (fsts_rv_mem l r h))

/-- The results are read, one by one: a frame in which they all lie in slots. -/
theorem results_read {P : Program} {T : Nat → Option TI} (hT : TabOk P T) {G : Gh} {m : Nat} {rs : List Nat} {res : AV} {obs : List (Option Blk)} {w : World} (tm : Array Value)
    (g : ResultVar → Sem Value) (hg1 : ∀ t, g (.tmp t) = pure (tm.getD t undef)) (hg2 : ∀ t ty ad v, tm.getD t undef = .pointer (some ad) → (loadVar ty ad).run P w = .ok v w → (g (.cell t ty)).run P w = .ok v w) :
    ∀ (rv : List RV) (σ : St) (a : Act), nodupB (fsts rv) = true → (∀ t, t ∈ fsts rv → a.tmps.getD t undef = tm.getD t undef) → Inv G σ a w → RetC T m rs res obs (cellsOf rv) σ →
      ∃ a' σ', Inv G σ' a' w ∧ RetK m rs res obs σ' ∧ (List.mapM g (rv.map toRV)).run P w = .ok (rv.map fun r => a'.tmps.getD r.1 undef) w ∧ ∀ t, t ∉ fsts rv → a'.tmps.getD t undef = a.tmps.getD t undef
  | [], σ, a, _, _, hi, h => ⟨a, σ, hi, h, rfl, fun _ _ => rfl⟩
  | (t, none) :: l, σ, a, hnd, ht, hi, h => by
    obtain ⟨htl, hnd⟩ := nodup_cons hnd
    obtain ⟨a', σ', h1, h2, h3, h4⟩ := results_read hT tm g hg1 hg2 l σ a hnd (fun s hs => ht s (List.mem_cons.2 (.inr hs))) hi h
    refine ⟨a', σ', h1, h2, ?_, fun s hs => h4 s fun hm => hs (List.mem_cons.2 (.inr hm))⟩
    simp only [List.map_cons, List.mapM_cons, Sem.run_bind, Sem.run_pure, Result.andThen_ok, h3, toRV, hg1]
    rw [h4 t htl, ht t (List.mem_cons.2 (.inl rfl))]
  | (t, some ty) :: l, ⟨N, τ, η, us⟩, a, hnd, ht, hi, h => by
    obtain ⟨htl, hnd⟩ := nodup_cons hnd
    simp only [cellsOf, RetC] at h
    split at h
    case h_2 => exact h.elim
    rename_i ti hti
    split at h
    case h_2 => exact h.elim
    rename_i b i hx
    split at h
    case h_2 => exact h.elim
    rename_i tt cells hb
    split at h
    case h_2 => exact h.elim
    rename_i vs ns hp
    split at h
    case h_2 => exact h.elim
    rename_i hc
    rw [andB_iff, andB_iff] at hc
    obtain ⟨hdef, hN, F, ν, hf⟩ := hi
    have hd : dstOk (some t) N = true := hc.2.2
    have hlt : t < a.tmps.size := by rw [hN]; exact Nat.le_of_ble_eq_true hc.2.2
    have gen : ∀ (ad : Addr) (v : Value) (x : AV) (η' : Nat → Option Blk) (F' : Nat → Prop), a.tmps.getD t undef = .pointer (some ad) → (loadVar ty ad).run P w = .ok v w → FInv G ⟨N, τ, η', us⟩ a w F' ν → RepV w F' ν x v →
        RetC T m rs res obs (cellsOf l) ⟨N, upd τ t x, η', us⟩ → ∃ a' σ', Inv G σ' a' w ∧ RetK m rs res obs σ' ∧ (List.mapM g (((t, some ty) :: l).map toRV)).run P w = .ok (((t, some ty) :: l).map fun r => a'.tmps.getD r.1 undef) w ∧ ∀ s, s ∉ fsts ((t, some ty) :: l) → a'.tmps.getD s undef = a.tmps.getD s undef := by
      intro ad v x η' F' q1 q2 q3 q4 h
      have hi2 : Inv G ⟨N, upd τ t x, η', us⟩ (a.put (some t) v) w :=
        ⟨⟨by rw [defers_put]; exact hdef.1, hdef.2⟩, by rw [size_put]; exact hN, F', ν, q3.put hN hd q4 []⟩
      obtain ⟨a', σ', h1, h2, h3, h4⟩ := results_read hT tm g hg1 hg2 l _ (a.put (some t) v) hnd (fun s hs => by
        rw [tmp_put a t v hlt s, if_neg (show ¬ s = t from fun e => htl (by rw [← e]; exact hs))]
        exact ht s (List.mem_cons.2 (.inr hs))) hi2 h
      refine ⟨a', σ', h1, h2, ?_, fun s hs => ?_⟩
      · have hgt := hg2 t ty ad v (by rw [← ht t (List.mem_cons.2 (.inl rfl))]; exact q1) q2
        simp only [List.map_cons, List.mapM_cons, Sem.run_bind, Sem.run_pure, Result.andThen_ok, h3, toRV, hgt]
        rw [h4 t htl, tmp_put a t v hlt t, if_pos rfl]
      · rw [h4 s fun hm => hs (List.mem_cons.2 (.inr hm)), tmp_put a t v hlt s, if_neg fun e => hs (List.mem_cons.2 (.inl e))]
    obtain ⟨ad, v, F', q1, q2, q3, q4⟩ := load_cell (P := P) hT hti hc.1 (σ := ⟨N, τ, η, us⟩) hx hb hp (beq_yes hc.2.1) hf
    split at h
    · exact gen ad v _ _ F' q1 q2 q3 q4 h
    · rcases h with h | h
      · exact gen ad v _ _ F' q1 q2 q3 q4 h
      · obtain ⟨ad2, v2, r1, r2, r3⟩ := load_cell_ag (P := P) hT hti hc.1 (σ := ⟨N, τ, η, us⟩) hx hb (by rw [← purify_len _ _ _ hp]; exact beq_yes hc.2.1) hf
        exact gen ad2 v2 _ _ F r1 r2 hf r3 h

theorem results_run {P : Program} {T : Nat → Option TI} (hT : TabOk P T) {G : Gh} {m : Nat} {res : AV} {obs : List (Option Blk)} (fn : Func) (rv : List RV) (hr : fn.results.toList = rv.map toRV) (hnd : nodupB (fsts rv) = true) {a : Act} {w : World} {σ : St} {rs : List Nat} (hrs : fsts rv = rs)
    (hi : Inv G σ a w) (h : RetC T m (fsts rv) res obs (cellsOf rv) σ) : ∃ a' σ', Inv G σ' a' w ∧ RetK m rs res obs σ' ∧
    (results fn a.tmps).run P w = .ok (if h : (rs.map fun t => a'.tmps.getD t undef).length = 1 then (rs.map fun t => a'.tmps.getD t undef)[0] else .tuple (rs.map fun t => a'.tmps.getD t undef).toArray) w := by
  subst hrs
  have hr' : fn.results = (rv.map toRV).toArray := by rw [← hr]
  have hfst : ∀ (f : Nat → Value) (l : List RV), (l.map fun r => f r.1) = (fsts l).map f := by
    intro f l
    induction l with
    | nil => rfl
    | cons r l ih => simp only [List.map_cons, ih]; rfl
  obtain ⟨g, hg1, hg2, hg⟩ : ∃ g : ResultVar → Sem Value, (∀ t, g (.tmp t) = pure (a.tmps.getD t undef)) ∧ (∀ c t, g (.cell c t) = (do loadVar t (← asAddr (a.tmps.getD c undef)))) ∧
      results fn a.tmps = (do let vs ← fn.results.mapM g; pure (if h : vs.size = 1 then vs[0] else .tuple vs)) := ⟨_, fun _ => rfl, fun _ _ => rfl, rfl⟩
  obtain ⟨a', σ', h1, h2, h3, h4⟩ := results_read (P := P) hT a.tmps g hg1 (fun t ty ad v e1 e2 => by rw [hg2, e1]; simp [asAddr, e2]) rv σ a hnd (fun _ _ => rfl) hi h
  refine ⟨a', σ', h1, h2, ?_⟩
  rw [hg, hr', List.mapM_toArray, Sem.run_bind, Sem.run_map, h3]
  rw [hfst fun t => a'.tmps.getD t undef]
  simp only [Result.andThen_ok, Sem.run_pure]
  simp

theorem gcall {P : Program} {T : Nat → Option TI} (hT : TabOk P T) {f : FuncId} {fn : Func} {c : Code} (hf : P.funcs[f]? = some fn) (hb : fn.body = some c) (hname : (fn.name == "runtime.NumGoroutine") = false) {rv : List RV}
    (hr : fn.results.toList = rv.map toRV) (hnd : nodupB (fsts rv) = true) {args : List AV} {bs : List (Option Blk)} {res : AV} {obs : List (Option Blk)} (hN : Nat.ble args.length fn.ntmps = true)
    (h : ∀ G : Gh, G.m = bs.length → AW P G c (PostK T bs.length rv res obs) (start fn.ntmps args bs)) : GCall P f args bs res obs := by
  have hN : args.length ≤ fn.ntmps := Nat.le_of_ble_eq_true hN
  refine ⟨fun as w => ?_, fun w F ν vals hh hν hlen hargs => ?_⟩
  · have h1 : fn.name ≠ "runtime.NumGoroutine" := by simpa using hname
    simp [callFunc, hf, h1, hb, mark]
  · let G : Gh := ⟨w, F, Owns ν (enumB bs), ν, bs.length⟩
    have hi : Inv G (start fn.ntmps args bs) { tmps := vals.toArray ++ Array.replicate (fn.ntmps - vals.toArray.size) undef, defers := [] } w := by
      refine ⟨⟨rfl, Nat.le_refl _⟩, by simp [start]; omega, F, ν, ⟨hh, fun t => ?_, fun b hb => ?_, ⟨Nat.le_refl _, fun _ _ _ => rfl, rfl, rfl, rfl⟩, fun _ _ => rfl, fun g hg => .inl hg, fun _ h => h, fun _ h => .inl h, fun n hn => ?_⟩⟩
      · show RepV w F ν (upds (fun _ => .p .any) (argsFrom 0 args) t) _
        rcases upds_get (argsFrom 0 args) (fun _ => AV.p .any) t with ⟨_, e⟩ | ⟨x, hx, e⟩
        · rw [e]; exact trivial
        · rw [e]
          obtain ⟨_, hx⟩ := argsFrom_get args 0 t x hx
          have hx : args[t]? = some x := by simpa using hx
          have htl : t < vals.length := by rw [hlen]; exact (List.getElem?_eq_some_iff.1 hx).1
          have := hargs t x _ hx (List.getElem?_eq_getElem htl)
          have hg : (vals.toArray ++ Array.replicate (fn.ntmps - vals.toArray.size) undef).getD t undef = vals[t] := by
            simp only [Array.getD_eq_getD_getElem?]
            rw [Array.getElem?_append_left (by simpa using htl)]
            simp [htl]
          rw [hg]; exact this
      · refine hν b ?_
        have : Nat.blt b bs.length = false := hb
        rcases Nat.lt_or_ge b bs.length with h1 | h1
        · have h2 : Nat.blt b bs.length = true := Nat.ble_eq_true_of_le h1
          rw [h2] at this; cases this
        · exact h1
      · exact Nat.ble_eq_true_of_le hn
    refine calls_of_wp hf hb (wp_mono (h G rfl _ _ hi) ?_)
    have fin : ∀ a' w' σ', Inv G σ' a' w' → RetC T bs.length (fsts rv) res obs (cellsOf rv) σ' → a'.defers = [] ∧ ∃ v, (results fn a'.tmps).run P w' = .ok v w' ∧ (∃ v' F' ν', Ending.returned v = .returned v' ∧ RepV w' F' ν' res v' ∧ HInv w' F' ν' (enumB obs) ∧ Ext w w' (Owns ν (enumB bs)) ∧
      (∀ n, n < bs.length → ν' n = ν n) ∧ (∀ n, obs.length ≤ n → ν' n = none) ∧
      (∀ g, Owns ν' (enumB obs) g → Owns ν (enumB bs) g ∨ w.heap.size ≤ g) ∧
      (∀ b, F b → F' b) ∧ (∀ b, F' b → F b ∨ Owns ν (enumB bs) b ∨ w.heap.size ≤ b) ∧ w.drawn ≤ w'.drawn) := by
      obtain ⟨rs, hrs⟩ : ∃ rs, fsts rv = rs := ⟨_, rfl⟩
      intro a0 w' σ0 hinv0 hret0
      obtain ⟨a', σ', ⟨_, h2, F1, ν1, hf1⟩, ⟨M, ys, ns, obs0, k1, k2, k3, kle, kob⟩, hrun⟩ := results_run (P := P) hT fn rv hr hnd hrs hinv0 hret0
      have h1 := hinv0.1.1
      have hdr : w.drawn ≤ w'.drawn := hinv0.1.2
      obtain ⟨ol, oh⟩ := obsLe_spec obs0 obs kob
      rw [andB_iff] at k3
      refine ⟨h1, _, hrun, _, (fun b => F1 b ∨ Base ν1 σ'.η ns b), (fun j => match nth? (upFrom bs.length 0 ++ M) j with | some b => ν1 b | none => none), rfl, ?_⟩
      generalize hNN : upFrom bs.length 0 ++ M = NN at *
      let νc : Nat → Option Value := fun j => match nth? NN j with | some b => ν1 b | none => none
      have hνc : ∀ j b, nth? NN j = some b → νc j = ν1 b := fun j b hj => by simp only [νc, hj]
      obtain ⟨q1, q2⟩ := argsOf_rep (F' := fun b => F1 b ∨ Base ν1 σ'.η ns b) (νc := νc) hf1.heap (fun _ => .inl) (fun j b u hj hu => by rw [hνc j b hj]; exact hu) _ ys ns k1 (fun _ => .inr)
      obtain ⟨o1, o2⟩ := obsOf_spec NN obs0 k2
      have hnd := nodupB_spec NN k3.1
      have hap := apartB_spec NN ns k3.2
      have hin0 : ∀ j bn, enumB obs0 j = some bn → ∃ b, nth? NN j = some b ∧ σ'.η b = some bn ∧ pureBlk (some bn) = true := by
        intro j bn hj
        have hlt : j < NN.length := by rw [← o1]; exact enumB_lt hj
        obtain ⟨b, hb⟩ := nth_lt NN j hlt
        obtain ⟨h1, h2⟩ := o2 j b hb
        rw [hj] at h1
        exact ⟨b, hb, h1.symm, by rw [← h1] at h2; exact h2⟩
      have hin : ∀ j bn, enumB obs j = some bn → ∃ b bn0, nth? NN j = some b ∧ σ'.η b = some bn0 ∧ pureBlk (some bn0) = true ∧ BlkLe bn0 bn := by
        intro j bn hj
        obtain ⟨bn0, h1, h2⟩ := oh j bn hj
        obtain ⟨b, a1, a2, a3⟩ := hin0 j bn0 h1
        exact ⟨b, bn0, a1, a2, a3, h2⟩
      have hblt : ∀ n bn u g', σ'.η n = some bn → ν1 n = some u → baseOf u = some g' → g' < w'.heap.size := by
        intro n bn u g' h1 h2 h3
        obtain ⟨u'', hu', hr⟩ := hf1.heap.rep n bn h1
        rw [h2] at hu'; injection hu' with hu'; subst hu'
        exact blk_lt hr h3
      refine ⟨?_, ⟨?_, ?_, ?_, ?_⟩, hf1.ext, ?_, ?_, ?_, fun b hb => .inl (hf1.fl b hb), ?_, hdr⟩
      · refine kle _ _ _ _ ?_
        have rep1 : ∀ (j t : Nat), rs[j]? = some t → ∃ y, ys[j]? = some y ∧ RepV w' (fun b => F1 b ∨ Base ν1 σ'.η ns b) νc y (a'.tmps.getD t undef) := by
          intro j t hj
          have hg := getTmps_get σ'.τ rs j t hj
          have hjl : j < ys.length := by rw [q1, getTmps_len]; exact (List.getElem?_eq_some_iff.1 hj).1
          have hy := List.getElem?_eq_getElem hjl
          obtain ⟨x, hx, hr⟩ := q2 j _ hy
          rw [hg] at hx
          injection hx with hx
          subst hx
          exact ⟨_, hy, hr _ (hf1.tmps t)⟩
        have hyl : ys.length = rs.length := by rw [q1, getTmps_len]
        by_cases hone : rs.length = 1
        · obtain ⟨t, rfl⟩ : ∃ t, rs = [t] := List.length_eq_one_iff.1 hone
          obtain ⟨y, rfl⟩ : ∃ y, ys = [y] := List.length_eq_one_iff.1 (hyl.trans hone)
          obtain ⟨y', hy', hr⟩ := rep1 0 t rfl
          simp at hy'
          subst hy'
          simpa [mkRes] using hr
        · have hmk : mkRes ys = .tup ys.length (at_ (.p .any) ys) := by
            cases ys with
            | nil => rfl
            | cons y l => cases l with
              | nil => simp at hyl; omega
              | cons z l => rfl
          rw [hmk, dif_neg (by simpa using hone)]
          refine ⟨_, rfl, by simp [hyl], fun j hj => ?_⟩
          have hjr : j < rs.length := by omega
          obtain ⟨y, hy, hr⟩ := rep1 j _ (List.getElem?_eq_getElem hjr)
          refine ⟨_, by simp [hjr]; rfl, ?_⟩
          rw [at_get _ _ _ _ hy]
          simpa using hr
      · rintro b (hb | ⟨n, bn, u', _, h1, h2, h3⟩)
        · exact hf1.heap.fb b hb
        · exact hblt n bn u' b h1 h2 h3
      · intro j bn hj
        obtain ⟨b, bn0, hb, c1, c2, c3⟩ := hin j bn hj
        obtain ⟨u, hu, hr⟩ := hf1.heap.rep b bn0 c1
        exact ⟨u, (hνc j b hb).trans hu, c3 _ _ _ _ (hr.pure c2 fun _ => .inl)⟩
      · intro i j bi bj u u' g' hi' hj' e1 e2 e3 e4
        obtain ⟨b, bi0, hb, a1, a2, _⟩ := hin i bi hi'
        obtain ⟨c', bj0, hc', c1, c2, _⟩ := hin j bj hj'
        have e1 := (hνc i b hb).symm.trans e1
        have e2 := (hνc j c' hc').symm.trans e2
        have := hf1.heap.sep b c' bi0 bj0 u u' g' a1 c1 e1 e2 e3 e4
        subst this
        exact hnd i j b hb hc'
      · intro j bn u g' hj e1 e2
        obtain ⟨b, bn0, hb, a1, a2, _⟩ := hin j bn hj
        have e1 := (hνc j b hb).symm.trans e1
        rintro (hF | ⟨n, bn', u', hn', c1, c2, c3⟩)
        · exact hf1.heap.out b bn0 u g' a1 e1 e2 hF
        · have := hf1.heap.sep b n bn0 bn' u u' g' a1 c1 e1 c2 e2 c3
          subst this
          exact hap b (nth_mem NN j b hb).1 hn'
      · intro n hn
        have : nth? NN n = some n := by
          rw [← hNN, nth_append _ _ _ (by rw [upFrom_len]; exact hn), upFrom_nth _ _ _ hn, Nat.zero_add]
        exact (hνc n n this).trans (hf1.same n hn)
      · intro n hn
        have hn : obs0.length ≤ n := by omega
        show (match nth? NN n with | some b => ν1 b | none => none) = none
        split
        · rename_i b hb; have := (nth_mem NN n b hb).2; omega
        · rfl
      · rintro g ⟨j, bn, u, hj, e1, e2⟩
        obtain ⟨b, bn0, hb, a1, a2, _⟩ := hin j bn hj
        exact hf1.owns g ⟨b, bn0, u, a1, (hνc j b hb).symm.trans e1, e2⟩
      · rintro b (hb | hb)
        · exact hf1.fr b hb
        · exact .inr (hf1.owns b hb.owns)
    rintro e a' w' ⟨σ', h1, h2⟩
    cases e with
    | normal => exact fin a' w' σ' h1 h2
    | ret => exact fin a' w' σ' h1 h2
    | _ => exact h2.elim

theorem boolK_mono {x : AV} {K K' : Bool → Prop} (h : boolK x K) (hk : ∀ c, K c → K' c) : boolK x K' := by
  unfold boolK at h ⊢
  split at h
  · rename_i c
    cases c
    · exact hk _ h
    · exact hk _ h
  · exact ⟨fun hc => hk _ (h.1 hc), fun hc => hk _ (h.2 hc)⟩
  · exact h.elim
/-! ### Code, reckoned up to its loops -/
def codeK (P : Program) (T : Nat → Option TI) (G : Gh) (c : Code) : (Exit → St → Prop) → St → Prop :=
  Code.rec (motive := fun _ => (Exit → St → Prop) → St → Prop)
    (skip := fun Q σ => Q .normal σ)
    (region := fun id ops d Q σ => opsK P T ops.toList (id * 4096) ops.toList [] σ (endK d ops.toList (Q .normal)))
    (seq := fun _ _ ha hb Q σ => ha (thenK (hb Q) Q) σ)
    (cond := fun c _ _ hx hy Q σ => boolK (ev σ c) fun t => match t with | true => hx Q σ | false => hy Q σ)
    (block := fun id _ h Q σ => h (blockK id Q) σ)
    (loop := fun c _ Q σ => AW P G (.loop c) Q σ)
    (rangeFunc := fun f ps a b _ _ Q σ => AW P G (.rangeFunc f ps a b) Q σ)
    (exit := fun id Q σ => Q (.exit id) σ)
    (scope := fun c _ Q σ => AW P G (.scope c) Q σ)
    (label := fun _ Q σ => Q .normal σ)
    (goto := fun l Q σ => Q (.goto l) σ)
    (ret := fun Q σ => Q .ret σ)
    (refuse := fun w Q σ => AW P G (.refuse w) Q σ) c
theorem codeK_aw {P : Program} {T : Nat → Option TI} {G : Gh} (hT : TabOk P T) (hm : P.follows .mixedOrders = true) : ∀ (c : Code) (Q : Exit → St → Prop) (σ : St), codeK P T G c Q σ → AW P G c Q σ
  | .seq a b, Q, σ, h => AW.seq ((codeK_aw hT hm a _ σ h).mono fun e σ hq => by
      cases e with
      | normal => exact codeK_aw hT hm b Q σ hq
      | _ => exact hq)
  | .region id ops d, Q, σ, h => by
    have := AW.region (G := G) (Q := Q) (id := id) hT hm h
    rwa [Array.toArray_toList] at this
  | .cond c x y, Q, σ, h => by
    have h : boolK (ev σ c) (fun t => match t with | true => codeK P T G x Q σ | false => codeK P T G y Q σ) := h
    exact AW.cond (boolK_mono h fun t ht => by
      cases t with
      | true => exact codeK_aw hT hm x Q σ ht
      | false => exact codeK_aw hT hm y Q σ ht)
  | .skip, Q, σ, h => AW.skip h
  | .label _, Q, σ, h => AW.label h
  | .ret, Q, σ, h => AW.ret h
  | .exit id, Q, σ, h => AW.exit h
  | .goto l, Q, σ, h => AW.goto h
  | .block id c, Q, σ, h => AW.block (codeK_aw hT hm c _ σ h)
  | .loop c, Q, σ, h => h
  | .scope c, Q, σ, h => h
  | .rangeFunc .., Q, σ, h => h
  | .refuse _, Q, σ, h => h

/-- A function: its body reckoned. -/
theorem gcode {P : Program} {T : Nat → Option TI} (hT : TabOk P T) (hm : P.follows .mixedOrders = true) {f : FuncId} {fn : Func} {c : Code} (hf : P.funcs[f]? = some fn) (hb : fn.body = some c) (hname : (fn.name == "runtime.NumGoroutine") = false) {rv : List RV}
    (hr : fn.results.toList = rv.map toRV) (hnd : nodupB (fsts rv) = true) {args : List AV} {bs : List (Option Blk)} {res : AV} {obs : List (Option Blk)} (hN : Nat.ble args.length fn.ntmps = true)
    (h : ∀ G : Gh, G.m = bs.length → codeK P T G c (PostK T bs.length rv res obs) (start fn.ntmps args bs)) : GCall P f args bs res obs :=
  gcall hT hf hb hname hr hnd hN fun G hG => codeK_aw hT hm c _ _ (h G hG)
attribute [irreducible] AW
end Go.Av
