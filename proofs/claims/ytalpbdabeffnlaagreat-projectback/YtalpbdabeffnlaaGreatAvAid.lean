/- Aids: loops that look through a list, numbers that don't wrap. -/
import Derived.Test.YtalpbdabeffnlaaGreatAvTab
set_option linter.unusedVariables false
set_option linter.unusedSimpArgs false
namespace Go.Av
open Go Go.RowKit

def allUpto (p : Nat → Bool) : Nat → Nat → Bool
  | 0, _ => true
  | k + 1, i => p i && allUpto p k (i + 1)
theorem allUpto_step (p : Nat → Bool) {i n : Nat} (h : i < n) : allUpto p (n - i) i = (p i && allUpto p (n - (i + 1)) (i + 1)) := by
  obtain ⟨k, hk⟩ : ∃ k, n - i = k + 1 := ⟨n - i - 1, by omega⟩
  rw [hk, show n - (i + 1) = k from by omega]; rfl
theorem allUpto_end (p : Nat → Bool) (n : Nat) : allUpto p (n - n) n = true := by rw [Nat.sub_self]; rfl
theorem allUpto_iff (p : Nat → Bool) : ∀ (k i : Nat), allUpto p k i = true ↔ ∀ j, i ≤ j → j < i + k → p j = true
  | 0, i => by simp [allUpto]; omega
  | k + 1, i => by
    simp only [allUpto, Bool.and_eq_true, allUpto_iff p k]
    constructor
    · rintro ⟨h1, h2⟩ j hj hk
      by_cases e : j = i
      · subst e; exact h1
      · exact h2 j (by omega) (by omega)
    · intro h; exact ⟨h i (by omega) (by omega), fun j hj hk => h j (by omega) (by omega)⟩
/-- The first place from i on, of k, at which p holds. -/
def findUpto (p : Nat → Bool) : Nat → Nat → Option Nat
  | 0, _ => none
  | k + 1, i => match p i with | true => some i | false => findUpto p k (i + 1)
theorem findUpto_step (p : Nat → Bool) {i n : Nat} (h : i < n) : findUpto p (n - i) i = (match p i with | true => some i | false => findUpto p (n - (i + 1)) (i + 1)) := by
  obtain ⟨k, hk⟩ : ∃ k, n - i = k + 1 := ⟨n - i - 1, by omega⟩
  rw [hk, show n - (i + 1) = k from by omega]; rfl
theorem findUpto_end (p : Nat → Bool) (n : Nat) : findUpto p (n - n) n = none := by rw [Nat.sub_self]; rfl

theorem used0 {G : Gh} {X : Type} (h : G.m = ([] : List (Option Blk)).length) (S : X → St) : ∀ x, UsOk G (S x).us := by
  intro x; refine ⟨by rw [h]; exact Nat.zero_le _, fun n hn => ?_⟩; rw [h] at hn; exact absurd hn (Nat.not_lt_zero n)
theorem wrap64_eq {z x : Int} (h : z = wrapO .i64 x) (h1 : -9223372036854775808 ≤ x) (h2 : x ≤ 9223372036854775807) : z = x := by
  rw [h, wrapO_eq]
  unfold IntKind.wrap
  have e1 : (2 : Int) ^ 64 = 18446744073709551616 := by decide
  have e2 : (2 : Int) ^ (64 - 1) = 9223372036854775808 := by decide
  simp only [IntKind.signed, IntKind.bits, e1, e2, Bool.true_and, decide_eq_true_eq]
  split <;> omega
theorem iEq_t {a b : Int} : iEq a b = true ↔ a = b := by unfold iEq; simp
theorem iEq_f {a b : Int} : iEq a b = false ↔ a ≠ b := by unfold iEq; simp
theorem iLt_t {a b : Int} : iLt a b = true ↔ a < b := by unfold iLt; simp
theorem iLt_f {a b : Int} : iLt a b = false ↔ b ≤ a := by unfold iLt; simp
theorem iLe_t {a b : Int} : iLe a b = true ↔ a ≤ b := by unfold iLe; simp
theorem iLe_f {a b : Int} : iLe a b = false ↔ b < a := by unfold iLe; simp
theorem sEq_t {a b : ByteArray} : sEq a b = true ↔ a = b := by unfold sEq; simp
theorem sEq_f {a b : ByteArray} : sEq a b = false ↔ a ≠ b := by unfold sEq; simp
theorem RepLe.vb {b c : Bool} (h : b = c) : RepLe (.p (.val (.bool b))) (.p (.val (.bool c))) := by subst h; exact RepLe.refl _
theorem RepLe.vi {k : IntKind} {b c : Int} (h : b = c) : RepLe (.p (.val (.int k b))) (.p (.val (.int k c))) := by subst h; exact RepLe.refl _
theorem RepLe.vs {b c : ByteArray} (h : b = c) : RepLe (.p (.val (.string b))) (.p (.val (.string c))) := by subst h; exact RepLe.refl _
theorem BlkLe.row {e k n m : Nat} {f g : Nat → Nat → PV} (h : n = m) (hf : ∀ i j, i < n → j < k → f i j = g i j) : BlkLe (.row e k n f) (.row e k m g) := by
  subst h
  rintro w F ν u ⟨xs, h1, h2⟩
  exact ⟨xs, h1, fun i j hi hj => by rw [← hf i j hi hj]; exact h2 i j hi hj⟩
theorem catF_lt {n i j : Nat} {f g : Nat → Nat → PV} (h : i < n) : catF n f g i j = f i j := by
  unfold catF; rw [show Nat.blt i n = true from Nat.ble_eq_true_of_le h]
theorem catF_ge {n i j : Nat} {f g : Nat → Nat → PV} (h : n ≤ i) : catF n f g i j = g (i - n) j := by
  unfold catF
  have : Nat.blt i n = false := by
    cases hb : Nat.blt i n with
    | false => rfl
    | true => have : i < n := Nat.le_of_ble_eq_true hb; omega
  rw [this]
theorem RepLe.tup2 {a b c d : AV} (h1 : RepLe a c) (h2 : RepLe b d) : RepLe (.tup 2 (at_ (.p .any) [a, b])) (.tup 2 (at_ (.p .any) [c, d])) := RepLe.tup (l := [a, b]) (m := [c, d]) ⟨h1, h2, trivial⟩
theorem RepLe.as {α : Type} (f : α → AV) {x : AV} {a b : α} (h : b = a) (hx : RepLe x (f a)) : RepLe x (f b) := by subst h; exact hx
/-- One value is told for another. -/
def PLe (a b : PV) : Prop := ∀ w F v, RepP w F a v → RepP w F b v
theorem PLe.refl (a : PV) : PLe a a := fun _ _ _ h => h
theorem PLe.of {a b : PV} (h : a = b) : PLe a b := h ▸ PLe.refl a
theorem PLe.nil {k : Nat} {f : Nat → Nat → PV} : PLe (.val (.slice none 0 0)) (.rs k 0 f) := by
  intro w F v h
  exact ⟨none, 0, h, Nat.le_refl _, Nat.zero_le _, fun _ => rfl, fun h => absurd h (by omega)⟩
theorem PLe.bl {b c : Bool} (h : b = c) : PLe (.bl b) (.val (.bool c)) := by subst h; exact fun _ _ _ h => h
theorem PLe.rep {a b : PV} (h : PLe a b) : RepLe (.p a) (.p b) := fun w F _ v hv => h w F v hv
def PLes : List PV → List PV → Prop
  | [], [] => True
  | a :: l, b :: m => PLe a b ∧ PLes l m
  | _, _ => False
theorem PLes.end : PLes [] [] := trivial
theorem PLes.cons {a b : PV} {l m : List PV} (h : PLe a b) (k : PLes l m) : PLes (a :: l) (b :: m) := ⟨h, k⟩
theorem PLes.spec : ∀ (l m : List PV), PLes l m → l.length = m.length ∧ ∀ j, PLe (at_ .any l j) (at_ .any m j)
  | [], [], _ => ⟨rfl, fun _ => PLe.refl _⟩
  | a :: l, b :: m, h => by
    obtain ⟨h1, h2⟩ := PLes.spec l m h.2
    refine ⟨by simp [h1], fun j => ?_⟩
    cases j with
    | zero => exact h.1
    | succ j => exact h2 j
  | [], _ :: _, h => h.elim
  | _ :: _, [], h => h.elim
theorem PLe.agg {l m : List PV} (h : PLes l m) : PLe (aggL l) (aggL m) := by
  obtain ⟨h1, h2⟩ := PLes.spec l m h
  rintro w F v ⟨cs, e1, e2, e3⟩
  refine ⟨cs, e1, by rw [e2, h1], fun j hj => ?_⟩
  obtain ⟨u, u1, u2, u3⟩ := e3 j (by rw [h1]; exact hj)
  exact ⟨u, u1, u2, h2 j _ _ _ u3⟩
theorem findUpto_some (p : Nat → Bool) : ∀ (k i j : Nat), findUpto p k i = some j → i ≤ j ∧ j < i + k ∧ p j = true ∧ ∀ m, i ≤ m → m < j → p m = false
  | 0, i, j, h => by cases h
  | k + 1, i, j, h => by
    simp only [findUpto] at h
    cases hp : p i with
    | true => simp [hp] at h; subst h; exact ⟨Nat.le_refl _, by omega, hp, fun m _ _ => by omega⟩
    | false =>
      simp [hp] at h
      obtain ⟨h1, h2, h3, h4⟩ := findUpto_some p k (i + 1) j h
      exact ⟨by omega, by omega, h3, fun m hm hm2 => if e : m = i then e ▸ hp else h4 m (by omega) hm2⟩
theorem findUpto_none (p : Nat → Bool) : ∀ (k i : Nat), findUpto p k i = none → ∀ m, i ≤ m → m < i + k → p m = false
  | 0, i, _, m, _, _ => by omega
  | k + 1, i, h, m, h1, h2 => by
    simp only [findUpto] at h
    cases hp : p i with
    | true => simp [hp] at h
    | false =>
      simp [hp] at h
      exact if e : m = i then e ▸ hp else findUpto_none p k (i + 1) h m (by omega) (by omega)
/-- One argument, a slice: nil, or not. -/
theorem GCall.slice {P : Program} {g : FuncId} {k n : Nat} {f : Nat → Nat → PV} {res : AV} {obs : List (Option Blk)} (h0 : n = 0 → PCall P g [.val (.slice none 0 0)] res obs) (h1 : PCall P g [.rn k n f] res obs) : PCall P g [.rs k n f] res obs := by
  refine ⟨h1.1, fun w F ν vals hh hν hlen hargs => ?_⟩
  obtain ⟨v, rfl⟩ : ∃ v, vals = [v] := List.length_eq_one_iff.1 hlen
  obtain ⟨A, c, rfl, e1, e2, e3, e4⟩ := hargs 0 _ v rfl rfl
  cases A with
  | none =>
    have hc := e3 rfl
    have hn : n = 0 := by omega
    subst hc
    subst hn
    refine (h0 rfl).2 w F ν _ hh hν rfl fun i x u hx hu => ?_
    cases i with
    | zero => simp at hx hu; subst hx hu; exact rfl
    | succ i => simp at hx
  | some ad =>
    refine h1.2 w F ν _ hh hν rfl fun i x u hx hu => ?_
    cases i with
    | zero =>
      simp at hx hu; subst hx hu
      refine ⟨ad, c, rfl, e1, e2, fun hn => ?_⟩
      obtain ⟨ad', q1, q2, q3⟩ := e4 hn
      injection q1 with q1
      subst q1
      exact ⟨q2, q3⟩
    | succ i => simp at hx
theorem PLe.rows {k n m : Nat} {f g : Nat → Nat → PV} (h : n = m) (hf : ∀ i j, i < n → j < k → f i j = g i j) : PLe (.rs k n f) (.rs k m g) := by
  subst h
  rintro w F v ⟨A, c, e1, e2, e3, e4, e5⟩
  refine ⟨A, c, e1, e2, e3, e4, fun hn => ?_⟩
  obtain ⟨ad, q1, q2, q3⟩ := e5 hn
  exact ⟨ad, q1, q2, fun i j hi hj => by rw [← hf i j hi hj]; exact q3 i j hi hj⟩
theorem GCall.args {P : Program} {g : FuncId} {ys ys' : List AV} {bs : List (Option Blk)} {res : AV} {obs : List (Option Blk)} (h : GCall P g ys' bs res obs) (hle : allLe ys ys') : GCall P g ys bs res obs := by
  obtain ⟨e1, e2⟩ := allLe_spec ys ys' hle
  refine ⟨h.1, fun w F ν vals hh hν hlen hargs => h.2 w F ν vals hh hν (by rw [hlen, e1]) fun i x v hx hv => ?_⟩
  have hi : i < ys.length := by rw [e1]; exact (List.getElem?_eq_some_iff.1 hx).1
  have := hargs i _ v (List.getElem?_eq_getElem hi) hv
  have e3 := e2 i
  rw [at_get _ _ _ _ hx, at_get _ _ _ _ (List.getElem?_eq_getElem hi)] at e3
  exact e3 _ _ _ _ this
theorem GCall.arg1 {P : Program} {g : FuncId} {y y' : AV} {l : List AV} {bs : List (Option Blk)} {res : AV} {obs : List (Option Blk)} (h : GCall P g (y' :: l) bs res obs) (hle : RepLe y y') : GCall P g (y :: l) bs res obs := by
  refine h.args ⟨hle, ?_⟩
  clear h
  induction l with
  | nil => trivial
  | cons x l ih => exact ⟨RepLe.refl _, ih⟩
theorem BlkLe.rowLe {e k n m : Nat} {f g : Nat → Nat → PV} (h : n = m) (hf : ∀ i j, i < n → j < k → PLe (f i j) (g i j)) : BlkLe (.row e k n f) (.row e k m g) := by
  subst h
  rintro w F ν u ⟨xs, h1, h2⟩
  refine ⟨xs, h1, fun i j hi hj => ?_⟩
  obtain ⟨c, c1, c2, c3⟩ := h2 i j hi hj
  exact ⟨c, c1, c2, hf i j hi hj _ _ _ c3⟩
end Go.Av
