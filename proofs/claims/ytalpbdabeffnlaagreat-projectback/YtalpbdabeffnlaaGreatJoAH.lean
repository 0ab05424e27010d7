import Derived.Test.YtalpbdabeffnlaaGreatJoAA
import Derived.Shelf.SlSortCmp.WholeK
/- SchemaFinds: the law itself. -/
set_option linter.unusedVariables false
set_option linter.unusedSimpArgs false
namespace Go.Proofs.YtalpbdabeffnlaaGreat
open Go Go.Av
set_option maxRecDepth 100000
set_option maxHeartbeats 2000000

theorem bEq_self (a : Bool) : bEq a a = true := by unfold bEq; simp
theorem sameFields_self (l : List SField) : sameFields l l = true := by
  unfold sameFields
  rw [Bool.and_eq_true, allUpto_iff]
  exact ⟨by simp, fun j _ _ => sameField_self _⟩
theorem noField_ok : okField noField := Nat.zero_le _
theorem scope_ok {l : List SField} (h : okFields l) (s : Int) : okFields (scopeOf l s) :=
  ⟨Nat.le_trans (List.length_filter_le _ _) h.1, fun x hx => h.2 x (List.mem_filter.1 hx).1⟩

theorem six (a : Int) (h : (!iEq (6 : Int) 6) = true) : False := by rw [iEq_t.2 rfl] at h; cases h
end Go.Proofs.YtalpbdabeffnlaaGreat

/- Order of places: a strict total order. -/
set_option linter.unusedVariables false
set_option linter.unusedSimpArgs false
namespace Go.Proofs.YtalpbdabeffnlaaGreat
open Go Go.Av

theorem bl_irrefl : ∀ l : List UInt8, Op.bytesLess l l = false
  | [] => rfl
  | a :: l => by simp [Op.bytesLess, bl_irrefl l]
theorem bl_trans : ∀ l m n : List UInt8, Op.bytesLess l m = true → Op.bytesLess m n = true → Op.bytesLess l n = true
  | _, [], _, h, _ => by cases ‹List UInt8› <;> simp [Op.bytesLess] at h
  | _, _ :: _, [], _, h => by simp [Op.bytesLess] at h
  | [], _ :: _, _ :: _, _, _ => rfl
  | a :: l, b :: m, c :: n, h, k => by
    simp only [Op.bytesLess, Bool.or_eq_true, decide_eq_true_eq, Bool.and_eq_true, beq_iff_eq] at *
    rcases h with h | ⟨rfl, h⟩
    · rcases k with k | ⟨rfl, k⟩
      · exact .inl (UInt8.lt_trans h k)
      · exact .inl h
    · rcases k with k | ⟨rfl, k⟩
      · exact .inl k
      · exact .inr ⟨rfl, bl_trans l m n h k⟩
theorem bl_conn : ∀ l m : List UInt8, Op.bytesLess l m = false → Op.bytesLess m l = false → l = m
  | [], [], _, _ => rfl
  | [], _ :: _, h, _ => by simp [Op.bytesLess] at h
  | _ :: _, [], _, h => by simp [Op.bytesLess] at h
  | a :: l, b :: m, h, k => by
    simp only [Op.bytesLess, Bool.or_eq_false_iff, decide_eq_false_iff_not, Bool.and_eq_false_iff, beq_eq_false_iff_ne] at h k
    have e : a = b := UInt8.le_antisymm (UInt8.not_lt.1 k.1) (UInt8.not_lt.1 h.1)
    subst e
    have h2 : Op.bytesLess l m = false := by rcases h.2 with h | h; exact absurd rfl h; exact h
    have k2 : Op.bytesLess m l = false := by rcases k.2 with k | k; exact absurd rfl k; exact k
    rw [bl_conn l m h2 k2]
theorem sLt_irrefl (a : ByteArray) : sLt a a = false := by unfold sLt; exact bl_irrefl _
theorem sLt_trans {a b c : ByteArray} (h : sLt a b = true) (k : sLt b c = true) : sLt a c = true := by unfold sLt at *; exact bl_trans _ _ _ h k
theorem sLt_conn {a b : ByteArray} (h : sLt a b = false) (k : sLt b a = false) : a = b := by
  unfold sLt at *
  have := bl_conn _ _ h k
  rw [Lib.toList_data, Lib.toList_data] at this
  cases a with | mk a => cases b with | mk b => exact congrArg ByteArray.mk (Array.toList_inj.1 this)
theorem less_irrefl (a : SRef) : lessRef a a = false := by
  rw [less_ref, iEq_t.2 rfl, sEq_t.2 rfl]; simp [sLt_irrefl]
theorem less_conn {a b : SRef} (h : lessRef a b = false) (k : lessRef b a = false) : a = b := by
  rw [less_ref] at h k
  have e1 : a.scope = b.scope := by
    by_cases e : a.scope = b.scope
    · exact e
    · rw [iEq_f.2 e] at h
      rw [iEq_f.2 (Ne.symm e)] at k
      simp [iLt_f] at h k
      omega
  rw [iEq_t.2 e1] at h
  rw [iEq_t.2 e1.symm] at k
  have e2 : a.group = b.group := by
    by_cases e : a.group = b.group
    · exact e
    · rw [sEq_f.2 e] at h
      rw [sEq_f.2 (Ne.symm e)] at k
      simp at h k
      exact sLt_conn h k
  rw [sEq_t.2 e2] at h
  rw [sEq_t.2 e2.symm] at k
  simp at h k
  have e3 := sLt_conn h k
  cases a; cases b; simp at e1 e2 e3; simp [e1, e2, e3]
theorem less_cases {a b : SRef} (h : lessRef a b = true) : a.scope < b.scope ∨ (a.scope = b.scope ∧ (sLt a.group b.group = true ∨ (a.group = b.group ∧ sLt a.name b.name = true))) := by
  rw [less_ref] at h
  by_cases e1 : a.scope = b.scope
  · rw [iEq_t.2 e1] at h
    by_cases e2 : a.group = b.group
    · rw [sEq_t.2 e2] at h; simp at h; exact .inr ⟨e1, .inr ⟨e2, h⟩⟩
    · rw [sEq_f.2 e2] at h; simp at h; exact .inr ⟨e1, .inl h⟩
  · rw [iEq_f.2 e1] at h; simp [iLt_t] at h; exact .inl h
theorem less_mk {a b : SRef} (h : a.scope < b.scope ∨ (a.scope = b.scope ∧ (sLt a.group b.group = true ∨ (a.group = b.group ∧ sLt a.name b.name = true)))) : lessRef a b = true := by
  rw [less_ref]
  rcases h with h | ⟨e1, h | ⟨e2, h⟩⟩
  · rw [iEq_f.2 (by omega)]; simpa [iLt_t] using h
  · rw [iEq_t.2 e1]
    by_cases e2 : a.group = b.group
    · rw [e2, sLt_irrefl] at h; cases h
    · rw [sEq_f.2 e2]; simpa using h
  · rw [iEq_t.2 e1, sEq_t.2 e2]; simpa using h
theorem less_trans {a b c : SRef} (h : lessRef a b = true) (k : lessRef b c = true) : lessRef a c = true := by
  refine less_mk ?_
  rcases less_cases h with h | ⟨e1, h | ⟨e2, h⟩⟩
  · rcases less_cases k with k | ⟨f1, k⟩
    · exact .inl (by omega)
    · exact .inl (by omega)
  · rcases less_cases k with k | ⟨f1, k | ⟨f2, k⟩⟩
    · exact .inl (by omega)
    · exact .inr ⟨e1.trans f1, .inl (sLt_trans h k)⟩
    · exact .inr ⟨e1.trans f1, .inl (f2 ▸ h)⟩
  · rcases less_cases k with k | ⟨f1, k | ⟨f2, k⟩⟩
    · exact .inl (by omega)
    · exact .inr ⟨e1.trans f1, .inl (e2 ▸ k)⟩
    · exact .inr ⟨e1.trans f1, .inr ⟨e2.trans f2, sLt_trans h k⟩⟩
theorem less_asymm {a b : SRef} (h : lessRef a b = true) : lessRef b a = false := by
  cases k : lessRef b a with
  | false => rfl
  | true => have := less_trans h k; rw [less_irrefl] at this; cases this
theorem less_ntrans {a b c : SRef} (h : lessRef a b = false) (k : lessRef b c = false) : lessRef a c = false := by
  cases q : lessRef a c with
  | false => rfl
  | true =>
    cases p : lessRef b a with
    | true => have := less_trans p q; rw [k] at this; cases this
    | false =>
      have e := less_conn h p
      subst e
      rw [k] at q; cases q
theorem same_ref {a b : SRef} : sameRef a b = true ↔ a = b := by
  unfold sameRef
  simp only [Bool.and_eq_true, iEq_t, sEq_t]
  constructor
  · rintro ⟨h1, h2, h3⟩; cases a; cases b; simp at h1 h2 h3; simp [h1, h2, h3]
  · rintro rfl; exact ⟨rfl, rfl, rfl⟩
end Go.Proofs.YtalpbdabeffnlaaGreat

/- slices.SortFunc over fields: what it leaves of an owned row. -/
set_option linter.unusedVariables false
set_option linter.unusedSimpArgs false
namespace Go.Proofs.YtalpbdabeffnlaaGreat
open Go Go.Av Go.Shelf Go.RowKit Go.Lib Go.Sort
set_option maxRecDepth 100000

/-- What grew only, by draws and new blocks. -/
theorem grow_of {W w' : World} (h : Ext W w' fun _ => False) (hd : W.drawn ≤ w'.drawn) : ∃ q os', w' = grow (W.drewN q) os' := by
  refine ⟨w'.drawn - W.drawn, w'.heap.extract W.heap.size w'.heap.size, ?_⟩
  have hh : w'.heap = W.heap ++ w'.heap.extract W.heap.size w'.heap.size := by
    apply Array.ext_getElem?
    intro i
    rcases Nat.lt_or_ge i W.heap.size with hi | hi
    · rw [Array.getElem?_append_left hi, h.blk i hi id]
    · rw [Array.getElem?_append_right hi, Array.getElem?_extract]
      by_cases h2 : i < w'.heap.size
      · rw [if_pos (by omega)]
        congr 1; omega
      · rw [if_neg (by omega), Array.getElem?_eq_none (by omega)]
  have ht := h.tape
  have ho := h.os
  have hp := h.output
  cases w' with
  | mk heap tape drawn os output =>
    simp only at hh ht ho hp hd ⊢
    unfold grow World.drewN
    simp only
    rw [← hh, ht, ho, hp]
    congr 1
    omega

/-- A value of one cell. -/
abbrev One := { v : Value // v.oneCell' = true }
instance : Inhabited One := ⟨⟨.int .i64 0, rfl⟩⟩
instance : Inhabited SField := ⟨noField⟩
def encE (x : SField × One) : List Value := [.int .i64 x.1.place.scope, .string x.1.place.group, .string x.1.place.name, .int .i64 x.1.kind, .string x.1.dflt, x.2.1, .int .i64 x.1.worth]
def cmpE (x y : SField × One) : Int := if lessRef x.1.place y.1.place then -1 else 1
theorem encE_one (x : SField × One) : ∀ v ∈ encE x, v.oneCell' = true := by
  intro v hv
  simp only [encE, List.mem_cons, List.not_mem_nil, or_false] at hv
  rcases hv with rfl | rfl | rfl | rfl | rfl | rfl | rfl
  all_goals first | rfl | exact x.2.2
theorem lt_less (x y : SField × One) : ltOf cmpE x y = lessRef x.1.place y.1.place := by
  unfold ltOf cmpE
  cases lessRef x.1.place y.1.place <;> rfl
theorem swoE : SWO (ltOf cmpE) where
  irrefl x := by rw [lt_less]; exact less_irrefl _
  trans x y z h k := by rw [lt_less] at *; exact less_trans h k
  ntrans x y z h k := by rw [lt_less] at *; exact less_ntrans h k

def elemPV (x : SField) : PV := aggL [.val (.int .i64 x.place.scope), .val (.string x.place.group), .val (.string x.place.name), .val (.int .i64 x.kind), .val (.string x.dflt), .any, .val (.int .i64 x.worth)]
theorem f98 (x y : SField) : PCall Tryz.prog 113 [elemPV x, elemPV y] (.p (.val (.int .i64 (if lessRef x.place y.place then -1 else 1)))) [] := by
  refine gcode hT hM Tryz.func113 rfl rfl (rv := [(4, none)]) rfl rfl rfl fun G hG => ?_
  conv => whnf
  refine CallK.lent (f84 x.place y.place) rfl ?_
  conv => whnf
  refine ⟨fun h => ?_, fun h => ?_⟩
  · conv => whnf
    exact ⟨[], _, _, _, rfl, rfl, rfl, RepLe.vi (by rw [h]; rfl), trivial⟩
  conv => whnf
  exact ⟨[], _, _, _, rfl, rfl, rfl, RepLe.vi (by rw [h]; rfl), trivial⟩
theorem elem_rep (w : World) (x : SField × One) : RepP w (fun _ => False) (elemPV x.1) (.agg (encE x).toArray) := by
  refine ⟨_, rfl, rfl, fun j hj => ?_⟩
  have hj : j < 7 := hj
  have hj : j = 0 ∨ j = 1 ∨ j = 2 ∨ j = 3 ∨ j = 4 ∨ j = 5 ∨ j = 6 := by omega
  rcases hj with rfl | rfl | rfl | rfl | rfl | rfl | rfl
  · exact ⟨_, rfl, rfl, rfl⟩
  · exact ⟨_, rfl, rfl, rfl⟩
  · exact ⟨_, rfl, rfl, rfl⟩
  · exact ⟨_, rfl, rfl, rfl⟩
  · exact ⟨_, rfl, rfl, rfl⟩
  · exact ⟨_, rfl, x.2.2, trivial⟩
  · exact ⟨_, rfl, rfl, rfl⟩
theorem no_inv (w : World) : HInv w (fun _ => False) (fun _ => none) (enumB []) := ⟨fun b hb => hb.elim, fun n blk hn => by simp [enumB, at_] at hn, fun n m bn bm u u' g hn => by simp [enumB, at_] at hn, fun n bn u g hn => by simp [enumB, at_] at hn⟩
theorem calls98 (x y : SField × One) (W : World) : Calls Tryz.prog 113 #[.agg (encE x).toArray, .agg (encE y).toArray] W fun e w' => e = .returned (.int .i64 (cmpE x y)) ∧ ∃ q os', w' = grow (W.drewN q) os' := by
  refine ((f98 x.1 y.1).2 W (fun _ => False) (fun _ => none) [.agg (encE x).toArray, .agg (encE y).toArray] (no_inv W) (fun _ _ => rfl) rfl fun i p v hp hv => ?_).mono fun e w' ⟨v, F', ν', e1, e2, _, e4, _, _, _, _, _, e5⟩ => ?_
  · match i with
    | 0 => simp at hp hv; subst hp hv; exact elem_rep W x
    | 1 => simp at hp hv; subst hp hv; exact elem_rep W y
    | i + 2 => simp at hp
  · have e2 : v = _ := e2
    subst e2
    refine ⟨e1, grow_of ⟨e4.size, fun b hb _ => e4.blk b hb ?_, e4.os, e4.tape, e4.output⟩ e5⟩
    rintro ⟨n, bn, u, hn, _⟩
    simp [enumB, at_] at hn
theorem cmpLaysE (blk off size : Nat) (w : World) : CmpLays Tryz.prog 113 #[] encE 7 cmpE blk off size w := fun _ _ _ _ x y => calls98 x y _
end Go.Proofs.YtalpbdabeffnlaaGreat
