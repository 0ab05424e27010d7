/- slices.SortFunc over fields: what it leaves of an owned row. -/
import Derived.Test.YtoophkcicdbnfaaAG
import Derived.Shelf.SlSortCmp.WholeK
set_option linter.unusedVariables false
set_option linter.unusedSimpArgs false
namespace Go.Proofs.Ytoophkcicdbnfaa
open Go Go.Av Go.Shelf Go.RowKit Go.Lib Go.Sort
set_option maxRecDepth 100000

/-- What grew only, by draws and new blocks. -/
theorem grow_of {W w' : World} (h : Ext W w' fun _ => False) (hd : W.drawn ≤ w'.drawn) : ∃ q os', w' = grow (W.drewN q) os' := by
  refine ⟨w'.drawn - W.drawn, w'.heap.extract W.heap.size w'.heap.size, ?_⟩
  have hh : w'.heap = W.heap ++ w'.heap.extract W.heap.size w'.heap.size := by
    apply Array.ext_getElem?
    intro i
    rcases Nat.lt_or_ge i W.heap.size with hi | hi
    · rw [Array.getElem?_append_left hi, h.blk i hi id]
    · rw [Array.getElem?_append_right hi, Array.getElem?_extract]
      by_cases h2 : i < w'.heap.size
      · rw [if_pos (by omega)]
        congr 1; omega
      · rw [if_neg (by omega), Array.getElem?_eq_none (by omega)]
  have ht := h.tape
  have ho := h.os
  have hp := h.output
  cases w' with
  | mk heap tape drawn os output =>
    simp only at hh ht ho hp hd ⊢
    unfold grow World.drewN
    simp only
    rw [← hh, ht, ho, hp]
    congr 1
    omega

/-- A value of one cell. -/
abbrev One := { v : Value // v.oneCell' = true }
instance : Inhabited One := ⟨⟨.int .i64 0, rfl⟩⟩
instance : Inhabited SField := ⟨noField⟩
def encE (x : SField × One) : List Value := [.int .i64 x.1.place.scope, .string x.1.place.group, .string x.1.place.name, .int .i64 x.1.kind, .string x.1.dflt, x.2.1, .int .i64 x.1.worth]
def cmpE (x y : SField × One) : Int := if lessRef x.1.place y.1.place then -1 else 1
theorem encE_one (x : SField × One) : ∀ v ∈ encE x, v.oneCell' = true := by
  intro v hv
  simp only [encE, List.mem_cons, List.not_mem_nil, or_false] at hv
  rcases hv with rfl | rfl | rfl | rfl | rfl | rfl | rfl
  all_goals first | rfl | exact x.2.2
theorem lt_less (x y : SField × One) : ltOf cmpE x y = lessRef x.1.place y.1.place := by
  unfold ltOf cmpE
  cases lessRef x.1.place y.1.place <;> rfl
theorem swoE : SWO (ltOf cmpE) where
  irrefl x := by rw [lt_less]; exact less_irrefl _
  trans x y z h k := by rw [lt_less] at *; exact less_trans h k
  ntrans x y z h k := by rw [lt_less] at *; exact less_ntrans h k

def elemPV (x : SField) : PV := aggL [.val (.int .i64 x.place.scope), .val (.string x.place.group), .val (.string x.place.name), .val (.int .i64 x.kind), .val (.string x.dflt), .any, .val (.int .i64 x.worth)]
theorem f98 (x y : SField) : PCall Try.prog 98 [elemPV x, elemPV y] (.p (.val (.int .i64 (if lessRef x.place y.place then -1 else 1)))) [] := by
  refine gcode hT hM Try.func98 rfl rfl (rv := [(4, none)]) rfl rfl rfl fun G hG => ?_
  conv => whnf
  refine CallK.lent (f84 x.place y.place) rfl ?_
  conv => whnf
  refine ⟨fun h => ?_, fun h => ?_⟩
  · conv => whnf
    exact ⟨[], _, _, _, rfl, rfl, rfl, RepLe.vi (by rw [h]; rfl), trivial⟩
  conv => whnf
  exact ⟨[], _, _, _, rfl, rfl, rfl, RepLe.vi (by rw [h]; rfl), trivial⟩
theorem elem_rep (w : World) (x : SField × One) : RepP w (fun _ => False) (elemPV x.1) (.agg (encE x).toArray) := by
  refine ⟨_, rfl, rfl, fun j hj => ?_⟩
  have hj : j < 7 := hj
  have hj : j = 0 ∨ j = 1 ∨ j = 2 ∨ j = 3 ∨ j = 4 ∨ j = 5 ∨ j = 6 := by omega
  rcases hj with rfl | rfl | rfl | rfl | rfl | rfl | rfl
  · exact ⟨_, rfl, rfl, rfl⟩
  · exact ⟨_, rfl, rfl, rfl⟩
  · exact ⟨_, rfl, rfl, rfl⟩
  · exact ⟨_, rfl, rfl, rfl⟩
  · exact ⟨_, rfl, rfl, rfl⟩
  · exact ⟨_, rfl, x.2.2, trivial⟩
  · exact ⟨_, rfl, rfl, rfl⟩
theorem no_inv (w : World) : HInv w (fun _ => False) (fun _ => none) (enumB []) := ⟨fun b hb => hb.elim, fun n blk hn => by simp [enumB, at_] at hn, fun n m bn bm u u' g hn => by simp [enumB, at_] at hn, fun n bn u g hn => by simp [enumB, at_] at hn⟩
theorem calls98 (x y : SField × One) (W : World) : Calls Try.prog 98 #[.agg (encE x).toArray, .agg (encE y).toArray] W fun e w' => e = .returned (.int .i64 (cmpE x y)) ∧ ∃ q os', w' = grow (W.drewN q) os' := by
  refine ((f98 x.1 y.1).2 W (fun _ => False) (fun _ => none) [.agg (encE x).toArray, .agg (encE y).toArray] (no_inv W) (fun _ _ => rfl) rfl fun i p v hp hv => ?_).mono fun e w' ⟨v, F', ν', e1, e2, _, e4, _, _, _, _, _, e5⟩ => ?_
  · match i with
    | 0 => simp at hp hv; subst hp hv; exact elem_rep W x
    | 1 => simp at hp hv; subst hp hv; exact elem_rep W y
    | i + 2 => simp at hp
  · have e2 : v = _ := e2
    subst e2
    refine ⟨e1, grow_of ⟨e4.size, fun b hb _ => e4.blk b hb ?_, e4.os, e4.tape, e4.output⟩ e5⟩
    rintro ⟨n, bn, u, hn, _⟩
    simp [enumB, at_] at hn
theorem cmpLaysE (blk off size : Nat) (w : World) : CmpLays Try.prog 98 #[] encE 7 cmpE blk off size w := fun _ _ _ _ x y => calls98 x y _
end Go.Proofs.Ytoophkcicdbnfaa
