/- SchemaRoot: the law's function, walked. -/
import Derived.Test.YtoophkcicdbnfaaAD
set_option linter.unusedVariables false
set_option linter.unusedSimpArgs false
namespace Go.Proofs.Ytoophkcicdbnfaa
open Go Go.Av Go.RowKit
set_option maxRecDepth 100000

theorem empty_inv (w : World) : HInv w (fun _ => False) (fun _ => none) (enumB []) := ⟨fun b hb => hb.elim, fun n blk hn => by simp [enumB, at_] at hn, fun n m bn bm u u' g hn => by simp [enumB, at_] at hn, fun n bn u g hn => by simp [enumB, at_] at hn⟩
theorem c15 (w : World) : Calls Try.prog 15 #[] w fun e w' => e = .returned (.bool true) ∧ Ext w w' fun _ => False :=
  PCall.calls (args := []) (vals := []) f15 rfl fun i x v hx _ => by simp at hx
theorem c17 {w : World} {a b : Value} (ha : RepP w (Old w) (encFields rootFields) a) (hb : RepP w (Old w) (encFields rootFields) b) :
    Calls Try.prog 17 #[a, b] w fun e w' => e = .returned (.bool true) ∧ Ext w w' fun _ => False := by
  have := PCall.calls (f17 rootFields rootFields root_fit.ok) (w := w) (vals := [a, b]) rfl fun i x v hx hv => by
    match i with
    | 0 => simp at hx hv; subst hx hv; exact ha
    | 1 => simp at hx hv; subst hx hv; exact hb
    | i + 2 => simp at hx
  rw [sameFields_self] at this
  exact this
theorem c18 {w : World} {a b : Value} (ha : RepP w (Old w) (encFields rootFields) a) (hb : RepP w (Old w) (encFields rootFields) b) :
    Calls Try.prog 18 #[a, b] w fun e w' => e = .returned (.bool true) ∧ Ext w w' fun _ => False := by
  have := PCall.calls (f18 rootFields rootFields root_fit.ok) (w := w) (vals := [a, b]) rfl fun i x v hx hv => by
    match i with
    | 0 => simp at hx hv; subst hx hv; exact ha
    | 1 => simp at hx hv; subst hx hv; exact hb
    | i + 2 => simp at hx
  rw [sameFields_self] at this
  exact this
theorem c19 (w : World) : Calls Try.prog 19 #[] w fun e w' => ∃ v, e = .returned v ∧ RepP w' (Old w') (encFields rootFields) v ∧ Ext w w' fun _ => False := by
  refine (f19.2 w (fun _ => False) (fun _ => none) [] (empty_inv w) (fun _ _ => rfl) rfl fun i x v hx _ => by simp at hx).mono fun e w' ⟨v, F', ν', e1, e2, e3, e4, _⟩ => ?_
  refine ⟨v, e1, ?_, e4.size, fun b hb _ => e4.blk b hb ?_, e4.os, e4.tape, e4.output⟩
  · refine viewOf_rep (η := enumB [rowFields rootFields]) (ns := [0]) (F' := Old w') e3 e2 rfl (fun b hb => e3.fb b hb) ?_
    rintro b ⟨n, bn, u, hn, h1, h2, h3⟩
    obtain ⟨u', hu', hb⟩ := e3.rep n bn h1
    rw [h2] at hu'
    injection hu' with hu'
    subst hu'
    have hn : n = 0 := by simpa using hn
    subst hn
    have h1 : rowFields rootFields = some bn := h1
    injection h1 with h1
    subst h1
    obtain ⟨xs, hown, _⟩ := hb
    rcases hown.2 with ⟨rfl, _⟩ | ⟨g, cap, cur, rfl, _, hg, _⟩
    · cases h3
    · injection h3 with h3
      subst h3
      exact (Array.getElem?_eq_some_iff.1 hg).1
  · rintro ⟨n, bn, u, hn, _⟩
    simp [enumB, at_] at hn

theorem RootAt.free {w : World} {lo g h : Nat} (r : RootAt w lo g h) (j : Nat) : w.frozen? ⟨g, j, none⟩ = false ∧ w.frozen? ⟨h, j, none⟩ = false := by
  unfold World.frozen?
  simp [r.2.2.2.1, r.2.2.2.2]
theorem RootAt.case0 {w : World} {lo g h : Nat} (r : RootAt w lo g h) : w.cell? ⟨h, 0, none⟩ = some (wd [115, 109, 97, 108, 108]) := by
  unfold World.cell?; simp [r.2.2.2.2, rootCases]
theorem cell_past {w : World} {a b : Addr} (v : Value) (h : b.block ≠ a.block) : (w.setCell a v).cell? b = w.cell? b ∧ (w.setCell a v).frozen? b = w.frozen? b := by
  have := Below.heap_setCell w a v b.block h
  unfold World.cell? World.frozen?
  rw [this]
  exact ⟨rfl, rfl⟩

theorem c3w (w : World) : Calls Try.prog 3 #[] w fun e w' => e = .returned (.bool true) ∧ Ext w w' fun _ => False := by
  go_enter Try.func3, Try.ntmps3
  go_wp2_with fail
  refine (c15 _).mono ?_
  rintro e w1 ⟨rfl, x1⟩
  go_wp2_with fail
  refine (c16 _).mono ?_
  rintro e w2 ⟨g, h, rfl, r, x2⟩
  go_wp2_with fail
  refine (c16 _).mono ?_
  rintro e w3 ⟨g', h', rfl, r', x3⟩
  have ra := r.ext x3
  go_wp2_with fail
  refine (c17 ra.rep r'.rep).mono ?_
  rintro e w4 ⟨rfl, x4⟩
  have ra := ra.ext x4
  have rb := r'.ext x4
  go_wp2_with fail
  refine (c19 _).mono ?_
  rintro e w5 ⟨v, rfl, hv, x5⟩
  have ra := ra.ext x5
  have rb := rb.ext x5
  go_wp2_with fail
  refine (c18 ra.rep hv).mono ?_
  rintro e w6 ⟨rfl, x6⟩
  have ra := ra.ext x6
  have rb := rb.ext x6
  have hc := ra.cell (j := 26) (u := .slice (some ⟨h, 0, none⟩) 3 3) rfl
  have hz := ra.case0
  have hf := (ra.free 0).2
  have hgh : g ≠ h := ra.2.2.1
  have hd : ∀ v, (w6.setCell ⟨h, 0, none⟩ v).cell? ⟨g, 4, none⟩ = some (wd []) := fun v => (cell_past v hgh).1.trans (ra.cell (j := 4) rfl)
  have hd2 : ∀ v, (w6.setCell ⟨h, 0, none⟩ v).frozen? ⟨g, 4, none⟩ = false := fun v => (cell_past v hgh).2.trans (ra.free 4).1
  have hlg : g < w2.heap.size := r.lt.1
  have hlh : h < w2.heap.size := r.lt.2
  have hg2 : w2.heap.size ≤ g' := rb.1
  have hh2 : w2.heap.size ≤ h' := rb.2.1
  have hg1 : w1.heap.size ≤ g := r.1
  have hh1 : w1.heap.size ≤ h := r.2.1
  have x06 := x1.step (x2.step (x3.step (x4.step (x5.step x6))))
  have hw1 := x1.size
  have rb8 : ∀ v v', RootAt ((w6.setCell ⟨h, 0, none⟩ v).setCell ⟨g, 4, none⟩ v') w2.heap.size g' h' := fun v v' =>
    (rb.setCell _ v (show h ≠ g' by omega) (show h ≠ h' by omega)).setCell _ v' (show g ≠ g' by omega) (show g ≠ h' by omega)
  have x8 : ∀ v v', Ext w ((w6.setCell ⟨h, 0, none⟩ v).setCell ⟨g, 4, none⟩ v') fun _ => False := fun v v' =>
    (x06.setCell _ v (show w.heap.size ≤ h by omega)).setCell _ v' (show w.heap.size ≤ g by omega)
  clear ra rb x06 hv x1 x2 x3 x4 x5 x6 r r'
  go_wp2_with fail
  refine (c19 _).mono ?_
  rintro e w9 ⟨v2, rfl, hv2, x9⟩
  have rb9 := (rb8 _ _).ext x9
  have x9 := (x8 _ _).step x9
  clear rb8 x8 hd hd2 hc hz hf
  go_wp2_with fail
  refine (c18 rb9.rep hv2).mono ?_
  rintro e w10 ⟨rfl, x10⟩
  have rb10 := rb9.ext x10
  have x10 := x9.step x10
  go_wp2_with fail
  refine (c16 _).mono ?_
  rintro e w11 ⟨g3, h3, rfl, r3, x11⟩
  have rb11 := rb10.ext x11
  have x11 := x10.step x11
  go_wp2_with fail
  refine (c18 r3.rep rb11.rep).mono ?_
  rintro e w12 ⟨rfl, x12⟩
  have x12 := x11.step x12
  go_wp2
  go_ret
  exact ⟨rfl, x12⟩
end Go.Proofs.Ytoophkcicdbnfaa
