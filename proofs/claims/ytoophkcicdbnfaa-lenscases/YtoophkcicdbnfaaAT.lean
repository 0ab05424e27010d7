/- LensCases (punnetlaw15): for every table of pairs and every text, and for every order in which the drawn operations go, the law returns true and leaves its arguments as they were: 'LensCasesSaid' as given. Conditions: none beyond the given statement's own. -/
import Derived.Test.YtoophkcicdbnfaaAS
import Derived.Test.YtoophkcicdbnfaaAvOpen
import Derived.Test.YtoophkcicdbnfaaRows
import Derived.ProofKit
import Derived.Carry
import Derived.HandedShaped
set_option linter.unusedVariables false
set_option linter.unusedSimpArgs false
namespace Go.Proofs.Ytoophkcicdbnfaa
open Go Go.Av Go.ChangeShapes Go.WideShapes Go.ChangeAt Go.RowKit
set_option maxRecDepth 100000

theorem c9 : Try.prog.cellsOf 9 = 1 := by kernel_rfl
theorem c77 : Try.prog.cellsOf 77 = 2 := by kernel_rfl
theorem b77 : Try.prog.bytesOf 77 = 32 := by kernel_rfl
theorem opens_pair : Opens Try.prog 77 SPair pairCells fun _ => True := by
  intro H enc w fuel cs d ps h1 h2
  obtain ⟨hl, hf⟩ := struct_parts Try.underlying77 c77 h1 h2
  obtain ⟨a, _, ha⟩ := hf 0 _ rfl 1 c9 (opens_str Try.underlying9)
  obtain ⟨b, _, hb⟩ := hf 1 _ rfl 1 c9 (opens_str Try.underlying9)
  exact ⟨⟨a, b⟩, trivial, CellsAre.cons (o := 0) (k := 1) (by omega) ha (CellsAre.cons (o := 1) (k := 1) (by omega) hb (CellsAre.nil hl))⟩
theorem opens_pairs : Opens Try.prog 31 (List SPair) (fun l => [encPairs l]) fun l => l.length ≤ 4398046511104 := by
  refine (opens_list Try.underlying31 opens_pair c77 b77 (by decide) noPair).as fun l hl => ⟨l, ?_, PLe.refl _, trivial⟩
  have h : l.length * 32 ≤ 140737488351232 := hl.1
  omega
/-- A struct's value, told. -/
theorem rep_agg {w : World} {cs : Array Value} {l : List PV} (h : CellsAre w cs.toList l) : RepP w (Old w) (aggL l) (.agg cs) := by
  refine ⟨cs, rfl, by simpa using h.1.symm, fun j hj => ?_⟩
  have hj' : j < cs.toList.length := by rw [← h.1]; exact hj
  refine ⟨cs.toList[j], ?_, (h.2 j _ (List.getElem?_eq_getElem hj')).1, (h.2 j _ (List.getElem?_eq_getElem hj')).2⟩
  rw [← Array.getElem?_toList]; exact List.getElem?_eq_getElem hj'

theorem own_knob : ownKnob Try.prog.godebug = none := by kernel_rfl
theorem laid_out : laidOutB Try.prog = true := by kernel_rfl
theorem ext_below {w w' : World} (h : Ext w w' fun _ => False) : Below w.heap.size w w' := ⟨h.os, h.tape, h.output, h.size, fun k hk => h.blk k hk fun e => e⟩


theorem lensCases_lifted (os : Os) (started : os.Started) (H : Type) (enc : TypeId × Value → H) :
    ReturnsInHanded {} Try.checked os 11 .any (Rows.lensCasesSpec.pre6 enc Try.prog Try.f11 Rows.lensCasesRow.domain false) (Rows.lensCasesSpec.post enc Try.prog Try.f11 false true false false) := by
  refine returnsInHanded_of_change_shaped (C := Try.checked) own_knob started (by kernel_rfl) Try.func11
    (ChangeSpec.witness6 (enc := enc) (C := Try.checked) false ⟨#[], #[.slice none 0 0, .string ⟨#[]⟩], []⟩ 8 (by kernel_rfl) (by kernel_rfl) (by kernel_rfl) (by kernel_rfl)) ?_
  intro W base args ds gs before hval0 hW hcnd hsz _ _
  have hval : ∀ (j : Nat) t v, Try.f11.params[j]? = some t → args[j]? = some v → Value.okWide Try.prog W .any base t v := hval0
  have hW' := hW
  obtain ⟨p, q, hA0, hV, rfl, hfz, hnd⟩ := hW
  have hA : DataW.TrodAll enc Try.prog W 0 (fun _ => true) true [31, 9] args.toList ds p := hA0
  obtain ⟨v0, v1, d0, d1, p0, p1, rfl, rfl, rfl, h0, h1⟩ := trodAll_two hA
  obtain ⟨rfl, rfl⟩ := trodVars_none hV
  obtain ⟨a0, n0, k0, rfl⟩ := okWide_slice Try.underlying31 (hval 0 31 v0 rfl rfl)
  obtain ⟨s, rfl⟩ := okWide_string Try.underlying9 (hval 1 9 v1 rfl rfl)
  have hall : ∀ n, n ∈ DataW.weightsEach Try.prog [31, 9] [d0, d1] → n ≤ reachBytes := by
    intro n hn
    simpa using List.all_eq_true.1 hsz n hn
  have w0 : ∀ n, n ∈ d0.weights Try.prog 31 → n ≤ reachBytes := fun n hn => hall n (by
    unfold DataW.weightsEach; exact List.mem_append.2 (.inl hn))
  obtain ⟨u0, g0⟩ := id h0
  obtain ⟨l, hl, cl⟩ := opens_pairs H enc W u0 _ d0 p0 g0 w0
  refine ((f11 l s (Nat.le_trans hl (by decide))).calls (vals := [.slice a0 n0 k0, .string s]) rfl fun i y v hy hv => ?_).mono fun e W' ⟨he, hg⟩ => ?_
  · match i with
    | 0 => simp at hy hv; subst hy hv; exact (cl.2 0 _ rfl).2
    | 1 => simp at hy hv; subst hy hv; exact rfl
    | i + 2 => simp at hy
  · subst he
    have hb := ext_below hg
    have hlt : ∀ x ∈ p0 ++ p1, x.block < W.heap.size := fun x hx => by simpa using hW'.lt x (by simpa using hx)
    have t0 := Below.trod laid_out (by kernel_rfl) (of_decide_eq_true (by kernel_rfl)) h0 hb fun x hx => hlt x (by simp [hx])
    have t1 := Below.trod laid_out (by kernel_rfl) (of_decide_eq_true (by kernel_rfl)) h1 hb fun x hx => hlt x (by simp [hx])
    exact ⟨_, rfl, _, _, _, [], p0 ++ p1, [], hW', trodAll_mk1 (shut_bool Try.underlying4 true), trodAll_mk2 t0 t1, rfl, hb.frame _, fun h => by cases h⟩

theorem lensCases_holds : Rows.LensCasesSaid :=
  OpenClaim.holds_of_wide 11 Try.f11 rfl rfl rfl rfl rfl rfl rfl ⟨rfl, rfl, rfl, rfl, rfl⟩ rfl rfl rfl rfl rfl (by kernel_rfl) Try.func11 (by kernel_rfl)
    (of_decide_eq_true (by kernel_rfl)) (by unfold Func.isWrapper; first | (rw [if_pos (by decide +kernel)]; kernel_rfl) | (rw [if_neg (by decide +kernel)]; exact ⟨rfl, rfl⟩))
    (fun os started H enc _ => lensCases_lifted os started H enc)
#print axioms lensCases_holds
end Go.Proofs.Ytoophkcicdbnfaa
