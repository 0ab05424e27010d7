/- SchemaRoot (punnetlaw14): the law, which has no arguments, returns true, whatever the order in which the drawn operations go: 'SchemaRootSaid' as given. Conditions: none beyond the given statement's own. -/
import Derived.Test.YtoophkcicdbnfaaAE
import Derived.Test.YtoophkcicdbnfaaRows
import Derived.ProofKit
import Derived.Carry
import Derived.HandedShaped
set_option linter.unusedVariables false
set_option linter.unusedSimpArgs false
namespace Go.Proofs.Ytoophkcicdbnfaa
open Go Go.Av Go.ChangeShapes Go.WideShapes Go.ChangeAt Go.RowKit
set_option maxRecDepth 100000

theorem own_knob : ownKnob Try.prog.godebug = none := by kernel_rfl
theorem ext_below {w w' : World} (h : Ext w w' fun _ => False) : Below w.heap.size w w' := ⟨h.os, h.tape, h.output, h.size, fun k hk => h.blk k hk fun e => e⟩

theorem schemaRoot_lifted (os : Os) (started : os.Started) (H : Type) (enc : TypeId × Value → H) :
    ReturnsInHanded {} Try.checked os 3 .any (Rows.schemaRootSpec.pre6 enc Try.prog Try.f3 Rows.schemaRootRow.domain false) (Rows.schemaRootSpec.post enc Try.prog Try.f3 false true false false) := by
  refine returnsInHanded_of_change_shaped (C := Try.checked) own_knob started (by kernel_rfl) Try.func3
    (ChangeSpec.witness6 (enc := enc) (C := Try.checked) false ⟨#[], #[], []⟩ 8 (by kernel_rfl) (by kernel_rfl) (by kernel_rfl) (by kernel_rfl)) ?_
  intro W base args ds gs before hval0 hW hcnd hsz _ _
  have hW' := hW
  obtain ⟨p, q, hA0, hV, rfl, hfz, hnd⟩ := hW
  have hA : DataW.TrodAll enc Try.prog W 0 (fun _ => true) true [] args.toList ds p := hA0
  obtain ⟨rfl, rfl, rfl⟩ := trodAll_none hA
  obtain ⟨rfl, rfl⟩ := trodVars_none hV
  refine (c3w W).mono fun e W' ⟨he, hg⟩ => ?_
  subst he
  have hb := ext_below hg
  exact ⟨_, rfl, _, _, _, [], [], [], hW', trodAll_mk1 (shut_bool Try.underlying4 true), trodAll_mk0, rfl, hb.frame _, fun h => by cases h⟩

theorem schemaRoot_holds : Rows.SchemaRootSaid :=
  OpenClaim.holds_of_wide 3 Try.f3 rfl rfl rfl rfl rfl rfl rfl ⟨rfl, rfl, rfl, rfl, rfl⟩ rfl rfl rfl rfl rfl (by kernel_rfl) Try.func3 (by kernel_rfl)
    (of_decide_eq_true (by kernel_rfl)) (by unfold Func.isWrapper; first | (rw [if_pos (by decide +kernel)]; kernel_rfl) | (rw [if_neg (by decide +kernel)]; exact ⟨rfl, rfl⟩))
    (fun os started H enc _ => schemaRoot_lifted os started H enc)
#print axioms schemaRoot_holds
end Go.Proofs.Ytoophkcicdbnfaa
