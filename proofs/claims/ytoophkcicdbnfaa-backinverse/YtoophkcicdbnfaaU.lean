/- BackInverse (punnetlaw16): for every lens, and for every order in which the drawn operations go, the law returns true and leaves its argument as it was: 'BackInverseSaid' as given. Conditions: none beyond the given statement's own. -/
import Derived.Test.YtoophkcicdbnfaaS
import Derived.Test.YtoophkcicdbnfaaRows
import Derived.ProofKit
import Derived.Carry
import Derived.HandedShaped
set_option linter.unusedVariables false
set_option linter.unusedSimpArgs false
namespace Go.Proofs.Ytoophkcicdbnfaa
open Go Go.Av Go.ChangeShapes Go.WideShapes Go.ChangeAt Go.RowKit

theorem own_knob : ownKnob Try.prog.godebug = none := by kernel_rfl
theorem laid_out : laidOutB Try.prog = true := by kernel_rfl
theorem ext_below {w w' : World} (h : Ext w w' fun _ => False) : Below w.heap.size w w' := ⟨h.os, h.tape, h.output, h.size, fun k hk => h.blk k hk fun e => e⟩

set_option maxRecDepth 100000 in
theorem backInverse_lifted (os : Os) (started : os.Started) (H : Type) (enc : TypeId × Value → H) :
    ReturnsInHanded {} Try.checked os 4 .any (Rows.backInverseSpec.pre6 enc Try.prog Try.f4 Rows.backInverseRow.domain false) (Rows.backInverseSpec.post enc Try.prog Try.f4 false true false false) := by
  refine returnsInHanded_of_change_shaped (C := Try.checked) own_knob started (by kernel_rfl) Try.func4
    (ChangeSpec.witness6 (enc := enc) (C := Try.checked) false ⟨#[], #[.agg #[.int .i64 0, .int .i64 0, .string ⟨#[]⟩, .string ⟨#[]⟩, .string ⟨#[]⟩, .string ⟨#[]⟩, .int .i64 0, .int .i64 0, .string ⟨#[]⟩, .string ⟨#[]⟩, .int .i64 0, .string ⟨#[]⟩, .slice none 0 0, .int .i64 0, .slice none 0 0, .slice none 0 0]], []⟩ 8 (by kernel_rfl) (by kernel_rfl) (by kernel_rfl) (by kernel_rfl)) ?_
  intro W base args ds gs before hval0 hW hcnd hsz _ _
  have hval : ∀ (j : Nat) t v, Try.f4.params[j]? = some t → args[j]? = some v → Value.okWide Try.prog W .any base t v := hval0
  have hW' := hW
  obtain ⟨p, q, hA0, hV, rfl, hfz, hnd⟩ := hW
  have hA : DataW.TrodAll enc Try.prog W 0 (fun _ => true) true [33] args.toList ds p := hA0
  obtain ⟨v0, d0, rfl, rfl, h0⟩ := trodAll_one hA
  obtain ⟨rfl, rfl⟩ := trodVars_none hV
  obtain ⟨cs, rfl, hcs⟩ := okWide_struct Try.underlying33 (hval 0 33 v0 rfl rfl)
  obtain ⟨fuel, hf⟩ := id h0
  have hwt : ∀ n, n ∈ d0.weights Try.prog 33 → n ≤ reachBytes := by
    intro n hn
    have hall := List.all_eq_true.1 hsz n (by
      show n ∈ DataW.weightsEach Try.prog (33 :: _) (d0 :: _)
      unfold DataW.weightsEach
      exact List.mem_append.2 (.inl hn))
    simpa using hall
  obtain ⟨x, hx, hc⟩ := opens_lens H enc W fuel _ d0 p hf hwt
  refine ((f4 x hx).calls (vals := [.agg cs]) rfl fun i y v hy hv => ?_).mono fun e W' ⟨he, hg⟩ => ?_
  · cases i with
    | zero => simp at hy hv; subst hy hv; exact rep_agg hc
    | succ i => simp at hy
  · subst he
    have hb := ext_below hg
    have hlt : ∀ x ∈ p, x.block < W.heap.size := fun x hx => by simpa using hW'.lt x (by simpa using hx)
    exact ⟨_, rfl, _, _, _, [], p, [], hW', trodAll_mk1 (shut_bool Try.underlying4 true), trodAll_mk1 (Below.trod laid_out (by kernel_rfl) (of_decide_eq_true (by kernel_rfl)) h0 hb hlt), rfl, hb.frame _, fun h => by cases h⟩

theorem backInverse_holds : Rows.BackInverseSaid :=
  OpenClaim.holds_of_wide 4 Try.f4 rfl rfl rfl rfl rfl rfl rfl ⟨rfl, rfl, rfl, rfl, rfl⟩ rfl rfl rfl rfl rfl (by kernel_rfl) Try.func4 (by kernel_rfl)
    (of_decide_eq_true (by kernel_rfl)) (by unfold Func.isWrapper; first | (rw [if_pos (by decide +kernel)]; kernel_rfl) | (rw [if_neg (by decide +kernel)]; exact ⟨rfl, rfl⟩))
    (fun os started H enc _ => backInverse_lifted os started H enc)
#print axioms backInverse_holds
end Go.Proofs.Ytoophkcicdbnfaa
