/-
  No cell of these rows narrows 'for every input' (looked for: loops, veiled, ifaces, maps, wideKeys, modest, calm, conditions, laid).
  DERIVED. THE GIVEN ROWS OF THIS SEAT. 5 by the template 'for every input the law returns true; each argument reads behind the call as it read before'; 0 by the template 'total and deterministic' (their statements: YtalpbdabeffnlaaGreatTotals.lean).
  GIVEN WITH THE SEED: the statements are not yours to turn. If you find one false, say at which input.
  Laid BY PROGRAM, IN A SANDBOX (cutbox-rows.mjs): the forced cells as the released guide's own fill.sh prints them over the translation b573fc577cad17ac… (all of the seat's roots in one cut). By AI agents, Wed Nov 11 2026. No macro, syntax, notation, axiom, sorry.
-/
import Derived.Test.YtalpbdabeffnlaaGreatChecked
import GoSem.Claim
import GoSem.ClaimJoined
import GoSem.ClaimMapViews
import Derived.JoinedTies
import Derived.KernelRfl
namespace Go.Proofs.YtalpbdabeffnlaaGreat
/- THE CELL 'sum', in the pinned program and in every row, IS THE sha256 OF THE DUMP (.gsa) THAT YtalpbdabeffnlaaGreatProg.lean LOADS. Nothing in Lean hashes anything: it is a label: what it is worth is what the hold of that sum in a sandbox is worth. -/
noncomputable def Tryz.pinned : Pinned := { name := "ytalpbdabeffnlaagreat", sum := "b573fc577cad17accd5593e8a2f1e042d9edb7aebe525eb727957b4c9a0e9531", checked := Tryz.checked }
namespace Rows
def none {H : Type} : Left H := { results := [], args := [] }

/-- 'punnetlaw16.BackChains': WHATEVER THE INPUT: true; the input reads as it did. -/
def backChainsSpec : ChangeSpec := { name := "backChains", fn := fun _ => fun
  | [d1, d2] => { results := [.lit (.bool true)], args := [d1, d2] }
  | _ => none }
def backChainsRow : OpenClaim := { program := "ytalpbdabeffnlaagreat", sum := "b573fc577cad17accd5593e8a2f1e042d9edb7aebe525eb727957b4c9a0e9531", func := "punnet/punnetlaw16.BackChains", spec := "backChains", inPlace := ["internal/bytealg.abigen_runtime_cmpstring"], unfollowed := true, recurses := true, apart := false }
def BackChainsSaid : Prop := backChainsRow.holds Tryz.pinned (OpenSpec.ofChange backChainsSpec)

/-- ITS FALSE NEIGHBOUR: 'it returns false'. Refute it at one input. -/
def backChainsWrong : ChangeSpec := { name := "backChains", fn := fun _ => fun
  | [d1, d2] => { results := [.lit (.bool false)], args := [d1, d2] }
  | _ => none }
def BackChainsWrongFalsely : Prop := backChainsRow.holds Tryz.pinned (OpenSpec.ofChange backChainsWrong)

/-- 'punnetlaw21.StepWorth': WHATEVER THE INPUT: true; the input reads as it did. -/
def stepWorthSpec : ChangeSpec := { name := "stepWorth", fn := fun _ => fun
  | [d1, d2, d3] => { results := [.lit (.bool true)], args := [d1, d2, d3] }
  | _ => none }
def stepWorthRow : OpenClaim := { program := "ytalpbdabeffnlaagreat", sum := "b573fc577cad17accd5593e8a2f1e042d9edb7aebe525eb727957b4c9a0e9531", func := "punnet/punnetlaw21.StepWorth", spec := "stepWorth", inPlace := ["math.archTrunc", "math.Float64bits", "math.Float64frombits", "internal/bytealg.abigen_runtime_cmpstring"], unfollowed := true, recurses := true, apart := false }
def StepWorthSaid : Prop := stepWorthRow.holds Tryz.pinned (OpenSpec.ofChange stepWorthSpec)

/-- ITS FALSE NEIGHBOUR: 'it returns false'. Refute it at one input. -/
def stepWorthWrong : ChangeSpec := { name := "stepWorth", fn := fun _ => fun
  | [d1, d2, d3] => { results := [.lit (.bool false)], args := [d1, d2, d3] }
  | _ => none }
def StepWorthWrongFalsely : Prop := stepWorthRow.holds Tryz.pinned (OpenSpec.ofChange stepWorthWrong)

/-- 'punnetlaw24.ProjectOver': WHATEVER THE INPUT: true; the input reads as it did. -/
def projectOverSpec : ChangeSpec := { name := "projectOver", fn := fun _ => fun
  | [d1, d2, d3] => { results := [.lit (.bool true)], args := [d1, d2, d3] }
  | _ => none }
def projectOverRow : OpenClaim := { program := "ytalpbdabeffnlaagreat", sum := "b573fc577cad17accd5593e8a2f1e042d9edb7aebe525eb727957b4c9a0e9531", func := "punnet/punnetlaw24.ProjectOver", spec := "projectOver", inPlace := ["internal/bytealg.abigen_runtime_cmpstring", "math.archTrunc", "math.Float64bits", "math.Float64frombits"], unfollowed := true, recurses := true, apart := false }
def ProjectOverSaid : Prop := projectOverRow.holds Tryz.pinned (OpenSpec.ofChange projectOverSpec)

/-- ITS FALSE NEIGHBOUR: 'it returns false'. Refute it at one input. -/
def projectOverWrong : ChangeSpec := { name := "projectOver", fn := fun _ => fun
  | [d1, d2, d3] => { results := [.lit (.bool false)], args := [d1, d2, d3] }
  | _ => none }
def ProjectOverWrongFalsely : Prop := projectOverRow.holds Tryz.pinned (OpenSpec.ofChange projectOverWrong)

/-- 'punnetlaw21.StepBack': WHATEVER THE INPUT: true; the input reads as it did. -/
def stepBackSpec : ChangeSpec := { name := "stepBack", fn := fun _ => fun
  | [d1, d2, d3] => { results := [.lit (.bool true)], args := [d1, d2, d3] }
  | _ => none }
def stepBackRow : OpenClaim := { program := "ytalpbdabeffnlaagreat", sum := "b573fc577cad17accd5593e8a2f1e042d9edb7aebe525eb727957b4c9a0e9531", func := "punnet/punnetlaw21.StepBack", spec := "stepBack", inPlace := ["math.archTrunc", "math.Float64bits", "math.Float64frombits", "internal/bytealg.abigen_runtime_cmpstring"], unfollowed := true, recurses := true, apart := false }
def StepBackSaid : Prop := stepBackRow.holds Tryz.pinned (OpenSpec.ofChange stepBackSpec)

/-- ITS FALSE NEIGHBOUR: 'it returns false'. Refute it at one input. -/
def stepBackWrong : ChangeSpec := { name := "stepBack", fn := fun _ => fun
  | [d1, d2, d3] => { results := [.lit (.bool false)], args := [d1, d2, d3] }
  | _ => none }
def StepBackWrongFalsely : Prop := stepBackRow.holds Tryz.pinned (OpenSpec.ofChange stepBackWrong)

/-- 'punnetlaw24.ProjectBack': WHATEVER THE INPUT: true; the input reads as it did. -/
def projectBackSpec : ChangeSpec := { name := "projectBack", fn := fun _ => fun
  | [d1, d2, d3] => { results := [.lit (.bool true)], args := [d1, d2, d3] }
  | _ => none }
def projectBackRow : OpenClaim := { program := "ytalpbdabeffnlaagreat", sum := "b573fc577cad17accd5593e8a2f1e042d9edb7aebe525eb727957b4c9a0e9531", func := "punnet/punnetlaw24.ProjectBack", spec := "projectBack", inPlace := ["internal/bytealg.abigen_runtime_cmpstring", "math.archTrunc", "math.Float64bits", "math.Float64frombits"], unfollowed := true, recurses := true, apart := false }
def ProjectBackSaid : Prop := projectBackRow.holds Tryz.pinned (OpenSpec.ofChange projectBackSpec)

/-- ITS FALSE NEIGHBOUR: 'it returns false'. Refute it at one input. -/
def projectBackWrong : ChangeSpec := { name := "projectBack", fn := fun _ => fun
  | [d1, d2, d3] => { results := [.lit (.bool false)], args := [d1, d2, d3] }
  | _ => none }
def ProjectBackWrongFalsely : Prop := projectBackRow.holds Tryz.pinned (OpenSpec.ofChange projectBackWrong)

/- THE SECOND FORM. 'bulk': how many values and letters a reading holds, each counted each time it is reached (what is shared counts as often as it is met; a slice's spare places count too). A statement '..UptoSaid' is the law's where the arguments, and the package variables that the reading takes, are together of bulk at most 1048576: NARROWER than '..Said'. Prove '..Said' where nothing that the law and all that it calls make is longer than what came in: it says more and counts as full. Else prove '..UptoSaid'. A law counts once. -/
mutual
def uptoBulk {H : Type} : DataW H → Nat
  | .lit (.string bytes) => bytes.length + 1
  | .lit _ => 1
  | .nil => 1
  | .ptr d => uptoBulk d + 1
  | .slice elems spare => uptoBulkAll elems + uptoBulkAll spare + 1
  | .agg parts => uptoBulkAll parts + 1
  | .iface _ d => uptoBulk d + 1
  | .map entries => uptoBulkEntries entries + 1
  | .held _ => 1
def uptoBulkAll {H : Type} : List (DataW H) → Nat
  | [] => 0
  | d :: r => uptoBulk d + uptoBulkAll r
def uptoBulkEntries {H : Type} : List (Lit × DataW H) → Nat
  | [] => 0
  | x :: r => uptoBulkEntry x + uptoBulkEntries r
def uptoBulkEntry {H : Type} : Lit × DataW H → Nat
  | (.string bytes, d) => bytes.length + uptoBulk d + 1
  | (_, d) => uptoBulk d + 1
 end
def uptoSmall : (H : Type) → List (DataW H) → Bool := fun _ ds => decide (uptoBulkAll ds ≤ 1048576)
def OpenSpec.upto (s : _root_.Go.ChangeSpec) : _root_.Go.OpenSpec := { _root_.Go.OpenSpec.ofChange s with cond := some uptoSmall }

/-- 'punnetlaw16.BackChains', WHERE WHAT IT READS IS OF BULK AT MOST 1048576: true; the input reads as it did. -/
def backChainsUptoRow : OpenClaim := { program := "ytalpbdabeffnlaagreat", sum := "b573fc577cad17accd5593e8a2f1e042d9edb7aebe525eb727957b4c9a0e9531", func := "punnet/punnetlaw16.BackChains", spec := "backChains", inPlace := ["internal/bytealg.abigen_runtime_cmpstring"], unfollowed := true, recurses := true, apart := false, narrowed := true }
def BackChainsUptoSaid : Prop := backChainsUptoRow.holds Tryz.pinned (OpenSpec.upto backChainsSpec)

/-- 'punnetlaw21.StepWorth', WHERE WHAT IT READS IS OF BULK AT MOST 1048576: true; the input reads as it did. -/
def stepWorthUptoRow : OpenClaim := { program := "ytalpbdabeffnlaagreat", sum := "b573fc577cad17accd5593e8a2f1e042d9edb7aebe525eb727957b4c9a0e9531", func := "punnet/punnetlaw21.StepWorth", spec := "stepWorth", inPlace := ["math.archTrunc", "math.Float64bits", "math.Float64frombits", "internal/bytealg.abigen_runtime_cmpstring"], unfollowed := true, recurses := true, apart := false, narrowed := true }
def StepWorthUptoSaid : Prop := stepWorthUptoRow.holds Tryz.pinned (OpenSpec.upto stepWorthSpec)

/-- 'punnetlaw24.ProjectOver', WHERE WHAT IT READS IS OF BULK AT MOST 1048576: true; the input reads as it did. -/
def projectOverUptoRow : OpenClaim := { program := "ytalpbdabeffnlaagreat", sum := "b573fc577cad17accd5593e8a2f1e042d9edb7aebe525eb727957b4c9a0e9531", func := "punnet/punnetlaw24.ProjectOver", spec := "projectOver", inPlace := ["internal/bytealg.abigen_runtime_cmpstring", "math.archTrunc", "math.Float64bits", "math.Float64frombits"], unfollowed := true, recurses := true, apart := false, narrowed := true }
def ProjectOverUptoSaid : Prop := projectOverUptoRow.holds Tryz.pinned (OpenSpec.upto projectOverSpec)

/-- 'punnetlaw21.StepBack', WHERE WHAT IT READS IS OF BULK AT MOST 1048576: true; the input reads as it did. -/
def stepBackUptoRow : OpenClaim := { program := "ytalpbdabeffnlaagreat", sum := "b573fc577cad17accd5593e8a2f1e042d9edb7aebe525eb727957b4c9a0e9531", func := "punnet/punnetlaw21.StepBack", spec := "stepBack", inPlace := ["math.archTrunc", "math.Float64bits", "math.Float64frombits", "internal/bytealg.abigen_runtime_cmpstring"], unfollowed := true, recurses := true, apart := false, narrowed := true }
def StepBackUptoSaid : Prop := stepBackUptoRow.holds Tryz.pinned (OpenSpec.upto stepBackSpec)

/-- 'punnetlaw24.ProjectBack', WHERE WHAT IT READS IS OF BULK AT MOST 1048576: true; the input reads as it did. -/
def projectBackUptoRow : OpenClaim := { program := "ytalpbdabeffnlaagreat", sum := "b573fc577cad17accd5593e8a2f1e042d9edb7aebe525eb727957b4c9a0e9531", func := "punnet/punnetlaw24.ProjectBack", spec := "projectBack", inPlace := ["internal/bytealg.abigen_runtime_cmpstring", "math.archTrunc", "math.Float64bits", "math.Float64frombits"], unfollowed := true, recurses := true, apart := false, narrowed := true }
def ProjectBackUptoSaid : Prop := projectBackUptoRow.holds Tryz.pinned (OpenSpec.upto projectBackSpec)

end Rows
end Go.Proofs.YtalpbdabeffnlaaGreat
