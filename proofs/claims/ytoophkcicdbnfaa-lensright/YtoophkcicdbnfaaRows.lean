/-
  No cell of these rows narrows 'for every input' (looked for: loops, veiled, ifaces, maps, wideKeys, modest, calm, conditions, laid).
  DERIVED. THE GIVEN ROWS OF THIS SEAT. 12 by the template 'for every input the law returns true; each argument reads behind the call as it read before'; 0 by the template 'total and deterministic' (their statements: YtoophkcicdbnfaaTotals.lean).
  GIVEN WITH THE SEED: the statements are not yours to turn. If you find one false, say at which input.
  Laid BY PROGRAM, IN A SANDBOX (cutbox-rows.mjs): the forced cells as the released guide's own fill.sh prints them over the translation 8d0ed763411e2dfb… (all of the seat's roots in one cut). By AI agents, Wed Nov 11 2026. No macro, syntax, notation, axiom, sorry.
-/
import Derived.Test.YtoophkcicdbnfaaChecked
import GoSem.Claim
import GoSem.ClaimJoined
import GoSem.ClaimMapViews
import Derived.JoinedTies
import Derived.KernelRfl
namespace Go.Proofs.Ytoophkcicdbnfaa
/- THE CELL 'sum', in the pinned program and in every row, IS THE sha256 OF THE DUMP (.gsa) THAT YtoophkcicdbnfaaProg.lean LOADS. Nothing in Lean hashes anything: it is a label: what it is worth is what the hold of that sum in a sandbox is worth. -/
noncomputable def Try.pinned : Pinned := { name := "ytoophkcicdbnfaa", sum := "8d0ed763411e2dfbe2263ba4b2f732f6d1ccb52e3ffaddbaefd015bb27e4d031", checked := Try.checked }
namespace Rows
def none {H : Type} : Left H := { results := [], args := [] }

/-- 'punnetlaw14.SchemaRoot': WHATEVER THE INPUT: true; the input reads as it did. -/
def schemaRootSpec : ChangeSpec := { name := "schemaRoot", fn := fun _ => fun
  | [] => { results := [.lit (.bool true)], args := [] }
  | _ => none }
def schemaRootRow : OpenClaim := { program := "ytoophkcicdbnfaa", sum := "8d0ed763411e2dfbe2263ba4b2f732f6d1ccb52e3ffaddbaefd015bb27e4d031", func := "punnet/punnetlaw14.SchemaRoot", spec := "schemaRoot", inPlace := ["internal/bytealg.abigen_runtime_cmpstring"], unfollowed := true, recurses := true, apart := false }
def SchemaRootSaid : Prop := schemaRootRow.holds Try.pinned (OpenSpec.ofChange schemaRootSpec)

/-- ITS FALSE NEIGHBOUR: 'it returns false'. Refute it at one input. -/
def schemaRootWrong : ChangeSpec := { name := "schemaRoot", fn := fun _ => fun
  | [] => { results := [.lit (.bool false)], args := [] }
  | _ => none }
def SchemaRootWrongFalsely : Prop := schemaRootRow.holds Try.pinned (OpenSpec.ofChange schemaRootWrong)

/-- 'punnetlaw16.BackInverse': WHATEVER THE INPUT: true; the input reads as it did. -/
def backInverseSpec : ChangeSpec := { name := "backInverse", fn := fun _ => fun
  | [d] => { results := [.lit (.bool true)], args := [d] }
  | _ => none }
def backInverseRow : OpenClaim := { program := "ytoophkcicdbnfaa", sum := "8d0ed763411e2dfbe2263ba4b2f732f6d1ccb52e3ffaddbaefd015bb27e4d031", func := "punnet/punnetlaw16.BackInverse", spec := "backInverse", apart := false }
def BackInverseSaid : Prop := backInverseRow.holds Try.pinned (OpenSpec.ofChange backInverseSpec)

/-- ITS FALSE NEIGHBOUR: 'it returns false'. Refute it at one input. -/
def backInverseWrong : ChangeSpec := { name := "backInverse", fn := fun _ => fun
  | [d] => { results := [.lit (.bool false)], args := [d] }
  | _ => none }
def BackInverseWrongFalsely : Prop := backInverseRow.holds Try.pinned (OpenSpec.ofChange backInverseWrong)

/-- 'punnetlaw14.SchemaKept': WHATEVER THE INPUT: true; the input reads as it did. -/
def schemaKeptSpec : ChangeSpec := { name := "schemaKept", fn := fun _ => fun
  | [d1, d2] => { results := [.lit (.bool true)], args := [d1, d2] }
  | _ => none }
def schemaKeptRow : OpenClaim := { program := "ytoophkcicdbnfaa", sum := "8d0ed763411e2dfbe2263ba4b2f732f6d1ccb52e3ffaddbaefd015bb27e4d031", func := "punnet/punnetlaw14.SchemaKept", spec := "schemaKept", inPlace := ["internal/bytealg.abigen_runtime_cmpstring"], unfollowed := true, recurses := true, apart := false }
def SchemaKeptSaid : Prop := schemaKeptRow.holds Try.pinned (OpenSpec.ofChange schemaKeptSpec)

/-- ITS FALSE NEIGHBOUR: 'it returns false'. Refute it at one input. -/
def schemaKeptWrong : ChangeSpec := { name := "schemaKept", fn := fun _ => fun
  | [d1, d2] => { results := [.lit (.bool false)], args := [d1, d2] }
  | _ => none }
def SchemaKeptWrongFalsely : Prop := schemaKeptRow.holds Try.pinned (OpenSpec.ofChange schemaKeptWrong)

/-- 'punnetlaw14.SchemaFinds': WHATEVER THE INPUT: true; the input reads as it did. -/
def schemaFindsSpec : ChangeSpec := { name := "schemaFinds", fn := fun _ => fun
  | [d1, d2, d3, d4] => { results := [.lit (.bool true)], args := [d1, d2, d3, d4] }
  | _ => none }
def schemaFindsRow : OpenClaim := { program := "ytoophkcicdbnfaa", sum := "8d0ed763411e2dfbe2263ba4b2f732f6d1ccb52e3ffaddbaefd015bb27e4d031", func := "punnet/punnetlaw14.SchemaFinds", spec := "schemaFinds", inPlace := ["internal/bytealg.abigen_runtime_cmpstring"], unfollowed := true, recurses := true, apart := false }
def SchemaFindsSaid : Prop := schemaFindsRow.holds Try.pinned (OpenSpec.ofChange schemaFindsSpec)

/-- ITS FALSE NEIGHBOUR: 'it returns false'. Refute it at one input. -/
def schemaFindsWrong : ChangeSpec := { name := "schemaFinds", fn := fun _ => fun
  | [d1, d2, d3, d4] => { results := [.lit (.bool false)], args := [d1, d2, d3, d4] }
  | _ => none }
def SchemaFindsWrongFalsely : Prop := schemaFindsRow.holds Try.pinned (OpenSpec.ofChange schemaFindsWrong)

/-- 'punnetlaw14.SchemaBytes': WHATEVER THE INPUT: true; the input reads as it did. -/
def schemaBytesSpec : ChangeSpec := { name := "schemaBytes", fn := fun _ => fun
  | [d1, d2, d3] => { results := [.lit (.bool true)], args := [d1, d2, d3] }
  | _ => none }
def schemaBytesRow : OpenClaim := { program := "ytoophkcicdbnfaa", sum := "8d0ed763411e2dfbe2263ba4b2f732f6d1ccb52e3ffaddbaefd015bb27e4d031", func := "punnet/punnetlaw14.SchemaBytes", spec := "schemaBytes", inPlace := ["internal/bytealg.abigen_runtime_cmpstring"], unfollowed := true, recurses := true, apart := false }
def SchemaBytesSaid : Prop := schemaBytesRow.holds Try.pinned (OpenSpec.ofChange schemaBytesSpec)

/-- ITS FALSE NEIGHBOUR: 'it returns false'. Refute it at one input. -/
def schemaBytesWrong : ChangeSpec := { name := "schemaBytes", fn := fun _ => fun
  | [d1, d2, d3] => { results := [.lit (.bool false)], args := [d1, d2, d3] }
  | _ => none }
def SchemaBytesWrongFalsely : Prop := schemaBytesRow.holds Try.pinned (OpenSpec.ofChange schemaBytesWrong)

/-- 'punnetlaw14.SchemaTurns': WHATEVER THE INPUT: true; the input reads as it did. -/
def schemaTurnsSpec : ChangeSpec := { name := "schemaTurns", fn := fun _ => fun
  | [d1, d2, d3] => { results := [.lit (.bool true)], args := [d1, d2, d3] }
  | _ => none }
def schemaTurnsRow : OpenClaim := { program := "ytoophkcicdbnfaa", sum := "8d0ed763411e2dfbe2263ba4b2f732f6d1ccb52e3ffaddbaefd015bb27e4d031", func := "punnet/punnetlaw14.SchemaTurns", spec := "schemaTurns", inPlace := ["internal/bytealg.abigen_runtime_cmpstring"], unfollowed := true, recurses := true, apart := false }
def SchemaTurnsSaid : Prop := schemaTurnsRow.holds Try.pinned (OpenSpec.ofChange schemaTurnsSpec)

/-- ITS FALSE NEIGHBOUR: 'it returns false'. Refute it at one input. -/
def schemaTurnsWrong : ChangeSpec := { name := "schemaTurns", fn := fun _ => fun
  | [d1, d2, d3] => { results := [.lit (.bool false)], args := [d1, d2, d3] }
  | _ => none }
def SchemaTurnsWrongFalsely : Prop := schemaTurnsRow.holds Try.pinned (OpenSpec.ofChange schemaTurnsWrong)

/-- 'punnetlaw15.LensApplies': WHATEVER THE INPUT: true; the input reads as it did. -/
def lensAppliesSpec : ChangeSpec := { name := "lensApplies", fn := fun _ => fun
  | [d1, d2] => { results := [.lit (.bool true)], args := [d1, d2] }
  | _ => none }
def lensAppliesRow : OpenClaim := { program := "ytoophkcicdbnfaa", sum := "8d0ed763411e2dfbe2263ba4b2f732f6d1ccb52e3ffaddbaefd015bb27e4d031", func := "punnet/punnetlaw15.LensApplies", spec := "lensApplies", inPlace := ["internal/bytealg.abigen_runtime_cmpstring"], unfollowed := true, recurses := true, apart := false }
def LensAppliesSaid : Prop := lensAppliesRow.holds Try.pinned (OpenSpec.ofChange lensAppliesSpec)

/-- ITS FALSE NEIGHBOUR: 'it returns false'. Refute it at one input. -/
def lensAppliesWrong : ChangeSpec := { name := "lensApplies", fn := fun _ => fun
  | [d1, d2] => { results := [.lit (.bool false)], args := [d1, d2] }
  | _ => none }
def LensAppliesWrongFalsely : Prop := lensAppliesRow.holds Try.pinned (OpenSpec.ofChange lensAppliesWrong)

/-- 'punnetlaw15.LensKeeps': WHATEVER THE INPUT: true; the input reads as it did. -/
def lensKeepsSpec : ChangeSpec := { name := "lensKeeps", fn := fun _ => fun
  | [d1, d2, d3] => { results := [.lit (.bool true)], args := [d1, d2, d3] }
  | _ => none }
def lensKeepsRow : OpenClaim := { program := "ytoophkcicdbnfaa", sum := "8d0ed763411e2dfbe2263ba4b2f732f6d1ccb52e3ffaddbaefd015bb27e4d031", func := "punnet/punnetlaw15.LensKeeps", spec := "lensKeeps", inPlace := ["internal/bytealg.abigen_runtime_cmpstring"], unfollowed := true, recurses := true, apart := false }
def LensKeepsSaid : Prop := lensKeepsRow.holds Try.pinned (OpenSpec.ofChange lensKeepsSpec)

/-- ITS FALSE NEIGHBOUR: 'it returns false'. Refute it at one input. -/
def lensKeepsWrong : ChangeSpec := { name := "lensKeeps", fn := fun _ => fun
  | [d1, d2, d3] => { results := [.lit (.bool false)], args := [d1, d2, d3] }
  | _ => none }
def LensKeepsWrongFalsely : Prop := lensKeepsRow.holds Try.pinned (OpenSpec.ofChange lensKeepsWrong)

/-- 'punnetlaw15.LensCases': WHATEVER THE INPUT: true; the input reads as it did. -/
def lensCasesSpec : ChangeSpec := { name := "lensCases", fn := fun _ => fun
  | [d1, d2] => { results := [.lit (.bool true)], args := [d1, d2] }
  | _ => none }
def lensCasesRow : OpenClaim := { program := "ytoophkcicdbnfaa", sum := "8d0ed763411e2dfbe2263ba4b2f732f6d1ccb52e3ffaddbaefd015bb27e4d031", func := "punnet/punnetlaw15.LensCases", spec := "lensCases", inPlace := ["internal/bytealg.abigen_runtime_cmpstring"], unfollowed := true, recurses := true, apart := false }
def LensCasesSaid : Prop := lensCasesRow.holds Try.pinned (OpenSpec.ofChange lensCasesSpec)

/-- ITS FALSE NEIGHBOUR: 'it returns false'. Refute it at one input. -/
def lensCasesWrong : ChangeSpec := { name := "lensCases", fn := fun _ => fun
  | [d1, d2] => { results := [.lit (.bool false)], args := [d1, d2] }
  | _ => none }
def LensCasesWrongFalsely : Prop := lensCasesRow.holds Try.pinned (OpenSpec.ofChange lensCasesWrong)

/-- 'punnetlaw15.LensRight': WHATEVER THE INPUT: true; the input reads as it did. -/
def lensRightSpec : ChangeSpec := { name := "lensRight", fn := fun _ => fun
  | [d1, d2] => { results := [.lit (.bool true)], args := [d1, d2] }
  | _ => none }
def lensRightRow : OpenClaim := { program := "ytoophkcicdbnfaa", sum := "8d0ed763411e2dfbe2263ba4b2f732f6d1ccb52e3ffaddbaefd015bb27e4d031", func := "punnet/punnetlaw15.LensRight", spec := "lensRight", inPlace := ["internal/bytealg.abigen_runtime_cmpstring"], unfollowed := true, recurses := true, apart := false }
def LensRightSaid : Prop := lensRightRow.holds Try.pinned (OpenSpec.ofChange lensRightSpec)

/-- ITS FALSE NEIGHBOUR: 'it returns false'. Refute it at one input. -/
def lensRightWrong : ChangeSpec := { name := "lensRight", fn := fun _ => fun
  | [d1, d2] => { results := [.lit (.bool false)], args := [d1, d2] }
  | _ => none }
def LensRightWrongFalsely : Prop := lensRightRow.holds Try.pinned (OpenSpec.ofChange lensRightWrong)

/-- 'punnetlaw16.BackReturns': WHATEVER THE INPUT: true; the input reads as it did. -/
def backReturnsSpec : ChangeSpec := { name := "backReturns", fn := fun _ => fun
  | [d1, d2] => { results := [.lit (.bool true)], args := [d1, d2] }
  | _ => none }
def backReturnsRow : OpenClaim := { program := "ytoophkcicdbnfaa", sum := "8d0ed763411e2dfbe2263ba4b2f732f6d1ccb52e3ffaddbaefd015bb27e4d031", func := "punnet/punnetlaw16.BackReturns", spec := "backReturns", inPlace := ["internal/bytealg.abigen_runtime_cmpstring"], unfollowed := true, recurses := true, apart := false }
def BackReturnsSaid : Prop := backReturnsRow.holds Try.pinned (OpenSpec.ofChange backReturnsSpec)

/-- ITS FALSE NEIGHBOUR: 'it returns false'. Refute it at one input. -/
def backReturnsWrong : ChangeSpec := { name := "backReturns", fn := fun _ => fun
  | [d1, d2] => { results := [.lit (.bool false)], args := [d1, d2] }
  | _ => none }
def BackReturnsWrongFalsely : Prop := backReturnsRow.holds Try.pinned (OpenSpec.ofChange backReturnsWrong)

/-- 'punnetlaw16.BackParts': WHATEVER THE INPUT: true; the input reads as it did. -/
def backPartsSpec : ChangeSpec := { name := "backParts", fn := fun _ => fun
  | [d1, d2, d3] => { results := [.lit (.bool true)], args := [d1, d2, d3] }
  | _ => none }
def backPartsRow : OpenClaim := { program := "ytoophkcicdbnfaa", sum := "8d0ed763411e2dfbe2263ba4b2f732f6d1ccb52e3ffaddbaefd015bb27e4d031", func := "punnet/punnetlaw16.BackParts", spec := "backParts", inPlace := ["internal/bytealg.abigen_runtime_cmpstring"], unfollowed := true, recurses := true, apart := false }
def BackPartsSaid : Prop := backPartsRow.holds Try.pinned (OpenSpec.ofChange backPartsSpec)

/-- ITS FALSE NEIGHBOUR: 'it returns false'. Refute it at one input. -/
def backPartsWrong : ChangeSpec := { name := "backParts", fn := fun _ => fun
  | [d1, d2, d3] => { results := [.lit (.bool false)], args := [d1, d2, d3] }
  | _ => none }
def BackPartsWrongFalsely : Prop := backPartsRow.holds Try.pinned (OpenSpec.ofChange backPartsWrong)

/- THE SECOND FORM. 'bulk': how many values and letters a reading holds, each counted each time it is reached (what is shared counts as often as it is met; a slice's spare places count too). A statement '..UptoSaid' is the law's where the arguments, and the package variables that the reading takes, are together of bulk at most 1048576: NARROWER than '..Said'. Prove '..Said' where nothing that the law and all that it calls make is longer than what came in: it says more and counts as full. Else prove '..UptoSaid'. A law counts once. -/
mutual
def uptoBulk {H : Type} : DataW H → Nat
  | .lit (.string bytes) => bytes.length + 1
  | .lit _ => 1
  | .nil => 1
  | .ptr d => uptoBulk d + 1
  | .slice elems spare => uptoBulkAll elems + uptoBulkAll spare + 1
  | .agg parts => uptoBulkAll parts + 1
  | .iface _ d => uptoBulk d + 1
  | .map entries => uptoBulkEntries entries + 1
  | .held _ => 1
def uptoBulkAll {H : Type} : List (DataW H) → Nat
  | [] => 0
  | d :: r => uptoBulk d + uptoBulkAll r
def uptoBulkEntries {H : Type} : List (Lit × DataW H) → Nat
  | [] => 0
  | x :: r => uptoBulkEntry x + uptoBulkEntries r
def uptoBulkEntry {H : Type} : Lit × DataW H → Nat
  | (.string bytes, d) => bytes.length + uptoBulk d + 1
  | (_, d) => uptoBulk d + 1
 end
def uptoSmall : (H : Type) → List (DataW H) → Bool := fun _ ds => decide (uptoBulkAll ds ≤ 1048576)
def OpenSpec.upto (s : _root_.Go.ChangeSpec) : _root_.Go.OpenSpec := { _root_.Go.OpenSpec.ofChange s with cond := some uptoSmall }

/-- 'punnetlaw14.SchemaRoot', WHERE WHAT IT READS IS OF BULK AT MOST 1048576: true; the input reads as it did. -/
def schemaRootUptoRow : OpenClaim := { program := "ytoophkcicdbnfaa", sum := "8d0ed763411e2dfbe2263ba4b2f732f6d1ccb52e3ffaddbaefd015bb27e4d031", func := "punnet/punnetlaw14.SchemaRoot", spec := "schemaRoot", inPlace := ["internal/bytealg.abigen_runtime_cmpstring"], unfollowed := true, recurses := true, apart := false, narrowed := true }
def SchemaRootUptoSaid : Prop := schemaRootUptoRow.holds Try.pinned (OpenSpec.upto schemaRootSpec)

/-- 'punnetlaw16.BackInverse', WHERE WHAT IT READS IS OF BULK AT MOST 1048576: true; the input reads as it did. -/
def backInverseUptoRow : OpenClaim := { program := "ytoophkcicdbnfaa", sum := "8d0ed763411e2dfbe2263ba4b2f732f6d1ccb52e3ffaddbaefd015bb27e4d031", func := "punnet/punnetlaw16.BackInverse", spec := "backInverse", apart := false, narrowed := true }
def BackInverseUptoSaid : Prop := backInverseUptoRow.holds Try.pinned (OpenSpec.upto backInverseSpec)

/-- 'punnetlaw14.SchemaKept', WHERE WHAT IT READS IS OF BULK AT MOST 1048576: true; the input reads as it did. -/
def schemaKeptUptoRow : OpenClaim := { program := "ytoophkcicdbnfaa", sum := "8d0ed763411e2dfbe2263ba4b2f732f6d1ccb52e3ffaddbaefd015bb27e4d031", func := "punnet/punnetlaw14.SchemaKept", spec := "schemaKept", inPlace := ["internal/bytealg.abigen_runtime_cmpstring"], unfollowed := true, recurses := true, apart := false, narrowed := true }
def SchemaKeptUptoSaid : Prop := schemaKeptUptoRow.holds Try.pinned (OpenSpec.upto schemaKeptSpec)

/-- 'punnetlaw14.SchemaFinds', WHERE WHAT IT READS IS OF BULK AT MOST 1048576: true; the input reads as it did. -/
def schemaFindsUptoRow : OpenClaim := { program := "ytoophkcicdbnfaa", sum := "8d0ed763411e2dfbe2263ba4b2f732f6d1ccb52e3ffaddbaefd015bb27e4d031", func := "punnet/punnetlaw14.SchemaFinds", spec := "schemaFinds", inPlace := ["internal/bytealg.abigen_runtime_cmpstring"], unfollowed := true, recurses := true, apart := false, narrowed := true }
def SchemaFindsUptoSaid : Prop := schemaFindsUptoRow.holds Try.pinned (OpenSpec.upto schemaFindsSpec)

/-- 'punnetlaw14.SchemaBytes', WHERE WHAT IT READS IS OF BULK AT MOST 1048576: true; the input reads as it did. -/
def schemaBytesUptoRow : OpenClaim := { program := "ytoophkcicdbnfaa", sum := "8d0ed763411e2dfbe2263ba4b2f732f6d1ccb52e3ffaddbaefd015bb27e4d031", func := "punnet/punnetlaw14.SchemaBytes", spec := "schemaBytes", inPlace := ["internal/bytealg.abigen_runtime_cmpstring"], unfollowed := true, recurses := true, apart := false, narrowed := true }
def SchemaBytesUptoSaid : Prop := schemaBytesUptoRow.holds Try.pinned (OpenSpec.upto schemaBytesSpec)

/-- 'punnetlaw14.SchemaTurns', WHERE WHAT IT READS IS OF BULK AT MOST 1048576: true; the input reads as it did. -/
def schemaTurnsUptoRow : OpenClaim := { program := "ytoophkcicdbnfaa", sum := "8d0ed763411e2dfbe2263ba4b2f732f6d1ccb52e3ffaddbaefd015bb27e4d031", func := "punnet/punnetlaw14.SchemaTurns", spec := "schemaTurns", inPlace := ["internal/bytealg.abigen_runtime_cmpstring"], unfollowed := true, recurses := true, apart := false, narrowed := true }
def SchemaTurnsUptoSaid : Prop := schemaTurnsUptoRow.holds Try.pinned (OpenSpec.upto schemaTurnsSpec)

/-- 'punnetlaw15.LensApplies', WHERE WHAT IT READS IS OF BULK AT MOST 1048576: true; the input reads as it did. -/
def lensAppliesUptoRow : OpenClaim := { program := "ytoophkcicdbnfaa", sum := "8d0ed763411e2dfbe2263ba4b2f732f6d1ccb52e3ffaddbaefd015bb27e4d031", func := "punnet/punnetlaw15.LensApplies", spec := "lensApplies", inPlace := ["internal/bytealg.abigen_runtime_cmpstring"], unfollowed := true, recurses := true, apart := false, narrowed := true }
def LensAppliesUptoSaid : Prop := lensAppliesUptoRow.holds Try.pinned (OpenSpec.upto lensAppliesSpec)

/-- 'punnetlaw15.LensKeeps', WHERE WHAT IT READS IS OF BULK AT MOST 1048576: true; the input reads as it did. -/
def lensKeepsUptoRow : OpenClaim := { program := "ytoophkcicdbnfaa", sum := "8d0ed763411e2dfbe2263ba4b2f732f6d1ccb52e3ffaddbaefd015bb27e4d031", func := "punnet/punnetlaw15.LensKeeps", spec := "lensKeeps", inPlace := ["internal/bytealg.abigen_runtime_cmpstring"], unfollowed := true, recurses := true, apart := false, narrowed := true }
def LensKeepsUptoSaid : Prop := lensKeepsUptoRow.holds Try.pinned (OpenSpec.upto lensKeepsSpec)

/-- 'punnetlaw15.LensCases', WHERE WHAT IT READS IS OF BULK AT MOST 1048576: true; the input reads as it did. -/
def lensCasesUptoRow : OpenClaim := { program := "ytoophkcicdbnfaa", sum := "8d0ed763411e2dfbe2263ba4b2f732f6d1ccb52e3ffaddbaefd015bb27e4d031", func := "punnet/punnetlaw15.LensCases", spec := "lensCases", inPlace := ["internal/bytealg.abigen_runtime_cmpstring"], unfollowed := true, recurses := true, apart := false, narrowed := true }
def LensCasesUptoSaid : Prop := lensCasesUptoRow.holds Try.pinned (OpenSpec.upto lensCasesSpec)

/-- 'punnetlaw15.LensRight', WHERE WHAT IT READS IS OF BULK AT MOST 1048576: true; the input reads as it did. -/
def lensRightUptoRow : OpenClaim := { program := "ytoophkcicdbnfaa", sum := "8d0ed763411e2dfbe2263ba4b2f732f6d1ccb52e3ffaddbaefd015bb27e4d031", func := "punnet/punnetlaw15.LensRight", spec := "lensRight", inPlace := ["internal/bytealg.abigen_runtime_cmpstring"], unfollowed := true, recurses := true, apart := false, narrowed := true }
def LensRightUptoSaid : Prop := lensRightUptoRow.holds Try.pinned (OpenSpec.upto lensRightSpec)

/-- 'punnetlaw16.BackReturns', WHERE WHAT IT READS IS OF BULK AT MOST 1048576: true; the input reads as it did. -/
def backReturnsUptoRow : OpenClaim := { program := "ytoophkcicdbnfaa", sum := "8d0ed763411e2dfbe2263ba4b2f732f6d1ccb52e3ffaddbaefd015bb27e4d031", func := "punnet/punnetlaw16.BackReturns", spec := "backReturns", inPlace := ["internal/bytealg.abigen_runtime_cmpstring"], unfollowed := true, recurses := true, apart := false, narrowed := true }
def BackReturnsUptoSaid : Prop := backReturnsUptoRow.holds Try.pinned (OpenSpec.upto backReturnsSpec)

/-- 'punnetlaw16.BackParts', WHERE WHAT IT READS IS OF BULK AT MOST 1048576: true; the input reads as it did. -/
def backPartsUptoRow : OpenClaim := { program := "ytoophkcicdbnfaa", sum := "8d0ed763411e2dfbe2263ba4b2f732f6d1ccb52e3ffaddbaefd015bb27e4d031", func := "punnet/punnetlaw16.BackParts", spec := "backParts", inPlace := ["internal/bytealg.abigen_runtime_cmpstring"], unfollowed := true, recurses := true, apart := false, narrowed := true }
def BackPartsUptoSaid : Prop := backPartsUptoRow.holds Try.pinned (OpenSpec.upto backPartsSpec)

end Rows
end Go.Proofs.Ytoophkcicdbnfaa
