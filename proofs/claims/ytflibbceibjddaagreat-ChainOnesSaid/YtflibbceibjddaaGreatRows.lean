/-
  NARROWER THAN 'FOR EVERY INPUT', by the rows' own cells (each row's printed sentence says how): NodeRelates: loops · NodeShapes: loops · NodeAlts: loops · NodeCats: loops · NodeMany: loops · NodeRights: loops.
  DERIVED. THE GIVEN ROWS OF THIS SEAT. 12 by the template 'for every input the law returns true; each argument reads behind the call as it read before'; 0 by the template 'total and deterministic' (their statements: YtflibbceibjddaaGreatTotals.lean).
  GIVEN WITH THE SEED: the statements are not yours to turn. If you find one false, say at which input.
  Laid BY PROGRAM, IN A SANDBOX (cutbox-rows.mjs): the forced cells as the released guide's own fill.sh prints them over the translation 1a27be7ef20ad34e… (all of the seat's roots in one cut). By AI agents, Wed Nov 11 2026. No macro, syntax, notation, axiom, sorry.
-/
import Derived.Test.YtflibbceibjddaaGreatChecked
import GoSem.Claim
import GoSem.ClaimJoined
import GoSem.ClaimMapViews
import Derived.JoinedTies
import Derived.KernelRfl
namespace Go.Proofs.YtflibbceibjddaaGreat
/- THE CELL 'sum', in the pinned program and in every row, IS THE sha256 OF THE DUMP (.gsa) THAT YtflibbceibjddaaGreatProg.lean LOADS. Nothing in Lean hashes anything: it is a label: what it is worth is what the hold of that sum in a sandbox is worth. -/
noncomputable def Tryz.pinned : Pinned := { name := "ytflibbceibjddaagreat", sum := "1a27be7ef20ad34e4ccfc53b52f19a1a7788ccd717de28544d0b7d4dd0be2674", checked := Tryz.checked }
namespace Rows
def none {H : Type} : Left H := { results := [], args := [] }

/-- 'umlautlaw24.NodeRelates': WHATEVER THE INPUT: true; the input reads as it did. -/
def nodeRelatesSpec : ChangeSpec := { name := "nodeRelates", fn := fun _ => fun
  | [d1, d2] => { results := [.lit (.bool true)], args := [d1, d2] }
  | _ => none }
def nodeRelatesRow : OpenClaim := { program := "ytflibbceibjddaagreat", sum := "1a27be7ef20ad34e4ccfc53b52f19a1a7788ccd717de28544d0b7d4dd0be2674", func := "umlaut/umlautlaw24.NodeRelates", spec := "nodeRelates", unfollowed := true, recurses := true, loops := true, apart := false }
def NodeRelatesSaid : Prop := nodeRelatesRow.holds Tryz.pinned (OpenSpec.ofChange nodeRelatesSpec)

/-- ITS FALSE NEIGHBOUR: 'it returns false'. Refute it at one input. -/
def nodeRelatesWrong : ChangeSpec := { name := "nodeRelates", fn := fun _ => fun
  | [d1, d2] => { results := [.lit (.bool false)], args := [d1, d2] }
  | _ => none }
def NodeRelatesWrongFalsely : Prop := nodeRelatesRow.holds Tryz.pinned (OpenSpec.ofChange nodeRelatesWrong)

/-- 'umlautlaw24.NodeShapes': WHATEVER THE INPUT: true; the input reads as it did. -/
def nodeShapesSpec : ChangeSpec := { name := "nodeShapes", fn := fun _ => fun
  | [d] => { results := [.lit (.bool true)], args := [d] }
  | _ => none }
def nodeShapesRow : OpenClaim := { program := "ytflibbceibjddaagreat", sum := "1a27be7ef20ad34e4ccfc53b52f19a1a7788ccd717de28544d0b7d4dd0be2674", func := "umlaut/umlautlaw24.NodeShapes", spec := "nodeShapes", unfollowed := true, recurses := true, loops := true, apart := false }
def NodeShapesSaid : Prop := nodeShapesRow.holds Tryz.pinned (OpenSpec.ofChange nodeShapesSpec)

/-- ITS FALSE NEIGHBOUR: 'it returns false'. Refute it at one input. -/
def nodeShapesWrong : ChangeSpec := { name := "nodeShapes", fn := fun _ => fun
  | [d] => { results := [.lit (.bool false)], args := [d] }
  | _ => none }
def NodeShapesWrongFalsely : Prop := nodeShapesRow.holds Tryz.pinned (OpenSpec.ofChange nodeShapesWrong)

/-- 'umlautlaw24.NodeAlts': WHATEVER THE INPUT: true; the input reads as it did. -/
def nodeAltsSpec : ChangeSpec := { name := "nodeAlts", fn := fun _ => fun
  | [d1, d2, d3] => { results := [.lit (.bool true)], args := [d1, d2, d3] }
  | _ => none }
def nodeAltsRow : OpenClaim := { program := "ytflibbceibjddaagreat", sum := "1a27be7ef20ad34e4ccfc53b52f19a1a7788ccd717de28544d0b7d4dd0be2674", func := "umlaut/umlautlaw24.NodeAlts", spec := "nodeAlts", unfollowed := true, recurses := true, loops := true, apart := false }
def NodeAltsSaid : Prop := nodeAltsRow.holds Tryz.pinned (OpenSpec.ofChange nodeAltsSpec)

/-- ITS FALSE NEIGHBOUR: 'it returns false'. Refute it at one input. -/
def nodeAltsWrong : ChangeSpec := { name := "nodeAlts", fn := fun _ => fun
  | [d1, d2, d3] => { results := [.lit (.bool false)], args := [d1, d2, d3] }
  | _ => none }
def NodeAltsWrongFalsely : Prop := nodeAltsRow.holds Tryz.pinned (OpenSpec.ofChange nodeAltsWrong)

/-- 'umlautlaw24.NodeCats': WHATEVER THE INPUT: true; the input reads as it did. -/
def nodeCatsSpec : ChangeSpec := { name := "nodeCats", fn := fun _ => fun
  | [d1, d2, d3, d4] => { results := [.lit (.bool true)], args := [d1, d2, d3, d4] }
  | _ => none }
def nodeCatsRow : OpenClaim := { program := "ytflibbceibjddaagreat", sum := "1a27be7ef20ad34e4ccfc53b52f19a1a7788ccd717de28544d0b7d4dd0be2674", func := "umlaut/umlautlaw24.NodeCats", spec := "nodeCats", unfollowed := true, recurses := true, loops := true, apart := false }
def NodeCatsSaid : Prop := nodeCatsRow.holds Tryz.pinned (OpenSpec.ofChange nodeCatsSpec)

/-- ITS FALSE NEIGHBOUR: 'it returns false'. Refute it at one input. -/
def nodeCatsWrong : ChangeSpec := { name := "nodeCats", fn := fun _ => fun
  | [d1, d2, d3, d4] => { results := [.lit (.bool false)], args := [d1, d2, d3, d4] }
  | _ => none }
def NodeCatsWrongFalsely : Prop := nodeCatsRow.holds Tryz.pinned (OpenSpec.ofChange nodeCatsWrong)

/-- 'umlautlaw24.NodeMany': WHATEVER THE INPUT: true; the input reads as it did. -/
def nodeManySpec : ChangeSpec := { name := "nodeMany", fn := fun _ => fun
  | [d1, d2] => { results := [.lit (.bool true)], args := [d1, d2] }
  | _ => none }
def nodeManyRow : OpenClaim := { program := "ytflibbceibjddaagreat", sum := "1a27be7ef20ad34e4ccfc53b52f19a1a7788ccd717de28544d0b7d4dd0be2674", func := "umlaut/umlautlaw24.NodeMany", spec := "nodeMany", unfollowed := true, recurses := true, loops := true, apart := false }
def NodeManySaid : Prop := nodeManyRow.holds Tryz.pinned (OpenSpec.ofChange nodeManySpec)

/-- ITS FALSE NEIGHBOUR: 'it returns false'. Refute it at one input. -/
def nodeManyWrong : ChangeSpec := { name := "nodeMany", fn := fun _ => fun
  | [d1, d2] => { results := [.lit (.bool false)], args := [d1, d2] }
  | _ => none }
def NodeManyWrongFalsely : Prop := nodeManyRow.holds Tryz.pinned (OpenSpec.ofChange nodeManyWrong)

/-- 'umlautlaw24.NodeRights': WHATEVER THE INPUT: true; the input reads as it did. -/
def nodeRightsSpec : ChangeSpec := { name := "nodeRights", fn := fun _ => fun
  | [d] => { results := [.lit (.bool true)], args := [d] }
  | _ => none }
def nodeRightsRow : OpenClaim := { program := "ytflibbceibjddaagreat", sum := "1a27be7ef20ad34e4ccfc53b52f19a1a7788ccd717de28544d0b7d4dd0be2674", func := "umlaut/umlautlaw24.NodeRights", spec := "nodeRights", unfollowed := true, recurses := true, loops := true, apart := false }
def NodeRightsSaid : Prop := nodeRightsRow.holds Tryz.pinned (OpenSpec.ofChange nodeRightsSpec)

/-- ITS FALSE NEIGHBOUR: 'it returns false'. Refute it at one input. -/
def nodeRightsWrong : ChangeSpec := { name := "nodeRights", fn := fun _ => fun
  | [d] => { results := [.lit (.bool false)], args := [d] }
  | _ => none }
def NodeRightsWrongFalsely : Prop := nodeRightsRow.holds Tryz.pinned (OpenSpec.ofChange nodeRightsWrong)

/-- 'umlautlaw14.ChainOnes': WHATEVER THE INPUT: true; the input reads as it did. -/
def chainOnesSpec : ChangeSpec := { name := "chainOnes", fn := fun _ => fun
  | [d] => { results := [.lit (.bool true)], args := [d] }
  | _ => none }
def chainOnesRow : OpenClaim := { program := "ytflibbceibjddaagreat", sum := "1a27be7ef20ad34e4ccfc53b52f19a1a7788ccd717de28544d0b7d4dd0be2674", func := "umlaut/umlautlaw14.ChainOnes", spec := "chainOnes", unfollowed := true, recurses := true, apart := false }
def ChainOnesSaid : Prop := chainOnesRow.holds Tryz.pinned (OpenSpec.ofChange chainOnesSpec)

/-- ITS FALSE NEIGHBOUR: 'it returns false'. Refute it at one input. -/
def chainOnesWrong : ChangeSpec := { name := "chainOnes", fn := fun _ => fun
  | [d] => { results := [.lit (.bool false)], args := [d] }
  | _ => none }
def ChainOnesWrongFalsely : Prop := chainOnesRow.holds Tryz.pinned (OpenSpec.ofChange chainOnesWrong)

/-- 'umlautlaw14.ChainFaults': WHATEVER THE INPUT: true; the input reads as it did. -/
def chainFaultsSpec : ChangeSpec := { name := "chainFaults", fn := fun _ => fun
  | [d1, d2, d3] => { results := [.lit (.bool true)], args := [d1, d2, d3] }
  | _ => none }
def chainFaultsRow : OpenClaim := { program := "ytflibbceibjddaagreat", sum := "1a27be7ef20ad34e4ccfc53b52f19a1a7788ccd717de28544d0b7d4dd0be2674", func := "umlaut/umlautlaw14.ChainFaults", spec := "chainFaults", unfollowed := true, recurses := true, apart := false }
def ChainFaultsSaid : Prop := chainFaultsRow.holds Tryz.pinned (OpenSpec.ofChange chainFaultsSpec)

/-- ITS FALSE NEIGHBOUR: 'it returns false'. Refute it at one input. -/
def chainFaultsWrong : ChangeSpec := { name := "chainFaults", fn := fun _ => fun
  | [d1, d2, d3] => { results := [.lit (.bool false)], args := [d1, d2, d3] }
  | _ => none }
def ChainFaultsWrongFalsely : Prop := chainFaultsRow.holds Tryz.pinned (OpenSpec.ofChange chainFaultsWrong)

/-- 'umlautlaw14.ChainRelates': WHATEVER THE INPUT: true; the input reads as it did. -/
def chainRelatesSpec : ChangeSpec := { name := "chainRelates", fn := fun _ => fun
  | [d1, d2, d3] => { results := [.lit (.bool true)], args := [d1, d2, d3] }
  | _ => none }
def chainRelatesRow : OpenClaim := { program := "ytflibbceibjddaagreat", sum := "1a27be7ef20ad34e4ccfc53b52f19a1a7788ccd717de28544d0b7d4dd0be2674", func := "umlaut/umlautlaw14.ChainRelates", spec := "chainRelates", unfollowed := true, recurses := true, apart := false }
def ChainRelatesSaid : Prop := chainRelatesRow.holds Tryz.pinned (OpenSpec.ofChange chainRelatesSpec)

/-- ITS FALSE NEIGHBOUR: 'it returns false'. Refute it at one input. -/
def chainRelatesWrong : ChangeSpec := { name := "chainRelates", fn := fun _ => fun
  | [d1, d2, d3] => { results := [.lit (.bool false)], args := [d1, d2, d3] }
  | _ => none }
def ChainRelatesWrongFalsely : Prop := chainRelatesRow.holds Tryz.pinned (OpenSpec.ofChange chainRelatesWrong)

/-- 'umlautlaw14.ChainThree': WHATEVER THE INPUT: true; the input reads as it did. -/
def chainThreeSpec : ChangeSpec := { name := "chainThree", fn := fun _ => fun
  | [d1, d2, d3, d4] => { results := [.lit (.bool true)], args := [d1, d2, d3, d4] }
  | _ => none }
def chainThreeRow : OpenClaim := { program := "ytflibbceibjddaagreat", sum := "1a27be7ef20ad34e4ccfc53b52f19a1a7788ccd717de28544d0b7d4dd0be2674", func := "umlaut/umlautlaw14.ChainThree", spec := "chainThree", unfollowed := true, recurses := true, apart := false }
def ChainThreeSaid : Prop := chainThreeRow.holds Tryz.pinned (OpenSpec.ofChange chainThreeSpec)

/-- ITS FALSE NEIGHBOUR: 'it returns false'. Refute it at one input. -/
def chainThreeWrong : ChangeSpec := { name := "chainThree", fn := fun _ => fun
  | [d1, d2, d3, d4] => { results := [.lit (.bool false)], args := [d1, d2, d3, d4] }
  | _ => none }
def ChainThreeWrongFalsely : Prop := chainThreeRow.holds Tryz.pinned (OpenSpec.ofChange chainThreeWrong)

/-- 'umlautlaw14.ChainSame': WHATEVER THE INPUT: true; the input reads as it did. -/
def chainSameSpec : ChangeSpec := { name := "chainSame", fn := fun _ => fun
  | [d1, d2, d3] => { results := [.lit (.bool true)], args := [d1, d2, d3] }
  | _ => none }
def chainSameRow : OpenClaim := { program := "ytflibbceibjddaagreat", sum := "1a27be7ef20ad34e4ccfc53b52f19a1a7788ccd717de28544d0b7d4dd0be2674", func := "umlaut/umlautlaw14.ChainSame", spec := "chainSame", unfollowed := true, recurses := true, apart := false }
def ChainSameSaid : Prop := chainSameRow.holds Tryz.pinned (OpenSpec.ofChange chainSameSpec)

/-- ITS FALSE NEIGHBOUR: 'it returns false'. Refute it at one input. -/
def chainSameWrong : ChangeSpec := { name := "chainSame", fn := fun _ => fun
  | [d1, d2, d3] => { results := [.lit (.bool false)], args := [d1, d2, d3] }
  | _ => none }
def ChainSameWrongFalsely : Prop := chainSameRow.holds Tryz.pinned (OpenSpec.ofChange chainSameWrong)

/-- 'umlautlaw14.ChainShape': WHATEVER THE INPUT: true; the input reads as it did. -/
def chainShapeSpec : ChangeSpec := { name := "chainShape", fn := fun _ => fun
  | [d1, d2] => { results := [.lit (.bool true)], args := [d1, d2] }
  | _ => none }
def chainShapeRow : OpenClaim := { program := "ytflibbceibjddaagreat", sum := "1a27be7ef20ad34e4ccfc53b52f19a1a7788ccd717de28544d0b7d4dd0be2674", func := "umlaut/umlautlaw14.ChainShape", spec := "chainShape", unfollowed := true, recurses := true, apart := false }
def ChainShapeSaid : Prop := chainShapeRow.holds Tryz.pinned (OpenSpec.ofChange chainShapeSpec)

/-- ITS FALSE NEIGHBOUR: 'it returns false'. Refute it at one input. -/
def chainShapeWrong : ChangeSpec := { name := "chainShape", fn := fun _ => fun
  | [d1, d2] => { results := [.lit (.bool false)], args := [d1, d2] }
  | _ => none }
def ChainShapeWrongFalsely : Prop := chainShapeRow.holds Tryz.pinned (OpenSpec.ofChange chainShapeWrong)

/- THE SECOND FORM. 'bulk': how many values and letters a reading holds, each counted each time it is reached (what is shared counts as often as it is met; a slice's spare places count too). A statement '..UptoSaid' is the law's where the arguments, and the package variables that the reading takes, are together of bulk at most 1048576: NARROWER than '..Said'. Prove '..Said' where nothing that the law and all that it calls make is longer than what came in: it says more and counts as full. Else prove '..UptoSaid'. A law counts once. -/
mutual
def uptoBulk {H : Type} : DataW H → Nat
  | .lit (.string bytes) => bytes.length + 1
  | .lit _ => 1
  | .nil => 1
  | .ptr d => uptoBulk d + 1
  | .slice elems spare => uptoBulkAll elems + uptoBulkAll spare + 1
  | .agg parts => uptoBulkAll parts + 1
  | .iface _ d => uptoBulk d + 1
  | .map entries => uptoBulkEntries entries + 1
  | .held _ => 1
def uptoBulkAll {H : Type} : List (DataW H) → Nat
  | [] => 0
  | d :: r => uptoBulk d + uptoBulkAll r
def uptoBulkEntries {H : Type} : List (Lit × DataW H) → Nat
  | [] => 0
  | x :: r => uptoBulkEntry x + uptoBulkEntries r
def uptoBulkEntry {H : Type} : Lit × DataW H → Nat
  | (.string bytes, d) => bytes.length + uptoBulk d + 1
  | (_, d) => uptoBulk d + 1
 end
def uptoSmall : (H : Type) → List (DataW H) → Bool := fun _ ds => decide (uptoBulkAll ds ≤ 1048576)
def OpenSpec.upto (s : _root_.Go.ChangeSpec) : _root_.Go.OpenSpec := { _root_.Go.OpenSpec.ofChange s with cond := some uptoSmall }

/-- 'umlautlaw24.NodeRelates', WHERE WHAT IT READS IS OF BULK AT MOST 1048576: true; the input reads as it did. -/
def nodeRelatesUptoRow : OpenClaim := { program := "ytflibbceibjddaagreat", sum := "1a27be7ef20ad34e4ccfc53b52f19a1a7788ccd717de28544d0b7d4dd0be2674", func := "umlaut/umlautlaw24.NodeRelates", spec := "nodeRelates", unfollowed := true, recurses := true, loops := true, apart := false, narrowed := true }
def NodeRelatesUptoSaid : Prop := nodeRelatesUptoRow.holds Tryz.pinned (OpenSpec.upto nodeRelatesSpec)

/-- 'umlautlaw24.NodeShapes', WHERE WHAT IT READS IS OF BULK AT MOST 1048576: true; the input reads as it did. -/
def nodeShapesUptoRow : OpenClaim := { program := "ytflibbceibjddaagreat", sum := "1a27be7ef20ad34e4ccfc53b52f19a1a7788ccd717de28544d0b7d4dd0be2674", func := "umlaut/umlautlaw24.NodeShapes", spec := "nodeShapes", unfollowed := true, recurses := true, loops := true, apart := false, narrowed := true }
def NodeShapesUptoSaid : Prop := nodeShapesUptoRow.holds Tryz.pinned (OpenSpec.upto nodeShapesSpec)

/-- 'umlautlaw24.NodeAlts', WHERE WHAT IT READS IS OF BULK AT MOST 1048576: true; the input reads as it did. -/
def nodeAltsUptoRow : OpenClaim := { program := "ytflibbceibjddaagreat", sum := "1a27be7ef20ad34e4ccfc53b52f19a1a7788ccd717de28544d0b7d4dd0be2674", func := "umlaut/umlautlaw24.NodeAlts", spec := "nodeAlts", unfollowed := true, recurses := true, loops := true, apart := false, narrowed := true }
def NodeAltsUptoSaid : Prop := nodeAltsUptoRow.holds Tryz.pinned (OpenSpec.upto nodeAltsSpec)

/-- 'umlautlaw24.NodeCats', WHERE WHAT IT READS IS OF BULK AT MOST 1048576: true; the input reads as it did. -/
def nodeCatsUptoRow : OpenClaim := { program := "ytflibbceibjddaagreat", sum := "1a27be7ef20ad34e4ccfc53b52f19a1a7788ccd717de28544d0b7d4dd0be2674", func := "umlaut/umlautlaw24.NodeCats", spec := "nodeCats", unfollowed := true, recurses := true, loops := true, apart := false, narrowed := true }
def NodeCatsUptoSaid : Prop := nodeCatsUptoRow.holds Tryz.pinned (OpenSpec.upto nodeCatsSpec)

/-- 'umlautlaw24.NodeMany', WHERE WHAT IT READS IS OF BULK AT MOST 1048576: true; the input reads as it did. -/
def nodeManyUptoRow : OpenClaim := { program := "ytflibbceibjddaagreat", sum := "1a27be7ef20ad34e4ccfc53b52f19a1a7788ccd717de28544d0b7d4dd0be2674", func := "umlaut/umlautlaw24.NodeMany", spec := "nodeMany", unfollowed := true, recurses := true, loops := true, apart := false, narrowed := true }
def NodeManyUptoSaid : Prop := nodeManyUptoRow.holds Tryz.pinned (OpenSpec.upto nodeManySpec)

/-- 'umlautlaw24.NodeRights', WHERE WHAT IT READS IS OF BULK AT MOST 1048576: true; the input reads as it did. -/
def nodeRightsUptoRow : OpenClaim := { program := "ytflibbceibjddaagreat", sum := "1a27be7ef20ad34e4ccfc53b52f19a1a7788ccd717de28544d0b7d4dd0be2674", func := "umlaut/umlautlaw24.NodeRights", spec := "nodeRights", unfollowed := true, recurses := true, loops := true, apart := false, narrowed := true }
def NodeRightsUptoSaid : Prop := nodeRightsUptoRow.holds Tryz.pinned (OpenSpec.upto nodeRightsSpec)

/-- 'umlautlaw14.ChainOnes', WHERE WHAT IT READS IS OF BULK AT MOST 1048576: true; the input reads as it did. -/
def chainOnesUptoRow : OpenClaim := { program := "ytflibbceibjddaagreat", sum := "1a27be7ef20ad34e4ccfc53b52f19a1a7788ccd717de28544d0b7d4dd0be2674", func := "umlaut/umlautlaw14.ChainOnes", spec := "chainOnes", unfollowed := true, recurses := true, apart := false, narrowed := true }
def ChainOnesUptoSaid : Prop := chainOnesUptoRow.holds Tryz.pinned (OpenSpec.upto chainOnesSpec)

/-- 'umlautlaw14.ChainFaults', WHERE WHAT IT READS IS OF BULK AT MOST 1048576: true; the input reads as it did. -/
def chainFaultsUptoRow : OpenClaim := { program := "ytflibbceibjddaagreat", sum := "1a27be7ef20ad34e4ccfc53b52f19a1a7788ccd717de28544d0b7d4dd0be2674", func := "umlaut/umlautlaw14.ChainFaults", spec := "chainFaults", unfollowed := true, recurses := true, apart := false, narrowed := true }
def ChainFaultsUptoSaid : Prop := chainFaultsUptoRow.holds Tryz.pinned (OpenSpec.upto chainFaultsSpec)

/-- 'umlautlaw14.ChainRelates', WHERE WHAT IT READS IS OF BULK AT MOST 1048576: true; the input reads as it did. -/
def chainRelatesUptoRow : OpenClaim := { program := "ytflibbceibjddaagreat", sum := "1a27be7ef20ad34e4ccfc53b52f19a1a7788ccd717de28544d0b7d4dd0be2674", func := "umlaut/umlautlaw14.ChainRelates", spec := "chainRelates", unfollowed := true, recurses := true, apart := false, narrowed := true }
def ChainRelatesUptoSaid : Prop := chainRelatesUptoRow.holds Tryz.pinned (OpenSpec.upto chainRelatesSpec)

/-- 'umlautlaw14.ChainThree', WHERE WHAT IT READS IS OF BULK AT MOST 1048576: true; the input reads as it did. -/
def chainThreeUptoRow : OpenClaim := { program := "ytflibbceibjddaagreat", sum := "1a27be7ef20ad34e4ccfc53b52f19a1a7788ccd717de28544d0b7d4dd0be2674", func := "umlaut/umlautlaw14.ChainThree", spec := "chainThree", unfollowed := true, recurses := true, apart := false, narrowed := true }
def ChainThreeUptoSaid : Prop := chainThreeUptoRow.holds Tryz.pinned (OpenSpec.upto chainThreeSpec)

/-- 'umlautlaw14.ChainSame', WHERE WHAT IT READS IS OF BULK AT MOST 1048576: true; the input reads as it did. -/
def chainSameUptoRow : OpenClaim := { program := "ytflibbceibjddaagreat", sum := "1a27be7ef20ad34e4ccfc53b52f19a1a7788ccd717de28544d0b7d4dd0be2674", func := "umlaut/umlautlaw14.ChainSame", spec := "chainSame", unfollowed := true, recurses := true, apart := false, narrowed := true }
def ChainSameUptoSaid : Prop := chainSameUptoRow.holds Tryz.pinned (OpenSpec.upto chainSameSpec)

/-- 'umlautlaw14.ChainShape', WHERE WHAT IT READS IS OF BULK AT MOST 1048576: true; the input reads as it did. -/
def chainShapeUptoRow : OpenClaim := { program := "ytflibbceibjddaagreat", sum := "1a27be7ef20ad34e4ccfc53b52f19a1a7788ccd717de28544d0b7d4dd0be2674", func := "umlaut/umlautlaw14.ChainShape", spec := "chainShape", unfollowed := true, recurses := true, apart := false, narrowed := true }
def ChainShapeUptoSaid : Prop := chainShapeUptoRow.holds Tryz.pinned (OpenSpec.upto chainShapeSpec)

end Rows
end Go.Proofs.YtflibbceibjddaaGreat
