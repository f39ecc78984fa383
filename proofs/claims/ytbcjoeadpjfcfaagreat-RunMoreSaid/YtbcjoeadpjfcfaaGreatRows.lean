/-
  No cell of these rows narrows 'for every input' (looked for: loops, veiled, ifaces, maps, wideKeys, modest, calm, conditions, laid).
  DERIVED. THE GIVEN ROWS OF THIS SEAT. 12 by the template 'for every input the law returns true; each argument reads behind the call as it read before'; 0 by the template 'total and deterministic' (their statements: YtbcjoeadpjfcfaaGreatTotals.lean).
  GIVEN WITH THE SEED: the statements are not yours to turn. If you find one false, say at which input.
  Laid BY PROGRAM, IN A SANDBOX (cutbox-rows.mjs): the forced cells as the released guide's own fill.sh prints them over the translation 2f94770954f264d0… (all of the seat's roots in one cut). By AI agents, Wed Nov 11 2026. No macro, syntax, notation, axiom, sorry.
-/
import Derived.Test.YtbcjoeadpjfcfaaGreatChecked
import GoSem.Claim
import GoSem.ClaimJoined
import GoSem.ClaimMapViews
import Derived.JoinedTies
import Derived.KernelRfl
namespace Go.Proofs.YtbcjoeadpjfcfaaGreat
/- THE CELL 'sum', in the pinned program and in every row, IS THE sha256 OF THE DUMP (.gsa) THAT YtbcjoeadpjfcfaaGreatProg.lean LOADS. Nothing in Lean hashes anything: it is a label: what it is worth is what the hold of that sum in a sandbox is worth. -/
noncomputable def Tryz.pinned : Pinned := { name := "ytbcjoeadpjfcfaagreat", sum := "2f94770954f264d0f24e66efe2042ce7f4b404c2142c8a08c2a0bc2ca232e56f", checked := Tryz.checked }
namespace Rows
def none {H : Type} : Left H := { results := [], args := [] }

/-- 'umlautlaw08.EpsilonWays': WHATEVER THE INPUT: true; the input reads as it did. -/
def epsilonWaysSpec : ChangeSpec := { name := "epsilonWays", fn := fun _ => fun
  | [d] => { results := [.lit (.bool true)], args := [d] }
  | _ => none }
def epsilonWaysRow : OpenClaim := { program := "ytbcjoeadpjfcfaagreat", sum := "2f94770954f264d0f24e66efe2042ce7f4b404c2142c8a08c2a0bc2ca232e56f", func := "umlaut/umlautlaw08.EpsilonWays", spec := "epsilonWays", unfollowed := true, recurses := true, apart := false }
def EpsilonWaysSaid : Prop := epsilonWaysRow.holds Tryz.pinned (OpenSpec.ofChange epsilonWaysSpec)

/-- ITS FALSE NEIGHBOUR: 'it returns false'. Refute it at one input. -/
def epsilonWaysWrong : ChangeSpec := { name := "epsilonWays", fn := fun _ => fun
  | [d] => { results := [.lit (.bool false)], args := [d] }
  | _ => none }
def EpsilonWaysWrongFalsely : Prop := epsilonWaysRow.holds Tryz.pinned (OpenSpec.ofChange epsilonWaysWrong)

/-- 'umlautlaw08.EpsilonFrees': WHATEVER THE INPUT: true; the input reads as it did. -/
def epsilonFreesSpec : ChangeSpec := { name := "epsilonFrees", fn := fun _ => fun
  | [d] => { results := [.lit (.bool true)], args := [d] }
  | _ => none }
def epsilonFreesRow : OpenClaim := { program := "ytbcjoeadpjfcfaagreat", sum := "2f94770954f264d0f24e66efe2042ce7f4b404c2142c8a08c2a0bc2ca232e56f", func := "umlaut/umlautlaw08.EpsilonFrees", spec := "epsilonFrees", unfollowed := true, recurses := true, apart := false }
def EpsilonFreesSaid : Prop := epsilonFreesRow.holds Tryz.pinned (OpenSpec.ofChange epsilonFreesSpec)

/-- ITS FALSE NEIGHBOUR: 'it returns false'. Refute it at one input. -/
def epsilonFreesWrong : ChangeSpec := { name := "epsilonFrees", fn := fun _ => fun
  | [d] => { results := [.lit (.bool false)], args := [d] }
  | _ => none }
def EpsilonFreesWrongFalsely : Prop := epsilonFreesRow.holds Tryz.pinned (OpenSpec.ofChange epsilonFreesWrong)

/-- 'umlautlaw07.RunOutputs': WHATEVER THE INPUT: true; the input reads as it did. -/
def runOutputsSpec : ChangeSpec := { name := "runOutputs", fn := fun _ => fun
  | [d1, d2, d3] => { results := [.lit (.bool true)], args := [d1, d2, d3] }
  | _ => none }
def runOutputsRow : OpenClaim := { program := "ytbcjoeadpjfcfaagreat", sum := "2f94770954f264d0f24e66efe2042ce7f4b404c2142c8a08c2a0bc2ca232e56f", func := "umlaut/umlautlaw07.RunOutputs", spec := "runOutputs", unfollowed := true, recurses := true, apart := false }
def RunOutputsSaid : Prop := runOutputsRow.holds Tryz.pinned (OpenSpec.ofChange runOutputsSpec)

/-- ITS FALSE NEIGHBOUR: 'it returns false'. Refute it at one input. -/
def runOutputsWrong : ChangeSpec := { name := "runOutputs", fn := fun _ => fun
  | [d1, d2, d3] => { results := [.lit (.bool false)], args := [d1, d2, d3] }
  | _ => none }
def RunOutputsWrongFalsely : Prop := runOutputsRow.holds Tryz.pinned (OpenSpec.ofChange runOutputsWrong)

/-- 'umlautlaw07.RunBounds': WHATEVER THE INPUT: true; the input reads as it did. -/
def runBoundsSpec : ChangeSpec := { name := "runBounds", fn := fun _ => fun
  | [d1, d2] => { results := [.lit (.bool true)], args := [d1, d2] }
  | _ => none }
def runBoundsRow : OpenClaim := { program := "ytbcjoeadpjfcfaagreat", sum := "2f94770954f264d0f24e66efe2042ce7f4b404c2142c8a08c2a0bc2ca232e56f", func := "umlaut/umlautlaw07.RunBounds", spec := "runBounds", unfollowed := true, recurses := true, apart := false }
def RunBoundsSaid : Prop := runBoundsRow.holds Tryz.pinned (OpenSpec.ofChange runBoundsSpec)

/-- ITS FALSE NEIGHBOUR: 'it returns false'. Refute it at one input. -/
def runBoundsWrong : ChangeSpec := { name := "runBounds", fn := fun _ => fun
  | [d1, d2] => { results := [.lit (.bool false)], args := [d1, d2] }
  | _ => none }
def RunBoundsWrongFalsely : Prop := runBoundsRow.holds Tryz.pinned (OpenSpec.ofChange runBoundsWrong)

/-- 'umlautlaw07.RunSame': WHATEVER THE INPUT: true; the input reads as it did. -/
def runSameSpec : ChangeSpec := { name := "runSame", fn := fun _ => fun
  | [d1, d2] => { results := [.lit (.bool true)], args := [d1, d2] }
  | _ => none }
def runSameRow : OpenClaim := { program := "ytbcjoeadpjfcfaagreat", sum := "2f94770954f264d0f24e66efe2042ce7f4b404c2142c8a08c2a0bc2ca232e56f", func := "umlaut/umlautlaw07.RunSame", spec := "runSame", unfollowed := true, recurses := true, apart := false }
def RunSameSaid : Prop := runSameRow.holds Tryz.pinned (OpenSpec.ofChange runSameSpec)

/-- ITS FALSE NEIGHBOUR: 'it returns false'. Refute it at one input. -/
def runSameWrong : ChangeSpec := { name := "runSame", fn := fun _ => fun
  | [d1, d2] => { results := [.lit (.bool false)], args := [d1, d2] }
  | _ => none }
def RunSameWrongFalsely : Prop := runSameRow.holds Tryz.pinned (OpenSpec.ofChange runSameWrong)

/-- 'umlautlaw07.RunAccepts': WHATEVER THE INPUT: true; the input reads as it did. -/
def runAcceptsSpec : ChangeSpec := { name := "runAccepts", fn := fun _ => fun
  | [d1, d2] => { results := [.lit (.bool true)], args := [d1, d2] }
  | _ => none }
def runAcceptsRow : OpenClaim := { program := "ytbcjoeadpjfcfaagreat", sum := "2f94770954f264d0f24e66efe2042ce7f4b404c2142c8a08c2a0bc2ca232e56f", func := "umlaut/umlautlaw07.RunAccepts", spec := "runAccepts", unfollowed := true, recurses := true, apart := false }
def RunAcceptsSaid : Prop := runAcceptsRow.holds Tryz.pinned (OpenSpec.ofChange runAcceptsSpec)

/-- ITS FALSE NEIGHBOUR: 'it returns false'. Refute it at one input. -/
def runAcceptsWrong : ChangeSpec := { name := "runAccepts", fn := fun _ => fun
  | [d1, d2] => { results := [.lit (.bool false)], args := [d1, d2] }
  | _ => none }
def RunAcceptsWrongFalsely : Prop := runAcceptsRow.holds Tryz.pinned (OpenSpec.ofChange runAcceptsWrong)

/-- 'umlautlaw07.RunJoins': WHATEVER THE INPUT: true; the input reads as it did. -/
def runJoinsSpec : ChangeSpec := { name := "runJoins", fn := fun _ => fun
  | [d1, d2, d3] => { results := [.lit (.bool true)], args := [d1, d2, d3] }
  | _ => none }
def runJoinsRow : OpenClaim := { program := "ytbcjoeadpjfcfaagreat", sum := "2f94770954f264d0f24e66efe2042ce7f4b404c2142c8a08c2a0bc2ca232e56f", func := "umlaut/umlautlaw07.RunJoins", spec := "runJoins", unfollowed := true, recurses := true, apart := false }
def RunJoinsSaid : Prop := runJoinsRow.holds Tryz.pinned (OpenSpec.ofChange runJoinsSpec)

/-- ITS FALSE NEIGHBOUR: 'it returns false'. Refute it at one input. -/
def runJoinsWrong : ChangeSpec := { name := "runJoins", fn := fun _ => fun
  | [d1, d2, d3] => { results := [.lit (.bool false)], args := [d1, d2, d3] }
  | _ => none }
def RunJoinsWrongFalsely : Prop := runJoinsRow.holds Tryz.pinned (OpenSpec.ofChange runJoinsWrong)

/-- 'umlautlaw07.RunRelates': WHATEVER THE INPUT: true; the input reads as it did. -/
def runRelatesSpec : ChangeSpec := { name := "runRelates", fn := fun _ => fun
  | [d1, d2, d3] => { results := [.lit (.bool true)], args := [d1, d2, d3] }
  | _ => none }
def runRelatesRow : OpenClaim := { program := "ytbcjoeadpjfcfaagreat", sum := "2f94770954f264d0f24e66efe2042ce7f4b404c2142c8a08c2a0bc2ca232e56f", func := "umlaut/umlautlaw07.RunRelates", spec := "runRelates", unfollowed := true, recurses := true, apart := false }
def RunRelatesSaid : Prop := runRelatesRow.holds Tryz.pinned (OpenSpec.ofChange runRelatesSpec)

/-- ITS FALSE NEIGHBOUR: 'it returns false'. Refute it at one input. -/
def runRelatesWrong : ChangeSpec := { name := "runRelates", fn := fun _ => fun
  | [d1, d2, d3] => { results := [.lit (.bool false)], args := [d1, d2, d3] }
  | _ => none }
def RunRelatesWrongFalsely : Prop := runRelatesRow.holds Tryz.pinned (OpenSpec.ofChange runRelatesWrong)

/-- 'umlautlaw07.RunMore': WHATEVER THE INPUT: true; the input reads as it did. -/
def runMoreSpec : ChangeSpec := { name := "runMore", fn := fun _ => fun
  | [d1, d2, d3, d4] => { results := [.lit (.bool true)], args := [d1, d2, d3, d4] }
  | _ => none }
def runMoreRow : OpenClaim := { program := "ytbcjoeadpjfcfaagreat", sum := "2f94770954f264d0f24e66efe2042ce7f4b404c2142c8a08c2a0bc2ca232e56f", func := "umlaut/umlautlaw07.RunMore", spec := "runMore", unfollowed := true, recurses := true, apart := false }
def RunMoreSaid : Prop := runMoreRow.holds Tryz.pinned (OpenSpec.ofChange runMoreSpec)

/-- ITS FALSE NEIGHBOUR: 'it returns false'. Refute it at one input. -/
def runMoreWrong : ChangeSpec := { name := "runMore", fn := fun _ => fun
  | [d1, d2, d3, d4] => { results := [.lit (.bool false)], args := [d1, d2, d3, d4] }
  | _ => none }
def RunMoreWrongFalsely : Prop := runMoreRow.holds Tryz.pinned (OpenSpec.ofChange runMoreWrong)

/-- 'umlautlaw08.EpsilonLadder': WHATEVER THE INPUT: true; the input reads as it did. -/
def epsilonLadderSpec : ChangeSpec := { name := "epsilonLadder", fn := fun _ => fun
  | [d] => { results := [.lit (.bool true)], args := [d] }
  | _ => none }
def epsilonLadderRow : OpenClaim := { program := "ytbcjoeadpjfcfaagreat", sum := "2f94770954f264d0f24e66efe2042ce7f4b404c2142c8a08c2a0bc2ca232e56f", func := "umlaut/umlautlaw08.EpsilonLadder", spec := "epsilonLadder", unfollowed := true, recurses := true, apart := false }
def EpsilonLadderSaid : Prop := epsilonLadderRow.holds Tryz.pinned (OpenSpec.ofChange epsilonLadderSpec)

/-- ITS FALSE NEIGHBOUR: 'it returns false'. Refute it at one input. -/
def epsilonLadderWrong : ChangeSpec := { name := "epsilonLadder", fn := fun _ => fun
  | [d] => { results := [.lit (.bool false)], args := [d] }
  | _ => none }
def EpsilonLadderWrongFalsely : Prop := epsilonLadderRow.holds Tryz.pinned (OpenSpec.ofChange epsilonLadderWrong)

/-- 'umlautlaw09.TrimKeeps': WHATEVER THE INPUT: true; the input reads as it did. -/
def trimKeepsSpec : ChangeSpec := { name := "trimKeeps", fn := fun _ => fun
  | [d1, d2] => { results := [.lit (.bool true)], args := [d1, d2] }
  | _ => none }
def trimKeepsRow : OpenClaim := { program := "ytbcjoeadpjfcfaagreat", sum := "2f94770954f264d0f24e66efe2042ce7f4b404c2142c8a08c2a0bc2ca232e56f", func := "umlaut/umlautlaw09.TrimKeeps", spec := "trimKeeps", unfollowed := true, recurses := true, apart := false }
def TrimKeepsSaid : Prop := trimKeepsRow.holds Tryz.pinned (OpenSpec.ofChange trimKeepsSpec)

/-- ITS FALSE NEIGHBOUR: 'it returns false'. Refute it at one input. -/
def trimKeepsWrong : ChangeSpec := { name := "trimKeeps", fn := fun _ => fun
  | [d1, d2] => { results := [.lit (.bool false)], args := [d1, d2] }
  | _ => none }
def TrimKeepsWrongFalsely : Prop := trimKeepsRow.holds Tryz.pinned (OpenSpec.ofChange trimKeepsWrong)

/-- 'umlautlaw08.EpsilonKeeps': WHATEVER THE INPUT: true; the input reads as it did. -/
def epsilonKeepsSpec : ChangeSpec := { name := "epsilonKeeps", fn := fun _ => fun
  | [d1, d2] => { results := [.lit (.bool true)], args := [d1, d2] }
  | _ => none }
def epsilonKeepsRow : OpenClaim := { program := "ytbcjoeadpjfcfaagreat", sum := "2f94770954f264d0f24e66efe2042ce7f4b404c2142c8a08c2a0bc2ca232e56f", func := "umlaut/umlautlaw08.EpsilonKeeps", spec := "epsilonKeeps", unfollowed := true, recurses := true, apart := false }
def EpsilonKeepsSaid : Prop := epsilonKeepsRow.holds Tryz.pinned (OpenSpec.ofChange epsilonKeepsSpec)

/-- ITS FALSE NEIGHBOUR: 'it returns false'. Refute it at one input. -/
def epsilonKeepsWrong : ChangeSpec := { name := "epsilonKeeps", fn := fun _ => fun
  | [d1, d2] => { results := [.lit (.bool false)], args := [d1, d2] }
  | _ => none }
def EpsilonKeepsWrongFalsely : Prop := epsilonKeepsRow.holds Tryz.pinned (OpenSpec.ofChange epsilonKeepsWrong)

/- THE SECOND FORM. 'bulk': how many values and letters a reading holds, each counted each time it is reached (what is shared counts as often as it is met; a slice's spare places count too). A statement '..UptoSaid' is the law's where the arguments, and the package variables that the reading takes, are together of bulk at most 1048576: NARROWER than '..Said'. Prove '..Said' where nothing that the law and all that it calls make is longer than what came in: it says more and counts as full. Else prove '..UptoSaid'. A law counts once. -/
mutual
def uptoBulk {H : Type} : DataW H → Nat
  | .lit (.string bytes) => bytes.length + 1
  | .lit _ => 1
  | .nil => 1
  | .ptr d => uptoBulk d + 1
  | .slice elems spare => uptoBulkAll elems + uptoBulkAll spare + 1
  | .agg parts => uptoBulkAll parts + 1
  | .iface _ d => uptoBulk d + 1
  | .map entries => uptoBulkEntries entries + 1
  | .held _ => 1
def uptoBulkAll {H : Type} : List (DataW H) → Nat
  | [] => 0
  | d :: r => uptoBulk d + uptoBulkAll r
def uptoBulkEntries {H : Type} : List (Lit × DataW H) → Nat
  | [] => 0
  | x :: r => uptoBulkEntry x + uptoBulkEntries r
def uptoBulkEntry {H : Type} : Lit × DataW H → Nat
  | (.string bytes, d) => bytes.length + uptoBulk d + 1
  | (_, d) => uptoBulk d + 1
 end
def uptoSmall : (H : Type) → List (DataW H) → Bool := fun _ ds => decide (uptoBulkAll ds ≤ 1048576)
def OpenSpec.upto (s : _root_.Go.ChangeSpec) : _root_.Go.OpenSpec := { _root_.Go.OpenSpec.ofChange s with cond := some uptoSmall }

/-- 'umlautlaw08.EpsilonWays', WHERE WHAT IT READS IS OF BULK AT MOST 1048576: true; the input reads as it did. -/
def epsilonWaysUptoRow : OpenClaim := { program := "ytbcjoeadpjfcfaagreat", sum := "2f94770954f264d0f24e66efe2042ce7f4b404c2142c8a08c2a0bc2ca232e56f", func := "umlaut/umlautlaw08.EpsilonWays", spec := "epsilonWays", unfollowed := true, recurses := true, apart := false, narrowed := true }
def EpsilonWaysUptoSaid : Prop := epsilonWaysUptoRow.holds Tryz.pinned (OpenSpec.upto epsilonWaysSpec)

/-- 'umlautlaw08.EpsilonFrees', WHERE WHAT IT READS IS OF BULK AT MOST 1048576: true; the input reads as it did. -/
def epsilonFreesUptoRow : OpenClaim := { program := "ytbcjoeadpjfcfaagreat", sum := "2f94770954f264d0f24e66efe2042ce7f4b404c2142c8a08c2a0bc2ca232e56f", func := "umlaut/umlautlaw08.EpsilonFrees", spec := "epsilonFrees", unfollowed := true, recurses := true, apart := false, narrowed := true }
def EpsilonFreesUptoSaid : Prop := epsilonFreesUptoRow.holds Tryz.pinned (OpenSpec.upto epsilonFreesSpec)

/-- 'umlautlaw07.RunOutputs', WHERE WHAT IT READS IS OF BULK AT MOST 1048576: true; the input reads as it did. -/
def runOutputsUptoRow : OpenClaim := { program := "ytbcjoeadpjfcfaagreat", sum := "2f94770954f264d0f24e66efe2042ce7f4b404c2142c8a08c2a0bc2ca232e56f", func := "umlaut/umlautlaw07.RunOutputs", spec := "runOutputs", unfollowed := true, recurses := true, apart := false, narrowed := true }
def RunOutputsUptoSaid : Prop := runOutputsUptoRow.holds Tryz.pinned (OpenSpec.upto runOutputsSpec)

/-- 'umlautlaw07.RunBounds', WHERE WHAT IT READS IS OF BULK AT MOST 1048576: true; the input reads as it did. -/
def runBoundsUptoRow : OpenClaim := { program := "ytbcjoeadpjfcfaagreat", sum := "2f94770954f264d0f24e66efe2042ce7f4b404c2142c8a08c2a0bc2ca232e56f", func := "umlaut/umlautlaw07.RunBounds", spec := "runBounds", unfollowed := true, recurses := true, apart := false, narrowed := true }
def RunBoundsUptoSaid : Prop := runBoundsUptoRow.holds Tryz.pinned (OpenSpec.upto runBoundsSpec)

/-- 'umlautlaw07.RunSame', WHERE WHAT IT READS IS OF BULK AT MOST 1048576: true; the input reads as it did. -/
def runSameUptoRow : OpenClaim := { program := "ytbcjoeadpjfcfaagreat", sum := "2f94770954f264d0f24e66efe2042ce7f4b404c2142c8a08c2a0bc2ca232e56f", func := "umlaut/umlautlaw07.RunSame", spec := "runSame", unfollowed := true, recurses := true, apart := false, narrowed := true }
def RunSameUptoSaid : Prop := runSameUptoRow.holds Tryz.pinned (OpenSpec.upto runSameSpec)

/-- 'umlautlaw07.RunAccepts', WHERE WHAT IT READS IS OF BULK AT MOST 1048576: true; the input reads as it did. -/
def runAcceptsUptoRow : OpenClaim := { program := "ytbcjoeadpjfcfaagreat", sum := "2f94770954f264d0f24e66efe2042ce7f4b404c2142c8a08c2a0bc2ca232e56f", func := "umlaut/umlautlaw07.RunAccepts", spec := "runAccepts", unfollowed := true, recurses := true, apart := false, narrowed := true }
def RunAcceptsUptoSaid : Prop := runAcceptsUptoRow.holds Tryz.pinned (OpenSpec.upto runAcceptsSpec)

/-- 'umlautlaw07.RunJoins', WHERE WHAT IT READS IS OF BULK AT MOST 1048576: true; the input reads as it did. -/
def runJoinsUptoRow : OpenClaim := { program := "ytbcjoeadpjfcfaagreat", sum := "2f94770954f264d0f24e66efe2042ce7f4b404c2142c8a08c2a0bc2ca232e56f", func := "umlaut/umlautlaw07.RunJoins", spec := "runJoins", unfollowed := true, recurses := true, apart := false, narrowed := true }
def RunJoinsUptoSaid : Prop := runJoinsUptoRow.holds Tryz.pinned (OpenSpec.upto runJoinsSpec)

/-- 'umlautlaw07.RunRelates', WHERE WHAT IT READS IS OF BULK AT MOST 1048576: true; the input reads as it did. -/
def runRelatesUptoRow : OpenClaim := { program := "ytbcjoeadpjfcfaagreat", sum := "2f94770954f264d0f24e66efe2042ce7f4b404c2142c8a08c2a0bc2ca232e56f", func := "umlaut/umlautlaw07.RunRelates", spec := "runRelates", unfollowed := true, recurses := true, apart := false, narrowed := true }
def RunRelatesUptoSaid : Prop := runRelatesUptoRow.holds Tryz.pinned (OpenSpec.upto runRelatesSpec)

/-- 'umlautlaw07.RunMore', WHERE WHAT IT READS IS OF BULK AT MOST 1048576: true; the input reads as it did. -/
def runMoreUptoRow : OpenClaim := { program := "ytbcjoeadpjfcfaagreat", sum := "2f94770954f264d0f24e66efe2042ce7f4b404c2142c8a08c2a0bc2ca232e56f", func := "umlaut/umlautlaw07.RunMore", spec := "runMore", unfollowed := true, recurses := true, apart := false, narrowed := true }
def RunMoreUptoSaid : Prop := runMoreUptoRow.holds Tryz.pinned (OpenSpec.upto runMoreSpec)

/-- 'umlautlaw08.EpsilonLadder', WHERE WHAT IT READS IS OF BULK AT MOST 1048576: true; the input reads as it did. -/
def epsilonLadderUptoRow : OpenClaim := { program := "ytbcjoeadpjfcfaagreat", sum := "2f94770954f264d0f24e66efe2042ce7f4b404c2142c8a08c2a0bc2ca232e56f", func := "umlaut/umlautlaw08.EpsilonLadder", spec := "epsilonLadder", unfollowed := true, recurses := true, apart := false, narrowed := true }
def EpsilonLadderUptoSaid : Prop := epsilonLadderUptoRow.holds Tryz.pinned (OpenSpec.upto epsilonLadderSpec)

/-- 'umlautlaw09.TrimKeeps', WHERE WHAT IT READS IS OF BULK AT MOST 1048576: true; the input reads as it did. -/
def trimKeepsUptoRow : OpenClaim := { program := "ytbcjoeadpjfcfaagreat", sum := "2f94770954f264d0f24e66efe2042ce7f4b404c2142c8a08c2a0bc2ca232e56f", func := "umlaut/umlautlaw09.TrimKeeps", spec := "trimKeeps", unfollowed := true, recurses := true, apart := false, narrowed := true }
def TrimKeepsUptoSaid : Prop := trimKeepsUptoRow.holds Tryz.pinned (OpenSpec.upto trimKeepsSpec)

/-- 'umlautlaw08.EpsilonKeeps', WHERE WHAT IT READS IS OF BULK AT MOST 1048576: true; the input reads as it did. -/
def epsilonKeepsUptoRow : OpenClaim := { program := "ytbcjoeadpjfcfaagreat", sum := "2f94770954f264d0f24e66efe2042ce7f4b404c2142c8a08c2a0bc2ca232e56f", func := "umlaut/umlautlaw08.EpsilonKeeps", spec := "epsilonKeeps", unfollowed := true, recurses := true, apart := false, narrowed := true }
def EpsilonKeepsUptoSaid : Prop := epsilonKeepsUptoRow.holds Tryz.pinned (OpenSpec.upto epsilonKeepsSpec)

end Rows
end Go.Proofs.YtbcjoeadpjfcfaaGreat
