/-
  No cell of these rows narrows 'for every input' (looked for: loops, veiled, ifaces, maps, wideKeys, modest, calm, conditions, laid).
  DERIVED. THE GIVEN ROWS OF THIS SEAT. 7 by the template 'for every input the law returns true; each argument reads behind the call as it read before'; 0 by the template 'total and deterministic' (their statements: YticodgjinajkpaaTotals.lean).
  GIVEN WITH THE SEED: the statements are not yours to turn. If you find one false, say at which input.
  Laid BY PROGRAM, IN A SANDBOX (cutbox-rows.mjs): the forced cells as the released guide's own fill.sh prints them over the translation b1bfe6d55b11920a… (all of the seat's roots in one cut). By AI agents, Wed Nov 11 2026. No macro, syntax, notation, axiom, sorry.
-/
import Derived.Test.YticodgjinajkpaaChecked
import GoSem.Claim
import GoSem.ClaimJoined
import GoSem.ClaimMapViews
import Derived.JoinedTies
import Derived.KernelRfl
namespace Go.Proofs.Yticodgjinajkpaa
/- THE CELL 'sum', in the pinned program and in every row, IS THE sha256 OF THE DUMP (.gsa) THAT YticodgjinajkpaaProg.lean LOADS. Nothing in Lean hashes anything: it is a label: what it is worth is what the hold of that sum in a sandbox is worth. -/
noncomputable def Try.pinned : Pinned := { name := "yticodgjinajkpaa", sum := "b1bfe6d55b11920af73a37330f9374f62e2409ea4a56c81387bcb11d989925f6", checked := Try.checked }
namespace Rows
def none {H : Type} : Left H := { results := [], args := [] }

/-- 'umlautlaw06.DescWheres': WHATEVER THE INPUT: true; the input reads as it did. -/
def descWheresSpec : ChangeSpec := { name := "descWheres", fn := fun _ => fun
  | [d] => { results := [.lit (.bool true)], args := [d] }
  | _ => none }
def descWheresRow : OpenClaim := { program := "yticodgjinajkpaa", sum := "b1bfe6d55b11920af73a37330f9374f62e2409ea4a56c81387bcb11d989925f6", func := "umlaut/umlautlaw06.DescWheres", spec := "descWheres", unfollowed := true, recurses := true, apart := false }
def DescWheresSaid : Prop := descWheresRow.holds Try.pinned (OpenSpec.ofChange descWheresSpec)

/-- ITS FALSE NEIGHBOUR: 'it returns false'. Refute it at one input. -/
def descWheresWrong : ChangeSpec := { name := "descWheres", fn := fun _ => fun
  | [d] => { results := [.lit (.bool false)], args := [d] }
  | _ => none }
def DescWheresWrongFalsely : Prop := descWheresRow.holds Try.pinned (OpenSpec.ofChange descWheresWrong)

/-- 'umlautlaw06.DescMakes': WHATEVER THE INPUT: true; the input reads as it did. -/
def descMakesSpec : ChangeSpec := { name := "descMakes", fn := fun _ => fun
  | [d1, d2] => { results := [.lit (.bool true)], args := [d1, d2] }
  | _ => none }
def descMakesRow : OpenClaim := { program := "yticodgjinajkpaa", sum := "b1bfe6d55b11920af73a37330f9374f62e2409ea4a56c81387bcb11d989925f6", func := "umlaut/umlautlaw06.DescMakes", spec := "descMakes", unfollowed := true, recurses := true, apart := false }
def DescMakesSaid : Prop := descMakesRow.holds Try.pinned (OpenSpec.ofChange descMakesSpec)

/-- ITS FALSE NEIGHBOUR: 'it returns false'. Refute it at one input. -/
def descMakesWrong : ChangeSpec := { name := "descMakes", fn := fun _ => fun
  | [d1, d2] => { results := [.lit (.bool false)], args := [d1, d2] }
  | _ => none }
def DescMakesWrongFalsely : Prop := descMakesRow.holds Try.pinned (OpenSpec.ofChange descMakesWrong)

/-- 'umlautlaw06.DescSpoilt': WHATEVER THE INPUT: true; the input reads as it did. -/
def descSpoiltSpec : ChangeSpec := { name := "descSpoilt", fn := fun _ => fun
  | [d1, d2, d3, d4] => { results := [.lit (.bool true)], args := [d1, d2, d3, d4] }
  | _ => none }
def descSpoiltRow : OpenClaim := { program := "yticodgjinajkpaa", sum := "b1bfe6d55b11920af73a37330f9374f62e2409ea4a56c81387bcb11d989925f6", func := "umlaut/umlautlaw06.DescSpoilt", spec := "descSpoilt", unfollowed := true, recurses := true, apart := false }
def DescSpoiltSaid : Prop := descSpoiltRow.holds Try.pinned (OpenSpec.ofChange descSpoiltSpec)

/-- ITS FALSE NEIGHBOUR: 'it returns false'. Refute it at one input. -/
def descSpoiltWrong : ChangeSpec := { name := "descSpoilt", fn := fun _ => fun
  | [d1, d2, d3, d4] => { results := [.lit (.bool false)], args := [d1, d2, d3, d4] }
  | _ => none }
def DescSpoiltWrongFalsely : Prop := descSpoiltRow.holds Try.pinned (OpenSpec.ofChange descSpoiltWrong)

/-- 'umlautlaw06.DescCycles': WHATEVER THE INPUT: true; the input reads as it did. -/
def descCyclesSpec : ChangeSpec := { name := "descCycles", fn := fun _ => fun
  | [d1, d2] => { results := [.lit (.bool true)], args := [d1, d2] }
  | _ => none }
def descCyclesRow : OpenClaim := { program := "yticodgjinajkpaa", sum := "b1bfe6d55b11920af73a37330f9374f62e2409ea4a56c81387bcb11d989925f6", func := "umlaut/umlautlaw06.DescCycles", spec := "descCycles", unfollowed := true, recurses := true, apart := false }
def DescCyclesSaid : Prop := descCyclesRow.holds Try.pinned (OpenSpec.ofChange descCyclesSpec)

/-- ITS FALSE NEIGHBOUR: 'it returns false'. Refute it at one input. -/
def descCyclesWrong : ChangeSpec := { name := "descCycles", fn := fun _ => fun
  | [d1, d2] => { results := [.lit (.bool false)], args := [d1, d2] }
  | _ => none }
def DescCyclesWrongFalsely : Prop := descCyclesRow.holds Try.pinned (OpenSpec.ofChange descCyclesWrong)

/-- 'umlautlaw06.DescSizes': WHATEVER THE INPUT: true; the input reads as it did. -/
def descSizesSpec : ChangeSpec := { name := "descSizes", fn := fun _ => fun
  | [d] => { results := [.lit (.bool true)], args := [d] }
  | _ => none }
def descSizesRow : OpenClaim := { program := "yticodgjinajkpaa", sum := "b1bfe6d55b11920af73a37330f9374f62e2409ea4a56c81387bcb11d989925f6", func := "umlaut/umlautlaw06.DescSizes", spec := "descSizes", unfollowed := true, recurses := true, apart := false }
def DescSizesSaid : Prop := descSizesRow.holds Try.pinned (OpenSpec.ofChange descSizesSpec)

/-- ITS FALSE NEIGHBOUR: 'it returns false'. Refute it at one input. -/
def descSizesWrong : ChangeSpec := { name := "descSizes", fn := fun _ => fun
  | [d] => { results := [.lit (.bool false)], args := [d] }
  | _ => none }
def DescSizesWrongFalsely : Prop := descSizesRow.holds Try.pinned (OpenSpec.ofChange descSizesWrong)

/-- 'umlautlaw09.TrimTwice': WHATEVER THE INPUT: true; the input reads as it did. -/
def trimTwiceSpec : ChangeSpec := { name := "trimTwice", fn := fun _ => fun
  | [d] => { results := [.lit (.bool true)], args := [d] }
  | _ => none }
def trimTwiceRow : OpenClaim := { program := "yticodgjinajkpaa", sum := "b1bfe6d55b11920af73a37330f9374f62e2409ea4a56c81387bcb11d989925f6", func := "umlaut/umlautlaw09.TrimTwice", spec := "trimTwice", unfollowed := true, recurses := true, apart := false }
def TrimTwiceSaid : Prop := trimTwiceRow.holds Try.pinned (OpenSpec.ofChange trimTwiceSpec)

/-- ITS FALSE NEIGHBOUR: 'it returns false'. Refute it at one input. -/
def trimTwiceWrong : ChangeSpec := { name := "trimTwice", fn := fun _ => fun
  | [d] => { results := [.lit (.bool false)], args := [d] }
  | _ => none }
def TrimTwiceWrongFalsely : Prop := trimTwiceRow.holds Try.pinned (OpenSpec.ofChange trimTwiceWrong)

/-- 'umlautlaw09.TrimChain': WHATEVER THE INPUT: true; the input reads as it did. -/
def trimChainSpec : ChangeSpec := { name := "trimChain", fn := fun _ => fun
  | [d1, d2, d3] => { results := [.lit (.bool true)], args := [d1, d2, d3] }
  | _ => none }
def trimChainRow : OpenClaim := { program := "yticodgjinajkpaa", sum := "b1bfe6d55b11920af73a37330f9374f62e2409ea4a56c81387bcb11d989925f6", func := "umlaut/umlautlaw09.TrimChain", spec := "trimChain", unfollowed := true, recurses := true, apart := false }
def TrimChainSaid : Prop := trimChainRow.holds Try.pinned (OpenSpec.ofChange trimChainSpec)

/-- ITS FALSE NEIGHBOUR: 'it returns false'. Refute it at one input. -/
def trimChainWrong : ChangeSpec := { name := "trimChain", fn := fun _ => fun
  | [d1, d2, d3] => { results := [.lit (.bool false)], args := [d1, d2, d3] }
  | _ => none }
def TrimChainWrongFalsely : Prop := trimChainRow.holds Try.pinned (OpenSpec.ofChange trimChainWrong)

/- THE SECOND FORM. 'bulk': how many values and letters a reading holds, each counted each time it is reached (what is shared counts as often as it is met; a slice's spare places count too). A statement '..UptoSaid' is the law's where the arguments, and the package variables that the reading takes, are together of bulk at most 1048576: NARROWER than '..Said'. Prove '..Said' where nothing that the law and all that it calls make is longer than what came in: it says more and counts as full. Else prove '..UptoSaid'. A law counts once. -/
mutual
def uptoBulk {H : Type} : DataW H → Nat
  | .lit (.string bytes) => bytes.length + 1
  | .lit _ => 1
  | .nil => 1
  | .ptr d => uptoBulk d + 1
  | .slice elems spare => uptoBulkAll elems + uptoBulkAll spare + 1
  | .agg parts => uptoBulkAll parts + 1
  | .iface _ d => uptoBulk d + 1
  | .map entries => uptoBulkEntries entries + 1
  | .held _ => 1
def uptoBulkAll {H : Type} : List (DataW H) → Nat
  | [] => 0
  | d :: r => uptoBulk d + uptoBulkAll r
def uptoBulkEntries {H : Type} : List (Lit × DataW H) → Nat
  | [] => 0
  | x :: r => uptoBulkEntry x + uptoBulkEntries r
def uptoBulkEntry {H : Type} : Lit × DataW H → Nat
  | (.string bytes, d) => bytes.length + uptoBulk d + 1
  | (_, d) => uptoBulk d + 1
 end
def uptoSmall : (H : Type) → List (DataW H) → Bool := fun _ ds => decide (uptoBulkAll ds ≤ 1048576)
def OpenSpec.upto (s : _root_.Go.ChangeSpec) : _root_.Go.OpenSpec := { _root_.Go.OpenSpec.ofChange s with cond := some uptoSmall }

/-- 'umlautlaw06.DescWheres', WHERE WHAT IT READS IS OF BULK AT MOST 1048576: true; the input reads as it did. -/
def descWheresUptoRow : OpenClaim := { program := "yticodgjinajkpaa", sum := "b1bfe6d55b11920af73a37330f9374f62e2409ea4a56c81387bcb11d989925f6", func := "umlaut/umlautlaw06.DescWheres", spec := "descWheres", unfollowed := true, recurses := true, apart := false, narrowed := true }
def DescWheresUptoSaid : Prop := descWheresUptoRow.holds Try.pinned (OpenSpec.upto descWheresSpec)

/-- 'umlautlaw06.DescMakes', WHERE WHAT IT READS IS OF BULK AT MOST 1048576: true; the input reads as it did. -/
def descMakesUptoRow : OpenClaim := { program := "yticodgjinajkpaa", sum := "b1bfe6d55b11920af73a37330f9374f62e2409ea4a56c81387bcb11d989925f6", func := "umlaut/umlautlaw06.DescMakes", spec := "descMakes", unfollowed := true, recurses := true, apart := false, narrowed := true }
def DescMakesUptoSaid : Prop := descMakesUptoRow.holds Try.pinned (OpenSpec.upto descMakesSpec)

/-- 'umlautlaw06.DescSpoilt', WHERE WHAT IT READS IS OF BULK AT MOST 1048576: true; the input reads as it did. -/
def descSpoiltUptoRow : OpenClaim := { program := "yticodgjinajkpaa", sum := "b1bfe6d55b11920af73a37330f9374f62e2409ea4a56c81387bcb11d989925f6", func := "umlaut/umlautlaw06.DescSpoilt", spec := "descSpoilt", unfollowed := true, recurses := true, apart := false, narrowed := true }
def DescSpoiltUptoSaid : Prop := descSpoiltUptoRow.holds Try.pinned (OpenSpec.upto descSpoiltSpec)

/-- 'umlautlaw06.DescCycles', WHERE WHAT IT READS IS OF BULK AT MOST 1048576: true; the input reads as it did. -/
def descCyclesUptoRow : OpenClaim := { program := "yticodgjinajkpaa", sum := "b1bfe6d55b11920af73a37330f9374f62e2409ea4a56c81387bcb11d989925f6", func := "umlaut/umlautlaw06.DescCycles", spec := "descCycles", unfollowed := true, recurses := true, apart := false, narrowed := true }
def DescCyclesUptoSaid : Prop := descCyclesUptoRow.holds Try.pinned (OpenSpec.upto descCyclesSpec)

/-- 'umlautlaw06.DescSizes', WHERE WHAT IT READS IS OF BULK AT MOST 1048576: true; the input reads as it did. -/
def descSizesUptoRow : OpenClaim := { program := "yticodgjinajkpaa", sum := "b1bfe6d55b11920af73a37330f9374f62e2409ea4a56c81387bcb11d989925f6", func := "umlaut/umlautlaw06.DescSizes", spec := "descSizes", unfollowed := true, recurses := true, apart := false, narrowed := true }
def DescSizesUptoSaid : Prop := descSizesUptoRow.holds Try.pinned (OpenSpec.upto descSizesSpec)

/-- 'umlautlaw09.TrimTwice', WHERE WHAT IT READS IS OF BULK AT MOST 1048576: true; the input reads as it did. -/
def trimTwiceUptoRow : OpenClaim := { program := "yticodgjinajkpaa", sum := "b1bfe6d55b11920af73a37330f9374f62e2409ea4a56c81387bcb11d989925f6", func := "umlaut/umlautlaw09.TrimTwice", spec := "trimTwice", unfollowed := true, recurses := true, apart := false, narrowed := true }
def TrimTwiceUptoSaid : Prop := trimTwiceUptoRow.holds Try.pinned (OpenSpec.upto trimTwiceSpec)

/-- 'umlautlaw09.TrimChain', WHERE WHAT IT READS IS OF BULK AT MOST 1048576: true; the input reads as it did. -/
def trimChainUptoRow : OpenClaim := { program := "yticodgjinajkpaa", sum := "b1bfe6d55b11920af73a37330f9374f62e2409ea4a56c81387bcb11d989925f6", func := "umlaut/umlautlaw09.TrimChain", spec := "trimChain", unfollowed := true, recurses := true, apart := false, narrowed := true }
def TrimChainUptoSaid : Prop := trimChainUptoRow.holds Try.pinned (OpenSpec.upto trimChainSpec)

end Rows
end Go.Proofs.Yticodgjinajkpaa
