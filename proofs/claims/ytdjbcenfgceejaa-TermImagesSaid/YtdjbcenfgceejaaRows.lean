/-
  No cell of these rows narrows 'for every input' (looked for: loops, veiled, ifaces, maps, wideKeys, modest, calm, conditions, laid).
  DERIVED. THE GIVEN ROWS OF THIS SEAT. 10 by the template 'for every input the law returns true; each argument reads behind the call as it read before'; 0 by the template 'total and deterministic' (their statements: YtdjbcenfgceejaaTotals.lean).
  GIVEN WITH THE SEED: the statements are not yours to turn. If you find one false, say at which input.
  Laid BY PROGRAM, IN A SANDBOX (cutbox-rows.mjs): the forced cells as the released guide's own fill.sh prints them over the translation 0cb3d2ddeb248f23… (all of the seat's roots in one cut). By AI agents, Wed Nov 11 2026. No macro, syntax, notation, axiom, sorry.
-/
import Derived.Test.YtdjbcenfgceejaaChecked
import GoSem.Claim
import GoSem.ClaimJoined
import GoSem.ClaimMapViews
import Derived.JoinedTies
import Derived.KernelRfl
namespace Go.Proofs.Ytdjbcenfgceejaa
/- THE CELL 'sum', in the pinned program and in every row, IS THE sha256 OF THE DUMP (.gsa) THAT YtdjbcenfgceejaaProg.lean LOADS. Nothing in Lean hashes anything: it is a label: what it is worth is what the hold of that sum in a sandbox is worth. -/
noncomputable def Try.pinned : Pinned := { name := "ytdjbcenfgceejaa", sum := "0cb3d2ddeb248f23680f94f18b04f31af4e7977f6144c14f932520022679e9d7", checked := Try.checked }
namespace Rows
def none {H : Type} : Left H := { results := [], args := [] }

/-- 'umlautlaw04.TermRights': WHATEVER THE INPUT: true; the input reads as it did. -/
def termRightsSpec : ChangeSpec := { name := "termRights", fn := fun _ => fun
  | [d1, d2, d3, d4, d5] => { results := [.lit (.bool true)], args := [d1, d2, d3, d4, d5] }
  | _ => none }
def termRightsRow : OpenClaim := { program := "ytdjbcenfgceejaa", sum := "0cb3d2ddeb248f23680f94f18b04f31af4e7977f6144c14f932520022679e9d7", func := "umlaut/umlautlaw04.TermRights", spec := "termRights", apart := false }
def TermRightsSaid : Prop := termRightsRow.holds Try.pinned (OpenSpec.ofChange termRightsSpec)

/-- ITS FALSE NEIGHBOUR: 'it returns false'. Refute it at one input. -/
def termRightsWrong : ChangeSpec := { name := "termRights", fn := fun _ => fun
  | [d1, d2, d3, d4, d5] => { results := [.lit (.bool false)], args := [d1, d2, d3, d4, d5] }
  | _ => none }
def TermRightsWrongFalsely : Prop := termRightsRow.holds Try.pinned (OpenSpec.ofChange termRightsWrong)

/-- 'umlautlaw04.TermValues': WHATEVER THE INPUT: true; the input reads as it did. -/
def termValuesSpec : ChangeSpec := { name := "termValues", fn := fun _ => fun
  | [d1, d2] => { results := [.lit (.bool true)], args := [d1, d2] }
  | _ => none }
def termValuesRow : OpenClaim := { program := "ytdjbcenfgceejaa", sum := "0cb3d2ddeb248f23680f94f18b04f31af4e7977f6144c14f932520022679e9d7", func := "umlaut/umlautlaw04.TermValues", spec := "termValues", apart := false }
def TermValuesSaid : Prop := termValuesRow.holds Try.pinned (OpenSpec.ofChange termValuesSpec)

/-- ITS FALSE NEIGHBOUR: 'it returns false'. Refute it at one input. -/
def termValuesWrong : ChangeSpec := { name := "termValues", fn := fun _ => fun
  | [d1, d2] => { results := [.lit (.bool false)], args := [d1, d2] }
  | _ => none }
def TermValuesWrongFalsely : Prop := termValuesRow.holds Try.pinned (OpenSpec.ofChange termValuesWrong)

/-- 'umlautlaw04.TermPuts': WHATEVER THE INPUT: true; the input reads as it did. -/
def termPutsSpec : ChangeSpec := { name := "termPuts", fn := fun _ => fun
  | [d1, d2, d3] => { results := [.lit (.bool true)], args := [d1, d2, d3] }
  | _ => none }
def termPutsRow : OpenClaim := { program := "ytdjbcenfgceejaa", sum := "0cb3d2ddeb248f23680f94f18b04f31af4e7977f6144c14f932520022679e9d7", func := "umlaut/umlautlaw04.TermPuts", spec := "termPuts", apart := false }
def TermPutsSaid : Prop := termPutsRow.holds Try.pinned (OpenSpec.ofChange termPutsSpec)

/-- ITS FALSE NEIGHBOUR: 'it returns false'. Refute it at one input. -/
def termPutsWrong : ChangeSpec := { name := "termPuts", fn := fun _ => fun
  | [d1, d2, d3] => { results := [.lit (.bool false)], args := [d1, d2, d3] }
  | _ => none }
def TermPutsWrongFalsely : Prop := termPutsRow.holds Try.pinned (OpenSpec.ofChange termPutsWrong)

/-- 'umlautlaw04.TermBinds': WHATEVER THE INPUT: true; the input reads as it did. -/
def termBindsSpec : ChangeSpec := { name := "termBinds", fn := fun _ => fun
  | [d1, d2, d3] => { results := [.lit (.bool true)], args := [d1, d2, d3] }
  | _ => none }
def termBindsRow : OpenClaim := { program := "ytdjbcenfgceejaa", sum := "0cb3d2ddeb248f23680f94f18b04f31af4e7977f6144c14f932520022679e9d7", func := "umlaut/umlautlaw04.TermBinds", spec := "termBinds", apart := false }
def TermBindsSaid : Prop := termBindsRow.holds Try.pinned (OpenSpec.ofChange termBindsSpec)

/-- ITS FALSE NEIGHBOUR: 'it returns false'. Refute it at one input. -/
def termBindsWrong : ChangeSpec := { name := "termBinds", fn := fun _ => fun
  | [d1, d2, d3] => { results := [.lit (.bool false)], args := [d1, d2, d3] }
  | _ => none }
def TermBindsWrongFalsely : Prop := termBindsRow.holds Try.pinned (OpenSpec.ofChange termBindsWrong)

/-- 'umlautlaw04.TermPres': WHATEVER THE INPUT: true; the input reads as it did. -/
def termPresSpec : ChangeSpec := { name := "termPres", fn := fun _ => fun
  | [d1, d2, d3] => { results := [.lit (.bool true)], args := [d1, d2, d3] }
  | _ => none }
def termPresRow : OpenClaim := { program := "ytdjbcenfgceejaa", sum := "0cb3d2ddeb248f23680f94f18b04f31af4e7977f6144c14f932520022679e9d7", func := "umlaut/umlautlaw04.TermPres", spec := "termPres", unfollowed := true, recurses := true, apart := false }
def TermPresSaid : Prop := termPresRow.holds Try.pinned (OpenSpec.ofChange termPresSpec)

/-- ITS FALSE NEIGHBOUR: 'it returns false'. Refute it at one input. -/
def termPresWrong : ChangeSpec := { name := "termPres", fn := fun _ => fun
  | [d1, d2, d3] => { results := [.lit (.bool false)], args := [d1, d2, d3] }
  | _ => none }
def TermPresWrongFalsely : Prop := termPresRow.holds Try.pinned (OpenSpec.ofChange termPresWrong)

/-- 'umlautlaw04.TermEquals': WHATEVER THE INPUT: true; the input reads as it did. -/
def termEqualsSpec : ChangeSpec := { name := "termEquals", fn := fun _ => fun
  | [d1, d2, d3] => { results := [.lit (.bool true)], args := [d1, d2, d3] }
  | _ => none }
def termEqualsRow : OpenClaim := { program := "ytdjbcenfgceejaa", sum := "0cb3d2ddeb248f23680f94f18b04f31af4e7977f6144c14f932520022679e9d7", func := "umlaut/umlautlaw04.TermEquals", spec := "termEquals", unfollowed := true, recurses := true, apart := false }
def TermEqualsSaid : Prop := termEqualsRow.holds Try.pinned (OpenSpec.ofChange termEqualsSpec)

/-- ITS FALSE NEIGHBOUR: 'it returns false'. Refute it at one input. -/
def termEqualsWrong : ChangeSpec := { name := "termEquals", fn := fun _ => fun
  | [d1, d2, d3] => { results := [.lit (.bool false)], args := [d1, d2, d3] }
  | _ => none }
def TermEqualsWrongFalsely : Prop := termEqualsRow.holds Try.pinned (OpenSpec.ofChange termEqualsWrong)

/-- 'umlautlaw04.TermFar': WHATEVER THE INPUT: true; the input reads as it did. -/
def termFarSpec : ChangeSpec := { name := "termFar", fn := fun _ => fun
  | [d1, d2, d3, d4, d5] => { results := [.lit (.bool true)], args := [d1, d2, d3, d4, d5] }
  | _ => none }
def termFarRow : OpenClaim := { program := "ytdjbcenfgceejaa", sum := "0cb3d2ddeb248f23680f94f18b04f31af4e7977f6144c14f932520022679e9d7", func := "umlaut/umlautlaw04.TermFar", spec := "termFar", unfollowed := true, recurses := true, apart := false }
def TermFarSaid : Prop := termFarRow.holds Try.pinned (OpenSpec.ofChange termFarSpec)

/-- ITS FALSE NEIGHBOUR: 'it returns false'. Refute it at one input. -/
def termFarWrong : ChangeSpec := { name := "termFar", fn := fun _ => fun
  | [d1, d2, d3, d4, d5] => { results := [.lit (.bool false)], args := [d1, d2, d3, d4, d5] }
  | _ => none }
def TermFarWrongFalsely : Prop := termFarRow.holds Try.pinned (OpenSpec.ofChange termFarWrong)

/-- 'umlautlaw04.TermImages': WHATEVER THE INPUT: true; the input reads as it did. -/
def termImagesSpec : ChangeSpec := { name := "termImages", fn := fun _ => fun
  | [d1, d2] => { results := [.lit (.bool true)], args := [d1, d2] }
  | _ => none }
def termImagesRow : OpenClaim := { program := "ytdjbcenfgceejaa", sum := "0cb3d2ddeb248f23680f94f18b04f31af4e7977f6144c14f932520022679e9d7", func := "umlaut/umlautlaw04.TermImages", spec := "termImages", unfollowed := true, recurses := true, apart := false }
def TermImagesSaid : Prop := termImagesRow.holds Try.pinned (OpenSpec.ofChange termImagesSpec)

/-- ITS FALSE NEIGHBOUR: 'it returns false'. Refute it at one input. -/
def termImagesWrong : ChangeSpec := { name := "termImages", fn := fun _ => fun
  | [d1, d2] => { results := [.lit (.bool false)], args := [d1, d2] }
  | _ => none }
def TermImagesWrongFalsely : Prop := termImagesRow.holds Try.pinned (OpenSpec.ofChange termImagesWrong)

/-- 'umlautlaw04.TermFits': WHATEVER THE INPUT: true; the input reads as it did. -/
def termFitsSpec : ChangeSpec := { name := "termFits", fn := fun _ => fun
  | [d1, d2, d3, d4] => { results := [.lit (.bool true)], args := [d1, d2, d3, d4] }
  | _ => none }
def termFitsRow : OpenClaim := { program := "ytdjbcenfgceejaa", sum := "0cb3d2ddeb248f23680f94f18b04f31af4e7977f6144c14f932520022679e9d7", func := "umlaut/umlautlaw04.TermFits", spec := "termFits", unfollowed := true, recurses := true, apart := false }
def TermFitsSaid : Prop := termFitsRow.holds Try.pinned (OpenSpec.ofChange termFitsSpec)

/-- ITS FALSE NEIGHBOUR: 'it returns false'. Refute it at one input. -/
def termFitsWrong : ChangeSpec := { name := "termFits", fn := fun _ => fun
  | [d1, d2, d3, d4] => { results := [.lit (.bool false)], args := [d1, d2, d3, d4] }
  | _ => none }
def TermFitsWrongFalsely : Prop := termFitsRow.holds Try.pinned (OpenSpec.ofChange termFitsWrong)

/-- 'umlautlaw04.TermPoints': WHATEVER THE INPUT: true; the input reads as it did. -/
def termPointsSpec : ChangeSpec := { name := "termPoints", fn := fun _ => fun
  | [d1, d2, d3, d4, d5] => { results := [.lit (.bool true)], args := [d1, d2, d3, d4, d5] }
  | _ => none }
def termPointsRow : OpenClaim := { program := "ytdjbcenfgceejaa", sum := "0cb3d2ddeb248f23680f94f18b04f31af4e7977f6144c14f932520022679e9d7", func := "umlaut/umlautlaw04.TermPoints", spec := "termPoints", unfollowed := true, recurses := true, apart := false }
def TermPointsSaid : Prop := termPointsRow.holds Try.pinned (OpenSpec.ofChange termPointsSpec)

/-- ITS FALSE NEIGHBOUR: 'it returns false'. Refute it at one input. -/
def termPointsWrong : ChangeSpec := { name := "termPoints", fn := fun _ => fun
  | [d1, d2, d3, d4, d5] => { results := [.lit (.bool false)], args := [d1, d2, d3, d4, d5] }
  | _ => none }
def TermPointsWrongFalsely : Prop := termPointsRow.holds Try.pinned (OpenSpec.ofChange termPointsWrong)

/- THE SECOND FORM. 'bulk': how many values and letters a reading holds, each counted each time it is reached (what is shared counts as often as it is met; a slice's spare places count too). A statement '..UptoSaid' is the law's where the arguments, and the package variables that the reading takes, are together of bulk at most 1048576: NARROWER than '..Said'. Prove '..Said' where nothing that the law and all that it calls make is longer than what came in: it says more and counts as full. Else prove '..UptoSaid'. A law counts once. -/
mutual
def uptoBulk {H : Type} : DataW H → Nat
  | .lit (.string bytes) => bytes.length + 1
  | .lit _ => 1
  | .nil => 1
  | .ptr d => uptoBulk d + 1
  | .slice elems spare => uptoBulkAll elems + uptoBulkAll spare + 1
  | .agg parts => uptoBulkAll parts + 1
  | .iface _ d => uptoBulk d + 1
  | .map entries => uptoBulkEntries entries + 1
  | .held _ => 1
def uptoBulkAll {H : Type} : List (DataW H) → Nat
  | [] => 0
  | d :: r => uptoBulk d + uptoBulkAll r
def uptoBulkEntries {H : Type} : List (Lit × DataW H) → Nat
  | [] => 0
  | x :: r => uptoBulkEntry x + uptoBulkEntries r
def uptoBulkEntry {H : Type} : Lit × DataW H → Nat
  | (.string bytes, d) => bytes.length + uptoBulk d + 1
  | (_, d) => uptoBulk d + 1
 end
def uptoSmall : (H : Type) → List (DataW H) → Bool := fun _ ds => decide (uptoBulkAll ds ≤ 1048576)
def OpenSpec.upto (s : _root_.Go.ChangeSpec) : _root_.Go.OpenSpec := { _root_.Go.OpenSpec.ofChange s with cond := some uptoSmall }

/-- 'umlautlaw04.TermRights', WHERE WHAT IT READS IS OF BULK AT MOST 1048576: true; the input reads as it did. -/
def termRightsUptoRow : OpenClaim := { program := "ytdjbcenfgceejaa", sum := "0cb3d2ddeb248f23680f94f18b04f31af4e7977f6144c14f932520022679e9d7", func := "umlaut/umlautlaw04.TermRights", spec := "termRights", apart := false, narrowed := true }
def TermRightsUptoSaid : Prop := termRightsUptoRow.holds Try.pinned (OpenSpec.upto termRightsSpec)

/-- 'umlautlaw04.TermValues', WHERE WHAT IT READS IS OF BULK AT MOST 1048576: true; the input reads as it did. -/
def termValuesUptoRow : OpenClaim := { program := "ytdjbcenfgceejaa", sum := "0cb3d2ddeb248f23680f94f18b04f31af4e7977f6144c14f932520022679e9d7", func := "umlaut/umlautlaw04.TermValues", spec := "termValues", apart := false, narrowed := true }
def TermValuesUptoSaid : Prop := termValuesUptoRow.holds Try.pinned (OpenSpec.upto termValuesSpec)

/-- 'umlautlaw04.TermPuts', WHERE WHAT IT READS IS OF BULK AT MOST 1048576: true; the input reads as it did. -/
def termPutsUptoRow : OpenClaim := { program := "ytdjbcenfgceejaa", sum := "0cb3d2ddeb248f23680f94f18b04f31af4e7977f6144c14f932520022679e9d7", func := "umlaut/umlautlaw04.TermPuts", spec := "termPuts", apart := false, narrowed := true }
def TermPutsUptoSaid : Prop := termPutsUptoRow.holds Try.pinned (OpenSpec.upto termPutsSpec)

/-- 'umlautlaw04.TermBinds', WHERE WHAT IT READS IS OF BULK AT MOST 1048576: true; the input reads as it did. -/
def termBindsUptoRow : OpenClaim := { program := "ytdjbcenfgceejaa", sum := "0cb3d2ddeb248f23680f94f18b04f31af4e7977f6144c14f932520022679e9d7", func := "umlaut/umlautlaw04.TermBinds", spec := "termBinds", apart := false, narrowed := true }
def TermBindsUptoSaid : Prop := termBindsUptoRow.holds Try.pinned (OpenSpec.upto termBindsSpec)

/-- 'umlautlaw04.TermPres', WHERE WHAT IT READS IS OF BULK AT MOST 1048576: true; the input reads as it did. -/
def termPresUptoRow : OpenClaim := { program := "ytdjbcenfgceejaa", sum := "0cb3d2ddeb248f23680f94f18b04f31af4e7977f6144c14f932520022679e9d7", func := "umlaut/umlautlaw04.TermPres", spec := "termPres", unfollowed := true, recurses := true, apart := false, narrowed := true }
def TermPresUptoSaid : Prop := termPresUptoRow.holds Try.pinned (OpenSpec.upto termPresSpec)

/-- 'umlautlaw04.TermEquals', WHERE WHAT IT READS IS OF BULK AT MOST 1048576: true; the input reads as it did. -/
def termEqualsUptoRow : OpenClaim := { program := "ytdjbcenfgceejaa", sum := "0cb3d2ddeb248f23680f94f18b04f31af4e7977f6144c14f932520022679e9d7", func := "umlaut/umlautlaw04.TermEquals", spec := "termEquals", unfollowed := true, recurses := true, apart := false, narrowed := true }
def TermEqualsUptoSaid : Prop := termEqualsUptoRow.holds Try.pinned (OpenSpec.upto termEqualsSpec)

/-- 'umlautlaw04.TermFar', WHERE WHAT IT READS IS OF BULK AT MOST 1048576: true; the input reads as it did. -/
def termFarUptoRow : OpenClaim := { program := "ytdjbcenfgceejaa", sum := "0cb3d2ddeb248f23680f94f18b04f31af4e7977f6144c14f932520022679e9d7", func := "umlaut/umlautlaw04.TermFar", spec := "termFar", unfollowed := true, recurses := true, apart := false, narrowed := true }
def TermFarUptoSaid : Prop := termFarUptoRow.holds Try.pinned (OpenSpec.upto termFarSpec)

/-- 'umlautlaw04.TermImages', WHERE WHAT IT READS IS OF BULK AT MOST 1048576: true; the input reads as it did. -/
def termImagesUptoRow : OpenClaim := { program := "ytdjbcenfgceejaa", sum := "0cb3d2ddeb248f23680f94f18b04f31af4e7977f6144c14f932520022679e9d7", func := "umlaut/umlautlaw04.TermImages", spec := "termImages", unfollowed := true, recurses := true, apart := false, narrowed := true }
def TermImagesUptoSaid : Prop := termImagesUptoRow.holds Try.pinned (OpenSpec.upto termImagesSpec)

/-- 'umlautlaw04.TermFits', WHERE WHAT IT READS IS OF BULK AT MOST 1048576: true; the input reads as it did. -/
def termFitsUptoRow : OpenClaim := { program := "ytdjbcenfgceejaa", sum := "0cb3d2ddeb248f23680f94f18b04f31af4e7977f6144c14f932520022679e9d7", func := "umlaut/umlautlaw04.TermFits", spec := "termFits", unfollowed := true, recurses := true, apart := false, narrowed := true }
def TermFitsUptoSaid : Prop := termFitsUptoRow.holds Try.pinned (OpenSpec.upto termFitsSpec)

/-- 'umlautlaw04.TermPoints', WHERE WHAT IT READS IS OF BULK AT MOST 1048576: true; the input reads as it did. -/
def termPointsUptoRow : OpenClaim := { program := "ytdjbcenfgceejaa", sum := "0cb3d2ddeb248f23680f94f18b04f31af4e7977f6144c14f932520022679e9d7", func := "umlaut/umlautlaw04.TermPoints", spec := "termPoints", unfollowed := true, recurses := true, apart := false, narrowed := true }
def TermPointsUptoSaid : Prop := termPointsUptoRow.holds Try.pinned (OpenSpec.upto termPointsSpec)

end Rows
end Go.Proofs.Ytdjbcenfgceejaa
