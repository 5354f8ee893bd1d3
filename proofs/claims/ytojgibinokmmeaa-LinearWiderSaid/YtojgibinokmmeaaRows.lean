/-
  No cell of these rows narrows 'for every input' (looked for: loops, veiled, ifaces, maps, wideKeys, modest, calm, conditions, laid).
  DERIVED. THE GIVEN ROWS OF THIS SEAT. 8 by the template 'for every input the law returns true; each argument reads behind the call as it read before'; 0 by the template 'total and deterministic' (their statements: YtojgibinokmmeaaTotals.lean).
  GIVEN WITH THE SEED: the statements are not yours to turn. If you find one false, say at which input.
  Laid BY PROGRAM, IN A SANDBOX (cutbox-rows.mjs): the forced cells as the released guide's own fill.sh prints them over the translation 9ad5fc5e871c33e4… (all of the seat's roots in one cut). By AI agents, Wed Nov 11 2026. No macro, syntax, notation, axiom, sorry.
-/
import Derived.Test.YtojgibinokmmeaaChecked
import GoSem.Claim
import GoSem.ClaimJoined
import GoSem.ClaimMapViews
import Derived.JoinedTies
import Derived.KernelRfl
namespace Go.Proofs.Ytojgibinokmmeaa
/- THE CELL 'sum', in the pinned program and in every row, IS THE sha256 OF THE DUMP (.gsa) THAT YtojgibinokmmeaaProg.lean LOADS. Nothing in Lean hashes anything: it is a label: what it is worth is what the hold of that sum in a sandbox is worth. -/
noncomputable def Try.pinned : Pinned := { name := "ytojgibinokmmeaa", sum := "9ad5fc5e871c33e44ca676f06e07dcfd9fea27e0f906afe8230c6d94771de981", checked := Try.checked }
namespace Rows
def none {H : Type} : Left H := { results := [], args := [] }

/-- 'windlasslaw19.LinearMany': WHATEVER THE INPUT: true; the input reads as it did. -/
def linearManySpec : ChangeSpec := { name := "linearMany", fn := fun _ => fun
  | [d1, d2, d3] => { results := [.lit (.bool true)], args := [d1, d2, d3] }
  | _ => none }
def linearManyRow : OpenClaim := { program := "ytojgibinokmmeaa", sum := "9ad5fc5e871c33e44ca676f06e07dcfd9fea27e0f906afe8230c6d94771de981", func := "windlass/windlasslaw19.LinearMany", spec := "linearMany", recurses := true, plainKeys := false, apart := false }
def LinearManySaid : Prop := linearManyRow.holds Try.pinned (OpenSpec.ofChange linearManySpec)

/-- ITS FALSE NEIGHBOUR: 'it returns false'. Refute it at one input. -/
def linearManyWrong : ChangeSpec := { name := "linearMany", fn := fun _ => fun
  | [d1, d2, d3] => { results := [.lit (.bool false)], args := [d1, d2, d3] }
  | _ => none }
def LinearManyWrongFalsely : Prop := linearManyRow.holds Try.pinned (OpenSpec.ofChange linearManyWrong)

/-- 'windlasslaw19.LinearTurns': WHATEVER THE INPUT: true; the input reads as it did. -/
def linearTurnsSpec : ChangeSpec := { name := "linearTurns", fn := fun _ => fun
  | [d1, d2] => { results := [.lit (.bool true)], args := [d1, d2] }
  | _ => none }
def linearTurnsRow : OpenClaim := { program := "ytojgibinokmmeaa", sum := "9ad5fc5e871c33e44ca676f06e07dcfd9fea27e0f906afe8230c6d94771de981", func := "windlass/windlasslaw19.LinearTurns", spec := "linearTurns", recurses := true, plainKeys := false, apart := false }
def LinearTurnsSaid : Prop := linearTurnsRow.holds Try.pinned (OpenSpec.ofChange linearTurnsSpec)

/-- ITS FALSE NEIGHBOUR: 'it returns false'. Refute it at one input. -/
def linearTurnsWrong : ChangeSpec := { name := "linearTurns", fn := fun _ => fun
  | [d1, d2] => { results := [.lit (.bool false)], args := [d1, d2] }
  | _ => none }
def LinearTurnsWrongFalsely : Prop := linearTurnsRow.holds Try.pinned (OpenSpec.ofChange linearTurnsWrong)

/-- 'windlasslaw19.LinearSerial': WHATEVER THE INPUT: true; the input reads as it did. -/
def linearSerialSpec : ChangeSpec := { name := "linearSerial", fn := fun _ => fun
  | [d1, d2] => { results := [.lit (.bool true)], args := [d1, d2] }
  | _ => none }
def linearSerialRow : OpenClaim := { program := "ytojgibinokmmeaa", sum := "9ad5fc5e871c33e44ca676f06e07dcfd9fea27e0f906afe8230c6d94771de981", func := "windlass/windlasslaw19.LinearSerial", spec := "linearSerial", recurses := true, plainKeys := false, apart := false }
def LinearSerialSaid : Prop := linearSerialRow.holds Try.pinned (OpenSpec.ofChange linearSerialSpec)

/-- ITS FALSE NEIGHBOUR: 'it returns false'. Refute it at one input. -/
def linearSerialWrong : ChangeSpec := { name := "linearSerial", fn := fun _ => fun
  | [d1, d2] => { results := [.lit (.bool false)], args := [d1, d2] }
  | _ => none }
def LinearSerialWrongFalsely : Prop := linearSerialRow.holds Try.pinned (OpenSpec.ofChange linearSerialWrong)

/-- 'windlasslaw19.LinearWider': WHATEVER THE INPUT: true; the input reads as it did. -/
def linearWiderSpec : ChangeSpec := { name := "linearWider", fn := fun _ => fun
  | [d1, d2, d3] => { results := [.lit (.bool true)], args := [d1, d2, d3] }
  | _ => none }
def linearWiderRow : OpenClaim := { program := "ytojgibinokmmeaa", sum := "9ad5fc5e871c33e44ca676f06e07dcfd9fea27e0f906afe8230c6d94771de981", func := "windlass/windlasslaw19.LinearWider", spec := "linearWider", recurses := true, plainKeys := false, apart := false }
def LinearWiderSaid : Prop := linearWiderRow.holds Try.pinned (OpenSpec.ofChange linearWiderSpec)

/-- ITS FALSE NEIGHBOUR: 'it returns false'. Refute it at one input. -/
def linearWiderWrong : ChangeSpec := { name := "linearWider", fn := fun _ => fun
  | [d1, d2, d3] => { results := [.lit (.bool false)], args := [d1, d2, d3] }
  | _ => none }
def LinearWiderWrongFalsely : Prop := linearWiderRow.holds Try.pinned (OpenSpec.ofChange linearWiderWrong)

/-- 'windlasslaw19.LinearNever': WHATEVER THE INPUT: true; the input reads as it did. -/
def linearNeverSpec : ChangeSpec := { name := "linearNever", fn := fun _ => fun
  | [d1, d2, d3] => { results := [.lit (.bool true)], args := [d1, d2, d3] }
  | _ => none }
def linearNeverRow : OpenClaim := { program := "ytojgibinokmmeaa", sum := "9ad5fc5e871c33e44ca676f06e07dcfd9fea27e0f906afe8230c6d94771de981", func := "windlass/windlasslaw19.LinearNever", spec := "linearNever", recurses := true, plainKeys := false, apart := false }
def LinearNeverSaid : Prop := linearNeverRow.holds Try.pinned (OpenSpec.ofChange linearNeverSpec)

/-- ITS FALSE NEIGHBOUR: 'it returns false'. Refute it at one input. -/
def linearNeverWrong : ChangeSpec := { name := "linearNever", fn := fun _ => fun
  | [d1, d2, d3] => { results := [.lit (.bool false)], args := [d1, d2, d3] }
  | _ => none }
def LinearNeverWrongFalsely : Prop := linearNeverRow.holds Try.pinned (OpenSpec.ofChange linearNeverWrong)

/-- 'windlasslaw19.LinearWrites': WHATEVER THE INPUT: true; the input reads as it did. -/
def linearWritesSpec : ChangeSpec := { name := "linearWrites", fn := fun _ => fun
  | [d] => { results := [.lit (.bool true)], args := [d] }
  | _ => none }
def linearWritesRow : OpenClaim := { program := "ytojgibinokmmeaa", sum := "9ad5fc5e871c33e44ca676f06e07dcfd9fea27e0f906afe8230c6d94771de981", func := "windlass/windlasslaw19.LinearWrites", spec := "linearWrites", recurses := true, plainKeys := false, apart := false }
def LinearWritesSaid : Prop := linearWritesRow.holds Try.pinned (OpenSpec.ofChange linearWritesSpec)

/-- ITS FALSE NEIGHBOUR: 'it returns false'. Refute it at one input. -/
def linearWritesWrong : ChangeSpec := { name := "linearWrites", fn := fun _ => fun
  | [d] => { results := [.lit (.bool false)], args := [d] }
  | _ => none }
def LinearWritesWrongFalsely : Prop := linearWritesRow.holds Try.pinned (OpenSpec.ofChange linearWritesWrong)

/-- 'windlasslaw19.LinearNames': WHATEVER THE INPUT: true; the input reads as it did. -/
def linearNamesSpec : ChangeSpec := { name := "linearNames", fn := fun _ => fun
  | [d1, d2] => { results := [.lit (.bool true)], args := [d1, d2] }
  | _ => none }
def linearNamesRow : OpenClaim := { program := "ytojgibinokmmeaa", sum := "9ad5fc5e871c33e44ca676f06e07dcfd9fea27e0f906afe8230c6d94771de981", func := "windlass/windlasslaw19.LinearNames", spec := "linearNames", recurses := true, plainKeys := false, apart := false }
def LinearNamesSaid : Prop := linearNamesRow.holds Try.pinned (OpenSpec.ofChange linearNamesSpec)

/-- ITS FALSE NEIGHBOUR: 'it returns false'. Refute it at one input. -/
def linearNamesWrong : ChangeSpec := { name := "linearNames", fn := fun _ => fun
  | [d1, d2] => { results := [.lit (.bool false)], args := [d1, d2] }
  | _ => none }
def LinearNamesWrongFalsely : Prop := linearNamesRow.holds Try.pinned (OpenSpec.ofChange linearNamesWrong)

/-- 'windlasslaw19.LinearParts': WHATEVER THE INPUT: true; the input reads as it did. -/
def linearPartsSpec : ChangeSpec := { name := "linearParts", fn := fun _ => fun
  | [d1, d2, d3] => { results := [.lit (.bool true)], args := [d1, d2, d3] }
  | _ => none }
def linearPartsRow : OpenClaim := { program := "ytojgibinokmmeaa", sum := "9ad5fc5e871c33e44ca676f06e07dcfd9fea27e0f906afe8230c6d94771de981", func := "windlass/windlasslaw19.LinearParts", spec := "linearParts", recurses := true, plainKeys := false, apart := false }
def LinearPartsSaid : Prop := linearPartsRow.holds Try.pinned (OpenSpec.ofChange linearPartsSpec)

/-- ITS FALSE NEIGHBOUR: 'it returns false'. Refute it at one input. -/
def linearPartsWrong : ChangeSpec := { name := "linearParts", fn := fun _ => fun
  | [d1, d2, d3] => { results := [.lit (.bool false)], args := [d1, d2, d3] }
  | _ => none }
def LinearPartsWrongFalsely : Prop := linearPartsRow.holds Try.pinned (OpenSpec.ofChange linearPartsWrong)

/- THE SECOND FORM. 'bulk': how many values and letters a reading holds, each counted each time it is reached (what is shared counts as often as it is met; a slice's spare places count too). A statement '..UptoSaid' is the law's where the arguments, and the package variables that the reading takes, are together of bulk at most 1048576: NARROWER than '..Said'. Prove '..Said' where nothing that the law and all that it calls make is longer than what came in: it says more and counts as full. Else prove '..UptoSaid'. A law counts once. -/
mutual
def uptoBulk {H : Type} : DataW H → Nat
  | .lit (.string bytes) => bytes.length + 1
  | .lit _ => 1
  | .nil => 1
  | .ptr d => uptoBulk d + 1
  | .slice elems spare => uptoBulkAll elems + uptoBulkAll spare + 1
  | .agg parts => uptoBulkAll parts + 1
  | .iface _ d => uptoBulk d + 1
  | .map entries => uptoBulkEntries entries + 1
  | .held _ => 1
def uptoBulkAll {H : Type} : List (DataW H) → Nat
  | [] => 0
  | d :: r => uptoBulk d + uptoBulkAll r
def uptoBulkEntries {H : Type} : List (Lit × DataW H) → Nat
  | [] => 0
  | x :: r => uptoBulkEntry x + uptoBulkEntries r
def uptoBulkEntry {H : Type} : Lit × DataW H → Nat
  | (.string bytes, d) => bytes.length + uptoBulk d + 1
  | (_, d) => uptoBulk d + 1
 end
def uptoSmall : (H : Type) → List (DataW H) → Bool := fun _ ds => decide (uptoBulkAll ds ≤ 1048576)
def OpenSpec.upto (s : _root_.Go.ChangeSpec) : _root_.Go.OpenSpec := { _root_.Go.OpenSpec.ofChange s with cond := some uptoSmall }

/-- 'windlasslaw19.LinearMany', WHERE WHAT IT READS IS OF BULK AT MOST 1048576: true; the input reads as it did. -/
def linearManyUptoRow : OpenClaim := { program := "ytojgibinokmmeaa", sum := "9ad5fc5e871c33e44ca676f06e07dcfd9fea27e0f906afe8230c6d94771de981", func := "windlass/windlasslaw19.LinearMany", spec := "linearMany", recurses := true, plainKeys := false, apart := false, narrowed := true }
def LinearManyUptoSaid : Prop := linearManyUptoRow.holds Try.pinned (OpenSpec.upto linearManySpec)

/-- 'windlasslaw19.LinearTurns', WHERE WHAT IT READS IS OF BULK AT MOST 1048576: true; the input reads as it did. -/
def linearTurnsUptoRow : OpenClaim := { program := "ytojgibinokmmeaa", sum := "9ad5fc5e871c33e44ca676f06e07dcfd9fea27e0f906afe8230c6d94771de981", func := "windlass/windlasslaw19.LinearTurns", spec := "linearTurns", recurses := true, plainKeys := false, apart := false, narrowed := true }
def LinearTurnsUptoSaid : Prop := linearTurnsUptoRow.holds Try.pinned (OpenSpec.upto linearTurnsSpec)

/-- 'windlasslaw19.LinearSerial', WHERE WHAT IT READS IS OF BULK AT MOST 1048576: true; the input reads as it did. -/
def linearSerialUptoRow : OpenClaim := { program := "ytojgibinokmmeaa", sum := "9ad5fc5e871c33e44ca676f06e07dcfd9fea27e0f906afe8230c6d94771de981", func := "windlass/windlasslaw19.LinearSerial", spec := "linearSerial", recurses := true, plainKeys := false, apart := false, narrowed := true }
def LinearSerialUptoSaid : Prop := linearSerialUptoRow.holds Try.pinned (OpenSpec.upto linearSerialSpec)

/-- 'windlasslaw19.LinearWider', WHERE WHAT IT READS IS OF BULK AT MOST 1048576: true; the input reads as it did. -/
def linearWiderUptoRow : OpenClaim := { program := "ytojgibinokmmeaa", sum := "9ad5fc5e871c33e44ca676f06e07dcfd9fea27e0f906afe8230c6d94771de981", func := "windlass/windlasslaw19.LinearWider", spec := "linearWider", recurses := true, plainKeys := false, apart := false, narrowed := true }
def LinearWiderUptoSaid : Prop := linearWiderUptoRow.holds Try.pinned (OpenSpec.upto linearWiderSpec)

/-- 'windlasslaw19.LinearNever', WHERE WHAT IT READS IS OF BULK AT MOST 1048576: true; the input reads as it did. -/
def linearNeverUptoRow : OpenClaim := { program := "ytojgibinokmmeaa", sum := "9ad5fc5e871c33e44ca676f06e07dcfd9fea27e0f906afe8230c6d94771de981", func := "windlass/windlasslaw19.LinearNever", spec := "linearNever", recurses := true, plainKeys := false, apart := false, narrowed := true }
def LinearNeverUptoSaid : Prop := linearNeverUptoRow.holds Try.pinned (OpenSpec.upto linearNeverSpec)

/-- 'windlasslaw19.LinearWrites', WHERE WHAT IT READS IS OF BULK AT MOST 1048576: true; the input reads as it did. -/
def linearWritesUptoRow : OpenClaim := { program := "ytojgibinokmmeaa", sum := "9ad5fc5e871c33e44ca676f06e07dcfd9fea27e0f906afe8230c6d94771de981", func := "windlass/windlasslaw19.LinearWrites", spec := "linearWrites", recurses := true, plainKeys := false, apart := false, narrowed := true }
def LinearWritesUptoSaid : Prop := linearWritesUptoRow.holds Try.pinned (OpenSpec.upto linearWritesSpec)

/-- 'windlasslaw19.LinearNames', WHERE WHAT IT READS IS OF BULK AT MOST 1048576: true; the input reads as it did. -/
def linearNamesUptoRow : OpenClaim := { program := "ytojgibinokmmeaa", sum := "9ad5fc5e871c33e44ca676f06e07dcfd9fea27e0f906afe8230c6d94771de981", func := "windlass/windlasslaw19.LinearNames", spec := "linearNames", recurses := true, plainKeys := false, apart := false, narrowed := true }
def LinearNamesUptoSaid : Prop := linearNamesUptoRow.holds Try.pinned (OpenSpec.upto linearNamesSpec)

/-- 'windlasslaw19.LinearParts', WHERE WHAT IT READS IS OF BULK AT MOST 1048576: true; the input reads as it did. -/
def linearPartsUptoRow : OpenClaim := { program := "ytojgibinokmmeaa", sum := "9ad5fc5e871c33e44ca676f06e07dcfd9fea27e0f906afe8230c6d94771de981", func := "windlass/windlasslaw19.LinearParts", spec := "linearParts", recurses := true, plainKeys := false, apart := false, narrowed := true }
def LinearPartsUptoSaid : Prop := linearPartsUptoRow.holds Try.pinned (OpenSpec.upto linearPartsSpec)

end Rows
end Go.Proofs.Ytojgibinokmmeaa
