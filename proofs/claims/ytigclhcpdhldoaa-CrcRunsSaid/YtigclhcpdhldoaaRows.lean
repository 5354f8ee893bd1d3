/-
  No cell of these rows narrows 'for every input' (looked for: loops, veiled, ifaces, maps, wideKeys, modest, calm, conditions, laid).
  DERIVED. THE GIVEN ROWS OF THIS SEAT. 8 by the template 'for every input the law returns true; each argument reads behind the call as it read before'; 0 by the template 'total and deterministic' (their statements: YtigclhcpdhldoaaTotals.lean).
  GIVEN WITH THE SEED: the statements are not yours to turn. If you find one false, say at which input.
  Laid BY PROGRAM, IN A SANDBOX (cutbox-rows.mjs): the forced cells as the released guide's own fill.sh prints them over the translation a6af1c83d3768041… (all of the seat's roots in one cut). By AI agents, Wed Nov 11 2026. No macro, syntax, notation, axiom, sorry.
-/
import Derived.Test.YtigclhcpdhldoaaChecked
import GoSem.Claim
import GoSem.ClaimJoined
import GoSem.ClaimMapViews
import Derived.JoinedTies
import Derived.KernelRfl
namespace Go.Proofs.Ytigclhcpdhldoaa
/- THE CELL 'sum', in the pinned program and in every row, IS THE sha256 OF THE DUMP (.gsa) THAT YtigclhcpdhldoaaProg.lean LOADS. Nothing in Lean hashes anything: it is a label: what it is worth is what the hold of that sum in a sandbox is worth. -/
noncomputable def Try.pinned : Pinned := { name := "ytigclhcpdhldoaa", sum := "a6af1c83d3768041be8166f939b7d3c599b59a9bb7a55e259a511432e057907a", checked := Try.checked }
namespace Rows
def none {H : Type} : Left H := { results := [], args := [] }

/-- 'windlasslaw02.CrcTells': WHATEVER THE INPUT: true; the input reads as it did. -/
def crcTellsSpec : ChangeSpec := { name := "crcTells", fn := fun _ => fun
  | [d1, d2] => { results := [.lit (.bool true)], args := [d1, d2] }
  | _ => none }
def crcTellsRow : OpenClaim := { program := "ytigclhcpdhldoaa", sum := "a6af1c83d3768041be8166f939b7d3c599b59a9bb7a55e259a511432e057907a", func := "windlass/windlasslaw02.CrcTells", spec := "crcTells", apart := false }
def CrcTellsSaid : Prop := crcTellsRow.holds Try.pinned (OpenSpec.ofChange crcTellsSpec)

/-- ITS FALSE NEIGHBOUR: 'it returns false'. Refute it at one input. -/
def crcTellsWrong : ChangeSpec := { name := "crcTells", fn := fun _ => fun
  | [d1, d2] => { results := [.lit (.bool false)], args := [d1, d2] }
  | _ => none }
def CrcTellsWrongFalsely : Prop := crcTellsRow.holds Try.pinned (OpenSpec.ofChange crcTellsWrong)

/-- 'windlasslaw02.CrcGoes': WHATEVER THE INPUT: true; the input reads as it did. -/
def crcGoesSpec : ChangeSpec := { name := "crcGoes", fn := fun _ => fun
  | [d1, d2, d3] => { results := [.lit (.bool true)], args := [d1, d2, d3] }
  | _ => none }
def crcGoesRow : OpenClaim := { program := "ytigclhcpdhldoaa", sum := "a6af1c83d3768041be8166f939b7d3c599b59a9bb7a55e259a511432e057907a", func := "windlass/windlasslaw02.CrcGoes", spec := "crcGoes", apart := false }
def CrcGoesSaid : Prop := crcGoesRow.holds Try.pinned (OpenSpec.ofChange crcGoesSpec)

/-- ITS FALSE NEIGHBOUR: 'it returns false'. Refute it at one input. -/
def crcGoesWrong : ChangeSpec := { name := "crcGoes", fn := fun _ => fun
  | [d1, d2, d3] => { results := [.lit (.bool false)], args := [d1, d2, d3] }
  | _ => none }
def CrcGoesWrongFalsely : Prop := crcGoesRow.holds Try.pinned (OpenSpec.ofChange crcGoesWrong)

/-- 'windlasslaw02.CrcRuns': WHATEVER THE INPUT: true; the input reads as it did. -/
def crcRunsSpec : ChangeSpec := { name := "crcRuns", fn := fun _ => fun
  | [d1, d2, d3] => { results := [.lit (.bool true)], args := [d1, d2, d3] }
  | _ => none }
def crcRunsRow : OpenClaim := { program := "ytigclhcpdhldoaa", sum := "a6af1c83d3768041be8166f939b7d3c599b59a9bb7a55e259a511432e057907a", func := "windlass/windlasslaw02.CrcRuns", spec := "crcRuns", apart := false }
def CrcRunsSaid : Prop := crcRunsRow.holds Try.pinned (OpenSpec.ofChange crcRunsSpec)

/-- ITS FALSE NEIGHBOUR: 'it returns false'. Refute it at one input. -/
def crcRunsWrong : ChangeSpec := { name := "crcRuns", fn := fun _ => fun
  | [d1, d2, d3] => { results := [.lit (.bool false)], args := [d1, d2, d3] }
  | _ => none }
def CrcRunsWrongFalsely : Prop := crcRunsRow.holds Try.pinned (OpenSpec.ofChange crcRunsWrong)

/-- 'windlasslaw02.CrcEnds': WHATEVER THE INPUT: true; the input reads as it did. -/
def crcEndsSpec : ChangeSpec := { name := "crcEnds", fn := fun _ => fun
  | [d1, d2, d3, d4] => { results := [.lit (.bool true)], args := [d1, d2, d3, d4] }
  | _ => none }
def crcEndsRow : OpenClaim := { program := "ytigclhcpdhldoaa", sum := "a6af1c83d3768041be8166f939b7d3c599b59a9bb7a55e259a511432e057907a", func := "windlass/windlasslaw02.CrcEnds", spec := "crcEnds", apart := false }
def CrcEndsSaid : Prop := crcEndsRow.holds Try.pinned (OpenSpec.ofChange crcEndsSpec)

/-- ITS FALSE NEIGHBOUR: 'it returns false'. Refute it at one input. -/
def crcEndsWrong : ChangeSpec := { name := "crcEnds", fn := fun _ => fun
  | [d1, d2, d3, d4] => { results := [.lit (.bool false)], args := [d1, d2, d3, d4] }
  | _ => none }
def CrcEndsWrongFalsely : Prop := crcEndsRow.holds Try.pinned (OpenSpec.ofChange crcEndsWrong)

/-- 'windlasslaw02.CrcLike': WHATEVER THE INPUT: true; the input reads as it did. -/
def crcLikeSpec : ChangeSpec := { name := "crcLike", fn := fun _ => fun
  | [d1, d2, d3] => { results := [.lit (.bool true)], args := [d1, d2, d3] }
  | _ => none }
def crcLikeRow : OpenClaim := { program := "ytigclhcpdhldoaa", sum := "a6af1c83d3768041be8166f939b7d3c599b59a9bb7a55e259a511432e057907a", func := "windlass/windlasslaw02.CrcLike", spec := "crcLike", apart := false }
def CrcLikeSaid : Prop := crcLikeRow.holds Try.pinned (OpenSpec.ofChange crcLikeSpec)

/-- ITS FALSE NEIGHBOUR: 'it returns false'. Refute it at one input. -/
def crcLikeWrong : ChangeSpec := { name := "crcLike", fn := fun _ => fun
  | [d1, d2, d3] => { results := [.lit (.bool false)], args := [d1, d2, d3] }
  | _ => none }
def CrcLikeWrongFalsely : Prop := crcLikeRow.holds Try.pinned (OpenSpec.ofChange crcLikeWrong)

/-- 'windlasslaw02.CrcOne': WHATEVER THE INPUT: true; the input reads as it did. -/
def crcOneSpec : ChangeSpec := { name := "crcOne", fn := fun _ => fun
  | [d1, d2, d3, d4] => { results := [.lit (.bool true)], args := [d1, d2, d3, d4] }
  | _ => none }
def crcOneRow : OpenClaim := { program := "ytigclhcpdhldoaa", sum := "a6af1c83d3768041be8166f939b7d3c599b59a9bb7a55e259a511432e057907a", func := "windlass/windlasslaw02.CrcOne", spec := "crcOne", apart := false }
def CrcOneSaid : Prop := crcOneRow.holds Try.pinned (OpenSpec.ofChange crcOneSpec)

/-- ITS FALSE NEIGHBOUR: 'it returns false'. Refute it at one input. -/
def crcOneWrong : ChangeSpec := { name := "crcOne", fn := fun _ => fun
  | [d1, d2, d3, d4] => { results := [.lit (.bool false)], args := [d1, d2, d3, d4] }
  | _ => none }
def CrcOneWrongFalsely : Prop := crcOneRow.holds Try.pinned (OpenSpec.ofChange crcOneWrong)

/-- 'windlasslaw02.CrcThree': WHATEVER THE INPUT: true; the input reads as it did. -/
def crcThreeSpec : ChangeSpec := { name := "crcThree", fn := fun _ => fun
  | [d1, d2, d3] => { results := [.lit (.bool true)], args := [d1, d2, d3] }
  | _ => none }
def crcThreeRow : OpenClaim := { program := "ytigclhcpdhldoaa", sum := "a6af1c83d3768041be8166f939b7d3c599b59a9bb7a55e259a511432e057907a", func := "windlass/windlasslaw02.CrcThree", spec := "crcThree", apart := false }
def CrcThreeSaid : Prop := crcThreeRow.holds Try.pinned (OpenSpec.ofChange crcThreeSpec)

/-- ITS FALSE NEIGHBOUR: 'it returns false'. Refute it at one input. -/
def crcThreeWrong : ChangeSpec := { name := "crcThree", fn := fun _ => fun
  | [d1, d2, d3] => { results := [.lit (.bool false)], args := [d1, d2, d3] }
  | _ => none }
def CrcThreeWrongFalsely : Prop := crcThreeRow.holds Try.pinned (OpenSpec.ofChange crcThreeWrong)

/-- 'windlasslaw02.CrcEnds3': WHATEVER THE INPUT: true; the input reads as it did. -/
def crcEnds3Spec : ChangeSpec := { name := "crcEnds3", fn := fun _ => fun
  | [d1, d2] => { results := [.lit (.bool true)], args := [d1, d2] }
  | _ => none }
def crcEnds3Row : OpenClaim := { program := "ytigclhcpdhldoaa", sum := "a6af1c83d3768041be8166f939b7d3c599b59a9bb7a55e259a511432e057907a", func := "windlass/windlasslaw02.CrcEnds3", spec := "crcEnds3", apart := false }
def CrcEnds3Said : Prop := crcEnds3Row.holds Try.pinned (OpenSpec.ofChange crcEnds3Spec)

/-- ITS FALSE NEIGHBOUR: 'it returns false'. Refute it at one input. -/
def crcEnds3Wrong : ChangeSpec := { name := "crcEnds3", fn := fun _ => fun
  | [d1, d2] => { results := [.lit (.bool false)], args := [d1, d2] }
  | _ => none }
def CrcEnds3WrongFalsely : Prop := crcEnds3Row.holds Try.pinned (OpenSpec.ofChange crcEnds3Wrong)

/- THE SECOND FORM. 'bulk': how many values and letters a reading holds, each counted each time it is reached (what is shared counts as often as it is met; a slice's spare places count too). A statement '..UptoSaid' is the law's where the arguments, and the package variables that the reading takes, are together of bulk at most 1048576: NARROWER than '..Said'. Prove '..Said' where nothing that the law and all that it calls make is longer than what came in: it says more and counts as full. Else prove '..UptoSaid'. A law counts once. -/
mutual
def uptoBulk {H : Type} : DataW H → Nat
  | .lit (.string bytes) => bytes.length + 1
  | .lit _ => 1
  | .nil => 1
  | .ptr d => uptoBulk d + 1
  | .slice elems spare => uptoBulkAll elems + uptoBulkAll spare + 1
  | .agg parts => uptoBulkAll parts + 1
  | .iface _ d => uptoBulk d + 1
  | .map entries => uptoBulkEntries entries + 1
  | .held _ => 1
def uptoBulkAll {H : Type} : List (DataW H) → Nat
  | [] => 0
  | d :: r => uptoBulk d + uptoBulkAll r
def uptoBulkEntries {H : Type} : List (Lit × DataW H) → Nat
  | [] => 0
  | x :: r => uptoBulkEntry x + uptoBulkEntries r
def uptoBulkEntry {H : Type} : Lit × DataW H → Nat
  | (.string bytes, d) => bytes.length + uptoBulk d + 1
  | (_, d) => uptoBulk d + 1
 end
def uptoSmall : (H : Type) → List (DataW H) → Bool := fun _ ds => decide (uptoBulkAll ds ≤ 1048576)
def OpenSpec.upto (s : _root_.Go.ChangeSpec) : _root_.Go.OpenSpec := { _root_.Go.OpenSpec.ofChange s with cond := some uptoSmall }

/-- 'windlasslaw02.CrcTells', WHERE WHAT IT READS IS OF BULK AT MOST 1048576: true; the input reads as it did. -/
def crcTellsUptoRow : OpenClaim := { program := "ytigclhcpdhldoaa", sum := "a6af1c83d3768041be8166f939b7d3c599b59a9bb7a55e259a511432e057907a", func := "windlass/windlasslaw02.CrcTells", spec := "crcTells", apart := false, narrowed := true }
def CrcTellsUptoSaid : Prop := crcTellsUptoRow.holds Try.pinned (OpenSpec.upto crcTellsSpec)

/-- 'windlasslaw02.CrcGoes', WHERE WHAT IT READS IS OF BULK AT MOST 1048576: true; the input reads as it did. -/
def crcGoesUptoRow : OpenClaim := { program := "ytigclhcpdhldoaa", sum := "a6af1c83d3768041be8166f939b7d3c599b59a9bb7a55e259a511432e057907a", func := "windlass/windlasslaw02.CrcGoes", spec := "crcGoes", apart := false, narrowed := true }
def CrcGoesUptoSaid : Prop := crcGoesUptoRow.holds Try.pinned (OpenSpec.upto crcGoesSpec)

/-- 'windlasslaw02.CrcRuns', WHERE WHAT IT READS IS OF BULK AT MOST 1048576: true; the input reads as it did. -/
def crcRunsUptoRow : OpenClaim := { program := "ytigclhcpdhldoaa", sum := "a6af1c83d3768041be8166f939b7d3c599b59a9bb7a55e259a511432e057907a", func := "windlass/windlasslaw02.CrcRuns", spec := "crcRuns", apart := false, narrowed := true }
def CrcRunsUptoSaid : Prop := crcRunsUptoRow.holds Try.pinned (OpenSpec.upto crcRunsSpec)

/-- 'windlasslaw02.CrcEnds', WHERE WHAT IT READS IS OF BULK AT MOST 1048576: true; the input reads as it did. -/
def crcEndsUptoRow : OpenClaim := { program := "ytigclhcpdhldoaa", sum := "a6af1c83d3768041be8166f939b7d3c599b59a9bb7a55e259a511432e057907a", func := "windlass/windlasslaw02.CrcEnds", spec := "crcEnds", apart := false, narrowed := true }
def CrcEndsUptoSaid : Prop := crcEndsUptoRow.holds Try.pinned (OpenSpec.upto crcEndsSpec)

/-- 'windlasslaw02.CrcLike', WHERE WHAT IT READS IS OF BULK AT MOST 1048576: true; the input reads as it did. -/
def crcLikeUptoRow : OpenClaim := { program := "ytigclhcpdhldoaa", sum := "a6af1c83d3768041be8166f939b7d3c599b59a9bb7a55e259a511432e057907a", func := "windlass/windlasslaw02.CrcLike", spec := "crcLike", apart := false, narrowed := true }
def CrcLikeUptoSaid : Prop := crcLikeUptoRow.holds Try.pinned (OpenSpec.upto crcLikeSpec)

/-- 'windlasslaw02.CrcOne', WHERE WHAT IT READS IS OF BULK AT MOST 1048576: true; the input reads as it did. -/
def crcOneUptoRow : OpenClaim := { program := "ytigclhcpdhldoaa", sum := "a6af1c83d3768041be8166f939b7d3c599b59a9bb7a55e259a511432e057907a", func := "windlass/windlasslaw02.CrcOne", spec := "crcOne", apart := false, narrowed := true }
def CrcOneUptoSaid : Prop := crcOneUptoRow.holds Try.pinned (OpenSpec.upto crcOneSpec)

/-- 'windlasslaw02.CrcThree', WHERE WHAT IT READS IS OF BULK AT MOST 1048576: true; the input reads as it did. -/
def crcThreeUptoRow : OpenClaim := { program := "ytigclhcpdhldoaa", sum := "a6af1c83d3768041be8166f939b7d3c599b59a9bb7a55e259a511432e057907a", func := "windlass/windlasslaw02.CrcThree", spec := "crcThree", apart := false, narrowed := true }
def CrcThreeUptoSaid : Prop := crcThreeUptoRow.holds Try.pinned (OpenSpec.upto crcThreeSpec)

/-- 'windlasslaw02.CrcEnds3', WHERE WHAT IT READS IS OF BULK AT MOST 1048576: true; the input reads as it did. -/
def crcEnds3UptoRow : OpenClaim := { program := "ytigclhcpdhldoaa", sum := "a6af1c83d3768041be8166f939b7d3c599b59a9bb7a55e259a511432e057907a", func := "windlass/windlasslaw02.CrcEnds3", spec := "crcEnds3", apart := false, narrowed := true }
def CrcEnds3UptoSaid : Prop := crcEnds3UptoRow.holds Try.pinned (OpenSpec.upto crcEnds3Spec)

end Rows
end Go.Proofs.Ytigclhcpdhldoaa
