/-
  No cell of these rows narrows 'for every input' (looked for: loops, veiled, ifaces, maps, wideKeys, modest, calm, conditions, laid).
  DERIVED. THE GIVEN ROWS OF THIS SEAT. 3 by the template 'for every input the law returns true; each argument reads behind the call as it read before'; 0 by the template 'total and deterministic' (their statements: YtmpkcmgdamfaaaaTotals.lean).
  GIVEN WITH THE SEED: the statements are not yours to turn. If you find one false, say at which input.
  Laid BY PROGRAM, IN A SANDBOX (cutbox-rows.mjs): the forced cells as the released guide's own fill.sh prints them over the translation e0e8f44ce5d2f5b6… (all of the seat's roots in one cut). By AI agents, Wed Nov 11 2026. No macro, syntax, notation, axiom, sorry.
-/
import Derived.Test.YtmpkcmgdamfaaaaChecked
import GoSem.Claim
import GoSem.ClaimJoined
import GoSem.ClaimMapViews
import Derived.JoinedTies
import Derived.KernelRfl
namespace Go.Proofs.Ytmpkcmgdamfaaaa
/- THE CELL 'sum', in the pinned program and in every row, IS THE sha256 OF THE DUMP (.gsa) THAT YtmpkcmgdamfaaaaProg.lean LOADS. Nothing in Lean hashes anything: it is a label: what it is worth is what the hold of that sum in a sandbox is worth. -/
noncomputable def Try.pinned : Pinned := { name := "ytmpkcmgdamfaaaa", sum := "e0e8f44ce5d2f5b64ac72a2d331fa7a63a91e9f4edb80f6b69f9c527ff233a1e", checked := Try.checked }
namespace Rows
def none {H : Type} : Left H := { results := [], args := [] }

/-- 'windlasslaw18.HistoryPlays': WHATEVER THE INPUT: true; the input reads as it did. -/
def historyPlaysSpec : ChangeSpec := { name := "historyPlays", fn := fun _ => fun
  | [d1, d2] => { results := [.lit (.bool true)], args := [d1, d2] }
  | _ => none }
def historyPlaysRow : OpenClaim := { program := "ytmpkcmgdamfaaaa", sum := "e0e8f44ce5d2f5b64ac72a2d331fa7a63a91e9f4edb80f6b69f9c527ff233a1e", func := "windlass/windlasslaw18.HistoryPlays", spec := "historyPlays", unfollowed := true, recurses := true, apart := false }
def HistoryPlaysSaid : Prop := historyPlaysRow.holds Try.pinned (OpenSpec.ofChange historyPlaysSpec)

/-- ITS FALSE NEIGHBOUR: 'it returns false'. Refute it at one input. -/
def historyPlaysWrong : ChangeSpec := { name := "historyPlays", fn := fun _ => fun
  | [d1, d2] => { results := [.lit (.bool false)], args := [d1, d2] }
  | _ => none }
def HistoryPlaysWrongFalsely : Prop := historyPlaysRow.holds Try.pinned (OpenSpec.ofChange historyPlaysWrong)

/-- 'windlasslaw18.HistoryMoments': WHATEVER THE INPUT: true; the input reads as it did. -/
def historyMomentsSpec : ChangeSpec := { name := "historyMoments", fn := fun _ => fun
  | [d] => { results := [.lit (.bool true)], args := [d] }
  | _ => none }
def historyMomentsRow : OpenClaim := { program := "ytmpkcmgdamfaaaa", sum := "e0e8f44ce5d2f5b64ac72a2d331fa7a63a91e9f4edb80f6b69f9c527ff233a1e", func := "windlass/windlasslaw18.HistoryMoments", spec := "historyMoments", unfollowed := true, recurses := true, apart := false }
def HistoryMomentsSaid : Prop := historyMomentsRow.holds Try.pinned (OpenSpec.ofChange historyMomentsSpec)

/-- ITS FALSE NEIGHBOUR: 'it returns false'. Refute it at one input. -/
def historyMomentsWrong : ChangeSpec := { name := "historyMoments", fn := fun _ => fun
  | [d] => { results := [.lit (.bool false)], args := [d] }
  | _ => none }
def HistoryMomentsWrongFalsely : Prop := historyMomentsRow.holds Try.pinned (OpenSpec.ofChange historyMomentsWrong)

/-- 'windlasslaw18.HistoryOf': WHATEVER THE INPUT: true; the input reads as it did. -/
def historyOfSpec : ChangeSpec := { name := "historyOf", fn := fun _ => fun
  | [d1, d2] => { results := [.lit (.bool true)], args := [d1, d2] }
  | _ => none }
def historyOfRow : OpenClaim := { program := "ytmpkcmgdamfaaaa", sum := "e0e8f44ce5d2f5b64ac72a2d331fa7a63a91e9f4edb80f6b69f9c527ff233a1e", func := "windlass/windlasslaw18.HistoryOf", spec := "historyOf", unfollowed := true, recurses := true, apart := false }
def HistoryOfSaid : Prop := historyOfRow.holds Try.pinned (OpenSpec.ofChange historyOfSpec)

/-- ITS FALSE NEIGHBOUR: 'it returns false'. Refute it at one input. -/
def historyOfWrong : ChangeSpec := { name := "historyOf", fn := fun _ => fun
  | [d1, d2] => { results := [.lit (.bool false)], args := [d1, d2] }
  | _ => none }
def HistoryOfWrongFalsely : Prop := historyOfRow.holds Try.pinned (OpenSpec.ofChange historyOfWrong)

/- THE SECOND FORM. 'bulk': how many values and letters a reading holds, each counted each time it is reached (what is shared counts as often as it is met; a slice's spare places count too). A statement '..UptoSaid' is the law's where the arguments, and the package variables that the reading takes, are together of bulk at most 1048576: NARROWER than '..Said'. Prove '..Said' where nothing that the law and all that it calls make is longer than what came in: it says more and counts as full. Else prove '..UptoSaid'. A law counts once. -/
mutual
def uptoBulk {H : Type} : DataW H → Nat
  | .lit (.string bytes) => bytes.length + 1
  | .lit _ => 1
  | .nil => 1
  | .ptr d => uptoBulk d + 1
  | .slice elems spare => uptoBulkAll elems + uptoBulkAll spare + 1
  | .agg parts => uptoBulkAll parts + 1
  | .iface _ d => uptoBulk d + 1
  | .map entries => uptoBulkEntries entries + 1
  | .held _ => 1
def uptoBulkAll {H : Type} : List (DataW H) → Nat
  | [] => 0
  | d :: r => uptoBulk d + uptoBulkAll r
def uptoBulkEntries {H : Type} : List (Lit × DataW H) → Nat
  | [] => 0
  | x :: r => uptoBulkEntry x + uptoBulkEntries r
def uptoBulkEntry {H : Type} : Lit × DataW H → Nat
  | (.string bytes, d) => bytes.length + uptoBulk d + 1
  | (_, d) => uptoBulk d + 1
 end
def uptoSmall : (H : Type) → List (DataW H) → Bool := fun _ ds => decide (uptoBulkAll ds ≤ 1048576)
def OpenSpec.upto (s : _root_.Go.ChangeSpec) : _root_.Go.OpenSpec := { _root_.Go.OpenSpec.ofChange s with cond := some uptoSmall }

/-- 'windlasslaw18.HistoryPlays', WHERE WHAT IT READS IS OF BULK AT MOST 1048576: true; the input reads as it did. -/
def historyPlaysUptoRow : OpenClaim := { program := "ytmpkcmgdamfaaaa", sum := "e0e8f44ce5d2f5b64ac72a2d331fa7a63a91e9f4edb80f6b69f9c527ff233a1e", func := "windlass/windlasslaw18.HistoryPlays", spec := "historyPlays", unfollowed := true, recurses := true, apart := false, narrowed := true }
def HistoryPlaysUptoSaid : Prop := historyPlaysUptoRow.holds Try.pinned (OpenSpec.upto historyPlaysSpec)

/-- 'windlasslaw18.HistoryMoments', WHERE WHAT IT READS IS OF BULK AT MOST 1048576: true; the input reads as it did. -/
def historyMomentsUptoRow : OpenClaim := { program := "ytmpkcmgdamfaaaa", sum := "e0e8f44ce5d2f5b64ac72a2d331fa7a63a91e9f4edb80f6b69f9c527ff233a1e", func := "windlass/windlasslaw18.HistoryMoments", spec := "historyMoments", unfollowed := true, recurses := true, apart := false, narrowed := true }
def HistoryMomentsUptoSaid : Prop := historyMomentsUptoRow.holds Try.pinned (OpenSpec.upto historyMomentsSpec)

/-- 'windlasslaw18.HistoryOf', WHERE WHAT IT READS IS OF BULK AT MOST 1048576: true; the input reads as it did. -/
def historyOfUptoRow : OpenClaim := { program := "ytmpkcmgdamfaaaa", sum := "e0e8f44ce5d2f5b64ac72a2d331fa7a63a91e9f4edb80f6b69f9c527ff233a1e", func := "windlass/windlasslaw18.HistoryOf", spec := "historyOf", unfollowed := true, recurses := true, apart := false, narrowed := true }
def HistoryOfUptoSaid : Prop := historyOfUptoRow.holds Try.pinned (OpenSpec.upto historyOfSpec)

end Rows
end Go.Proofs.Ytmpkcmgdamfaaaa
