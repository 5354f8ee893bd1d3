/-
  No cell of these rows narrows 'for every input' (looked for: loops, veiled, ifaces, maps, wideKeys, modest, calm, conditions, laid).
  DERIVED. THE GIVEN ROWS OF THIS SEAT. 12 by the template 'for every input the law returns true; each argument reads behind the call as it read before'; 0 by the template 'total and deterministic' (their statements: YtaeeflfhjmjpjaaTotals.lean).
  GIVEN WITH THE SEED: the statements are not yours to turn. If you find one false, say at which input.
  Laid BY PROGRAM, IN A SANDBOX (cutbox-rows.mjs): the forced cells as the released guide's own fill.sh prints them over the translation 5953dc8e87629376… (all of the seat's roots in one cut). By AI agents, Wed Nov 11 2026. No macro, syntax, notation, axiom, sorry.
-/
import Derived.Test.YtaeeflfhjmjpjaaChecked
import GoSem.Claim
import GoSem.ClaimJoined
import GoSem.ClaimMapViews
import Derived.JoinedTies
import Derived.KernelRfl
namespace Go.Proofs.Ytaeeflfhjmjpjaa
/- THE CELL 'sum', in the pinned program and in every row, IS THE sha256 OF THE DUMP (.gsa) THAT YtaeeflfhjmjpjaaProg.lean LOADS. Nothing in Lean hashes anything: it is a label: what it is worth is what the hold of that sum in a sandbox is worth. -/
noncomputable def Try.pinned : Pinned := { name := "ytaeeflfhjmjpjaa", sum := "5953dc8e876293766ce8c0053ccfbd0d4b97deef4397603438288342fc888005", checked := Try.checked }
namespace Rows
def none {H : Type} : Left H := { results := [], args := [] }

/-- 'windlasslaw15.SettleEnds': WHATEVER THE INPUT: true; the input reads as it did. -/
def settleEndsSpec : ChangeSpec := { name := "settleEnds", fn := fun _ => fun
  | [d1, d2] => { results := [.lit (.bool true)], args := [d1, d2] }
  | _ => none }
def settleEndsRow : OpenClaim := { program := "ytaeeflfhjmjpjaa", sum := "5953dc8e876293766ce8c0053ccfbd0d4b97deef4397603438288342fc888005", func := "windlass/windlasslaw15.SettleEnds", spec := "settleEnds", unfollowed := true, recurses := true, apart := false }
def SettleEndsSaid : Prop := settleEndsRow.holds Try.pinned (OpenSpec.ofChange settleEndsSpec)

/-- ITS FALSE NEIGHBOUR: 'it returns false'. Refute it at one input. -/
def settleEndsWrong : ChangeSpec := { name := "settleEnds", fn := fun _ => fun
  | [d1, d2] => { results := [.lit (.bool false)], args := [d1, d2] }
  | _ => none }
def SettleEndsWrongFalsely : Prop := settleEndsRow.holds Try.pinned (OpenSpec.ofChange settleEndsWrong)

/-- 'windlasslaw15.SettleAgain': WHATEVER THE INPUT: true; the input reads as it did. -/
def settleAgainSpec : ChangeSpec := { name := "settleAgain", fn := fun _ => fun
  | [d1, d2, d3] => { results := [.lit (.bool true)], args := [d1, d2, d3] }
  | _ => none }
def settleAgainRow : OpenClaim := { program := "ytaeeflfhjmjpjaa", sum := "5953dc8e876293766ce8c0053ccfbd0d4b97deef4397603438288342fc888005", func := "windlass/windlasslaw15.SettleAgain", spec := "settleAgain", unfollowed := true, recurses := true, apart := false }
def SettleAgainSaid : Prop := settleAgainRow.holds Try.pinned (OpenSpec.ofChange settleAgainSpec)

/-- ITS FALSE NEIGHBOUR: 'it returns false'. Refute it at one input. -/
def settleAgainWrong : ChangeSpec := { name := "settleAgain", fn := fun _ => fun
  | [d1, d2, d3] => { results := [.lit (.bool false)], args := [d1, d2, d3] }
  | _ => none }
def SettleAgainWrongFalsely : Prop := settleAgainRow.holds Try.pinned (OpenSpec.ofChange settleAgainWrong)

/-- 'windlasslaw15.SettleOnly': WHATEVER THE INPUT: true; the input reads as it did. -/
def settleOnlySpec : ChangeSpec := { name := "settleOnly", fn := fun _ => fun
  | [d1, d2, d3, d4] => { results := [.lit (.bool true)], args := [d1, d2, d3, d4] }
  | _ => none }
def settleOnlyRow : OpenClaim := { program := "ytaeeflfhjmjpjaa", sum := "5953dc8e876293766ce8c0053ccfbd0d4b97deef4397603438288342fc888005", func := "windlass/windlasslaw15.SettleOnly", spec := "settleOnly", unfollowed := true, recurses := true, apart := false }
def SettleOnlySaid : Prop := settleOnlyRow.holds Try.pinned (OpenSpec.ofChange settleOnlySpec)

/-- ITS FALSE NEIGHBOUR: 'it returns false'. Refute it at one input. -/
def settleOnlyWrong : ChangeSpec := { name := "settleOnly", fn := fun _ => fun
  | [d1, d2, d3, d4] => { results := [.lit (.bool false)], args := [d1, d2, d3, d4] }
  | _ => none }
def SettleOnlyWrongFalsely : Prop := settleOnlyRow.holds Try.pinned (OpenSpec.ofChange settleOnlyWrong)

/-- 'windlasslaw15.SettleDone': WHATEVER THE INPUT: true; the input reads as it did. -/
def settleDoneSpec : ChangeSpec := { name := "settleDone", fn := fun _ => fun
  | [d1, d2, d3, d4] => { results := [.lit (.bool true)], args := [d1, d2, d3, d4] }
  | _ => none }
def settleDoneRow : OpenClaim := { program := "ytaeeflfhjmjpjaa", sum := "5953dc8e876293766ce8c0053ccfbd0d4b97deef4397603438288342fc888005", func := "windlass/windlasslaw15.SettleDone", spec := "settleDone", unfollowed := true, recurses := true, apart := false }
def SettleDoneSaid : Prop := settleDoneRow.holds Try.pinned (OpenSpec.ofChange settleDoneSpec)

/-- ITS FALSE NEIGHBOUR: 'it returns false'. Refute it at one input. -/
def settleDoneWrong : ChangeSpec := { name := "settleDone", fn := fun _ => fun
  | [d1, d2, d3, d4] => { results := [.lit (.bool false)], args := [d1, d2, d3, d4] }
  | _ => none }
def SettleDoneWrongFalsely : Prop := settleDoneRow.holds Try.pinned (OpenSpec.ofChange settleDoneWrong)

/-- 'windlasslaw15.SettleTells': WHATEVER THE INPUT: true; the input reads as it did. -/
def settleTellsSpec : ChangeSpec := { name := "settleTells", fn := fun _ => fun
  | [d1, d2, d3, d4, d5, d6] => { results := [.lit (.bool true)], args := [d1, d2, d3, d4, d5, d6] }
  | _ => none }
def settleTellsRow : OpenClaim := { program := "ytaeeflfhjmjpjaa", sum := "5953dc8e876293766ce8c0053ccfbd0d4b97deef4397603438288342fc888005", func := "windlass/windlasslaw15.SettleTells", spec := "settleTells", unfollowed := true, recurses := true, apart := false }
def SettleTellsSaid : Prop := settleTellsRow.holds Try.pinned (OpenSpec.ofChange settleTellsSpec)

/-- ITS FALSE NEIGHBOUR: 'it returns false'. Refute it at one input. -/
def settleTellsWrong : ChangeSpec := { name := "settleTells", fn := fun _ => fun
  | [d1, d2, d3, d4, d5, d6] => { results := [.lit (.bool false)], args := [d1, d2, d3, d4, d5, d6] }
  | _ => none }
def SettleTellsWrongFalsely : Prop := settleTellsRow.holds Try.pinned (OpenSpec.ofChange settleTellsWrong)

/-- 'windlasslaw15.SettlePlays': WHATEVER THE INPUT: true; the input reads as it did. -/
def settlePlaysSpec : ChangeSpec := { name := "settlePlays", fn := fun _ => fun
  | [d1, d2, d3, d4] => { results := [.lit (.bool true)], args := [d1, d2, d3, d4] }
  | _ => none }
def settlePlaysRow : OpenClaim := { program := "ytaeeflfhjmjpjaa", sum := "5953dc8e876293766ce8c0053ccfbd0d4b97deef4397603438288342fc888005", func := "windlass/windlasslaw15.SettlePlays", spec := "settlePlays", unfollowed := true, recurses := true, apart := false }
def SettlePlaysSaid : Prop := settlePlaysRow.holds Try.pinned (OpenSpec.ofChange settlePlaysSpec)

/-- ITS FALSE NEIGHBOUR: 'it returns false'. Refute it at one input. -/
def settlePlaysWrong : ChangeSpec := { name := "settlePlays", fn := fun _ => fun
  | [d1, d2, d3, d4] => { results := [.lit (.bool false)], args := [d1, d2, d3, d4] }
  | _ => none }
def SettlePlaysWrongFalsely : Prop := settlePlaysRow.holds Try.pinned (OpenSpec.ofChange settlePlaysWrong)

/-- 'windlasslaw15.SettleFew': WHATEVER THE INPUT: true; the input reads as it did. -/
def settleFewSpec : ChangeSpec := { name := "settleFew", fn := fun _ => fun
  | [d1, d2] => { results := [.lit (.bool true)], args := [d1, d2] }
  | _ => none }
def settleFewRow : OpenClaim := { program := "ytaeeflfhjmjpjaa", sum := "5953dc8e876293766ce8c0053ccfbd0d4b97deef4397603438288342fc888005", func := "windlass/windlasslaw15.SettleFew", spec := "settleFew", unfollowed := true, recurses := true, apart := false }
def SettleFewSaid : Prop := settleFewRow.holds Try.pinned (OpenSpec.ofChange settleFewSpec)

/-- ITS FALSE NEIGHBOUR: 'it returns false'. Refute it at one input. -/
def settleFewWrong : ChangeSpec := { name := "settleFew", fn := fun _ => fun
  | [d1, d2] => { results := [.lit (.bool false)], args := [d1, d2] }
  | _ => none }
def SettleFewWrongFalsely : Prop := settleFewRow.holds Try.pinned (OpenSpec.ofChange settleFewWrong)

/-- 'windlasslaw16.UpdateSteps': WHATEVER THE INPUT: true; the input reads as it did. -/
def updateStepsSpec : ChangeSpec := { name := "updateSteps", fn := fun _ => fun
  | [d1, d2] => { results := [.lit (.bool true)], args := [d1, d2] }
  | _ => none }
def updateStepsRow : OpenClaim := { program := "ytaeeflfhjmjpjaa", sum := "5953dc8e876293766ce8c0053ccfbd0d4b97deef4397603438288342fc888005", func := "windlass/windlasslaw16.UpdateSteps", spec := "updateSteps", apart := false }
def UpdateStepsSaid : Prop := updateStepsRow.holds Try.pinned (OpenSpec.ofChange updateStepsSpec)

/-- ITS FALSE NEIGHBOUR: 'it returns false'. Refute it at one input. -/
def updateStepsWrong : ChangeSpec := { name := "updateSteps", fn := fun _ => fun
  | [d1, d2] => { results := [.lit (.bool false)], args := [d1, d2] }
  | _ => none }
def UpdateStepsWrongFalsely : Prop := updateStepsRow.holds Try.pinned (OpenSpec.ofChange updateStepsWrong)

/-- 'windlasslaw16.UpdateEnds': WHATEVER THE INPUT: true; the input reads as it did. -/
def updateEndsSpec : ChangeSpec := { name := "updateEnds", fn := fun _ => fun
  | [d1, d2] => { results := [.lit (.bool true)], args := [d1, d2] }
  | _ => none }
def updateEndsRow : OpenClaim := { program := "ytaeeflfhjmjpjaa", sum := "5953dc8e876293766ce8c0053ccfbd0d4b97deef4397603438288342fc888005", func := "windlass/windlasslaw16.UpdateEnds", spec := "updateEnds", apart := false }
def UpdateEndsSaid : Prop := updateEndsRow.holds Try.pinned (OpenSpec.ofChange updateEndsSpec)

/-- ITS FALSE NEIGHBOUR: 'it returns false'. Refute it at one input. -/
def updateEndsWrong : ChangeSpec := { name := "updateEnds", fn := fun _ => fun
  | [d1, d2] => { results := [.lit (.bool false)], args := [d1, d2] }
  | _ => none }
def UpdateEndsWrongFalsely : Prop := updateEndsRow.holds Try.pinned (OpenSpec.ofChange updateEndsWrong)

/-- 'windlasslaw16.UpdateFails': WHATEVER THE INPUT: true; the input reads as it did. -/
def updateFailsSpec : ChangeSpec := { name := "updateFails", fn := fun _ => fun
  | [d1, d2, d3, d4] => { results := [.lit (.bool true)], args := [d1, d2, d3, d4] }
  | _ => none }
def updateFailsRow : OpenClaim := { program := "ytaeeflfhjmjpjaa", sum := "5953dc8e876293766ce8c0053ccfbd0d4b97deef4397603438288342fc888005", func := "windlass/windlasslaw16.UpdateFails", spec := "updateFails", apart := false }
def UpdateFailsSaid : Prop := updateFailsRow.holds Try.pinned (OpenSpec.ofChange updateFailsSpec)

/-- ITS FALSE NEIGHBOUR: 'it returns false'. Refute it at one input. -/
def updateFailsWrong : ChangeSpec := { name := "updateFails", fn := fun _ => fun
  | [d1, d2, d3, d4] => { results := [.lit (.bool false)], args := [d1, d2, d3, d4] }
  | _ => none }
def UpdateFailsWrongFalsely : Prop := updateFailsRow.holds Try.pinned (OpenSpec.ofChange updateFailsWrong)

/-- 'windlasslaw16.UpdateOwn': WHATEVER THE INPUT: true; the input reads as it did. -/
def updateOwnSpec : ChangeSpec := { name := "updateOwn", fn := fun _ => fun
  | [d] => { results := [.lit (.bool true)], args := [d] }
  | _ => none }
def updateOwnRow : OpenClaim := { program := "ytaeeflfhjmjpjaa", sum := "5953dc8e876293766ce8c0053ccfbd0d4b97deef4397603438288342fc888005", func := "windlass/windlasslaw16.UpdateOwn", spec := "updateOwn", apart := false }
def UpdateOwnSaid : Prop := updateOwnRow.holds Try.pinned (OpenSpec.ofChange updateOwnSpec)

/-- ITS FALSE NEIGHBOUR: 'it returns false'. Refute it at one input. -/
def updateOwnWrong : ChangeSpec := { name := "updateOwn", fn := fun _ => fun
  | [d] => { results := [.lit (.bool false)], args := [d] }
  | _ => none }
def UpdateOwnWrongFalsely : Prop := updateOwnRow.holds Try.pinned (OpenSpec.ofChange updateOwnWrong)

/-- 'windlasslaw16.UpdateCuts': WHATEVER THE INPUT: true; the input reads as it did. -/
def updateCutsSpec : ChangeSpec := { name := "updateCuts", fn := fun _ => fun
  | [d1, d2, d3] => { results := [.lit (.bool true)], args := [d1, d2, d3] }
  | _ => none }
def updateCutsRow : OpenClaim := { program := "ytaeeflfhjmjpjaa", sum := "5953dc8e876293766ce8c0053ccfbd0d4b97deef4397603438288342fc888005", func := "windlass/windlasslaw16.UpdateCuts", spec := "updateCuts", unfollowed := true, recurses := true, apart := false }
def UpdateCutsSaid : Prop := updateCutsRow.holds Try.pinned (OpenSpec.ofChange updateCutsSpec)

/-- ITS FALSE NEIGHBOUR: 'it returns false'. Refute it at one input. -/
def updateCutsWrong : ChangeSpec := { name := "updateCuts", fn := fun _ => fun
  | [d1, d2, d3] => { results := [.lit (.bool false)], args := [d1, d2, d3] }
  | _ => none }
def UpdateCutsWrongFalsely : Prop := updateCutsRow.holds Try.pinned (OpenSpec.ofChange updateCutsWrong)

/- THE SECOND FORM. 'bulk': how many values and letters a reading holds, each counted each time it is reached (what is shared counts as often as it is met; a slice's spare places count too). A statement '..UptoSaid' is the law's where the arguments, and the package variables that the reading takes, are together of bulk at most 1048576: NARROWER than '..Said'. Prove '..Said' where nothing that the law and all that it calls make is longer than what came in: it says more and counts as full. Else prove '..UptoSaid'. A law counts once. -/
mutual
def uptoBulk {H : Type} : DataW H → Nat
  | .lit (.string bytes) => bytes.length + 1
  | .lit _ => 1
  | .nil => 1
  | .ptr d => uptoBulk d + 1
  | .slice elems spare => uptoBulkAll elems + uptoBulkAll spare + 1
  | .agg parts => uptoBulkAll parts + 1
  | .iface _ d => uptoBulk d + 1
  | .map entries => uptoBulkEntries entries + 1
  | .held _ => 1
def uptoBulkAll {H : Type} : List (DataW H) → Nat
  | [] => 0
  | d :: r => uptoBulk d + uptoBulkAll r
def uptoBulkEntries {H : Type} : List (Lit × DataW H) → Nat
  | [] => 0
  | x :: r => uptoBulkEntry x + uptoBulkEntries r
def uptoBulkEntry {H : Type} : Lit × DataW H → Nat
  | (.string bytes, d) => bytes.length + uptoBulk d + 1
  | (_, d) => uptoBulk d + 1
 end
def uptoSmall : (H : Type) → List (DataW H) → Bool := fun _ ds => decide (uptoBulkAll ds ≤ 1048576)
def OpenSpec.upto (s : _root_.Go.ChangeSpec) : _root_.Go.OpenSpec := { _root_.Go.OpenSpec.ofChange s with cond := some uptoSmall }

/-- 'windlasslaw15.SettleEnds', WHERE WHAT IT READS IS OF BULK AT MOST 1048576: true; the input reads as it did. -/
def settleEndsUptoRow : OpenClaim := { program := "ytaeeflfhjmjpjaa", sum := "5953dc8e876293766ce8c0053ccfbd0d4b97deef4397603438288342fc888005", func := "windlass/windlasslaw15.SettleEnds", spec := "settleEnds", unfollowed := true, recurses := true, apart := false, narrowed := true }
def SettleEndsUptoSaid : Prop := settleEndsUptoRow.holds Try.pinned (OpenSpec.upto settleEndsSpec)

/-- 'windlasslaw15.SettleAgain', WHERE WHAT IT READS IS OF BULK AT MOST 1048576: true; the input reads as it did. -/
def settleAgainUptoRow : OpenClaim := { program := "ytaeeflfhjmjpjaa", sum := "5953dc8e876293766ce8c0053ccfbd0d4b97deef4397603438288342fc888005", func := "windlass/windlasslaw15.SettleAgain", spec := "settleAgain", unfollowed := true, recurses := true, apart := false, narrowed := true }
def SettleAgainUptoSaid : Prop := settleAgainUptoRow.holds Try.pinned (OpenSpec.upto settleAgainSpec)

/-- 'windlasslaw15.SettleOnly', WHERE WHAT IT READS IS OF BULK AT MOST 1048576: true; the input reads as it did. -/
def settleOnlyUptoRow : OpenClaim := { program := "ytaeeflfhjmjpjaa", sum := "5953dc8e876293766ce8c0053ccfbd0d4b97deef4397603438288342fc888005", func := "windlass/windlasslaw15.SettleOnly", spec := "settleOnly", unfollowed := true, recurses := true, apart := false, narrowed := true }
def SettleOnlyUptoSaid : Prop := settleOnlyUptoRow.holds Try.pinned (OpenSpec.upto settleOnlySpec)

/-- 'windlasslaw15.SettleDone', WHERE WHAT IT READS IS OF BULK AT MOST 1048576: true; the input reads as it did. -/
def settleDoneUptoRow : OpenClaim := { program := "ytaeeflfhjmjpjaa", sum := "5953dc8e876293766ce8c0053ccfbd0d4b97deef4397603438288342fc888005", func := "windlass/windlasslaw15.SettleDone", spec := "settleDone", unfollowed := true, recurses := true, apart := false, narrowed := true }
def SettleDoneUptoSaid : Prop := settleDoneUptoRow.holds Try.pinned (OpenSpec.upto settleDoneSpec)

/-- 'windlasslaw15.SettleTells', WHERE WHAT IT READS IS OF BULK AT MOST 1048576: true; the input reads as it did. -/
def settleTellsUptoRow : OpenClaim := { program := "ytaeeflfhjmjpjaa", sum := "5953dc8e876293766ce8c0053ccfbd0d4b97deef4397603438288342fc888005", func := "windlass/windlasslaw15.SettleTells", spec := "settleTells", unfollowed := true, recurses := true, apart := false, narrowed := true }
def SettleTellsUptoSaid : Prop := settleTellsUptoRow.holds Try.pinned (OpenSpec.upto settleTellsSpec)

/-- 'windlasslaw15.SettlePlays', WHERE WHAT IT READS IS OF BULK AT MOST 1048576: true; the input reads as it did. -/
def settlePlaysUptoRow : OpenClaim := { program := "ytaeeflfhjmjpjaa", sum := "5953dc8e876293766ce8c0053ccfbd0d4b97deef4397603438288342fc888005", func := "windlass/windlasslaw15.SettlePlays", spec := "settlePlays", unfollowed := true, recurses := true, apart := false, narrowed := true }
def SettlePlaysUptoSaid : Prop := settlePlaysUptoRow.holds Try.pinned (OpenSpec.upto settlePlaysSpec)

/-- 'windlasslaw15.SettleFew', WHERE WHAT IT READS IS OF BULK AT MOST 1048576: true; the input reads as it did. -/
def settleFewUptoRow : OpenClaim := { program := "ytaeeflfhjmjpjaa", sum := "5953dc8e876293766ce8c0053ccfbd0d4b97deef4397603438288342fc888005", func := "windlass/windlasslaw15.SettleFew", spec := "settleFew", unfollowed := true, recurses := true, apart := false, narrowed := true }
def SettleFewUptoSaid : Prop := settleFewUptoRow.holds Try.pinned (OpenSpec.upto settleFewSpec)

/-- 'windlasslaw16.UpdateSteps', WHERE WHAT IT READS IS OF BULK AT MOST 1048576: true; the input reads as it did. -/
def updateStepsUptoRow : OpenClaim := { program := "ytaeeflfhjmjpjaa", sum := "5953dc8e876293766ce8c0053ccfbd0d4b97deef4397603438288342fc888005", func := "windlass/windlasslaw16.UpdateSteps", spec := "updateSteps", apart := false, narrowed := true }
def UpdateStepsUptoSaid : Prop := updateStepsUptoRow.holds Try.pinned (OpenSpec.upto updateStepsSpec)

/-- 'windlasslaw16.UpdateEnds', WHERE WHAT IT READS IS OF BULK AT MOST 1048576: true; the input reads as it did. -/
def updateEndsUptoRow : OpenClaim := { program := "ytaeeflfhjmjpjaa", sum := "5953dc8e876293766ce8c0053ccfbd0d4b97deef4397603438288342fc888005", func := "windlass/windlasslaw16.UpdateEnds", spec := "updateEnds", apart := false, narrowed := true }
def UpdateEndsUptoSaid : Prop := updateEndsUptoRow.holds Try.pinned (OpenSpec.upto updateEndsSpec)

/-- 'windlasslaw16.UpdateFails', WHERE WHAT IT READS IS OF BULK AT MOST 1048576: true; the input reads as it did. -/
def updateFailsUptoRow : OpenClaim := { program := "ytaeeflfhjmjpjaa", sum := "5953dc8e876293766ce8c0053ccfbd0d4b97deef4397603438288342fc888005", func := "windlass/windlasslaw16.UpdateFails", spec := "updateFails", apart := false, narrowed := true }
def UpdateFailsUptoSaid : Prop := updateFailsUptoRow.holds Try.pinned (OpenSpec.upto updateFailsSpec)

/-- 'windlasslaw16.UpdateOwn', WHERE WHAT IT READS IS OF BULK AT MOST 1048576: true; the input reads as it did. -/
def updateOwnUptoRow : OpenClaim := { program := "ytaeeflfhjmjpjaa", sum := "5953dc8e876293766ce8c0053ccfbd0d4b97deef4397603438288342fc888005", func := "windlass/windlasslaw16.UpdateOwn", spec := "updateOwn", apart := false, narrowed := true }
def UpdateOwnUptoSaid : Prop := updateOwnUptoRow.holds Try.pinned (OpenSpec.upto updateOwnSpec)

/-- 'windlasslaw16.UpdateCuts', WHERE WHAT IT READS IS OF BULK AT MOST 1048576: true; the input reads as it did. -/
def updateCutsUptoRow : OpenClaim := { program := "ytaeeflfhjmjpjaa", sum := "5953dc8e876293766ce8c0053ccfbd0d4b97deef4397603438288342fc888005", func := "windlass/windlasslaw16.UpdateCuts", spec := "updateCuts", unfollowed := true, recurses := true, apart := false, narrowed := true }
def UpdateCutsUptoSaid : Prop := updateCutsUptoRow.holds Try.pinned (OpenSpec.upto updateCutsSpec)

end Rows
end Go.Proofs.Ytaeeflfhjmjpjaa
