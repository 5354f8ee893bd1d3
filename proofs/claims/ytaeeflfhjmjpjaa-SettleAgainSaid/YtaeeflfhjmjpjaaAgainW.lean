/- SettleAgain, of whatever raw columns. -/
import Derived.Test.YtaeeflfhjmjpjaaAgain
namespace Go.Proofs.Ytaeeflfhjmjpjaa
open Go.RowKit SlRd
theorem settleAgain_walk (raw : List Cl) (vr : Value) (mask far : Int) (w : World) (hr : Rd w 4 vr raw.length (raw.flatMap Cl.cs)) (hok : ∀ x ∈ raw, x.ok) (hrl : raw.length ≤ 140737488351232)
    (hmk : -9223372036854775808 ≤ mask ∧ mask ≤ 9223372036854775807) (hfr : -9223372036854775808 ≤ far ∧ far ≤ 9223372036854775807) :
    Calls Try.prog 4 #[vr, .int .i64 mask, .int .i64 far] w fun e w' => e = .returned (.bool true) ∧ Below w.heap.size w w' :=
  again_loop raw mask far vr w hr (Lib.hid hok) hrl hmk hfr
end Go.Proofs.Ytaeeflfhjmjpjaa
