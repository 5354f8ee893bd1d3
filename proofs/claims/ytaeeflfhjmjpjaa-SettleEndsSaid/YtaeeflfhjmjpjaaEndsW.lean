/- SettleEnds, of whatever raw columns. -/
import Derived.Test.YtaeeflfhjmjpjaaEnds
namespace Go.Proofs.Ytaeeflfhjmjpjaa
open Go.RowKit SlRd
theorem settleEnds_walk (raw : List Cl) (vr : Value) (masks : List Int) (vm : Value) (w : World) (hr : Rd w 4 vr raw.length (raw.flatMap Cl.cs)) (hok : ∀ x ∈ raw, x.ok) (hrl : raw.length ≤ 140737488351232)
    (hm : Rd w 1 vm masks.length (IV masks)) (hmk : ∀ x ∈ masks, -9223372036854775808 ≤ x ∧ x ≤ 9223372036854775807) (hml : masks.length ≤ 140737488351232) :
    Calls Try.prog 3 #[vr, vm] w fun e w' => e = .returned (.bool true) ∧ Below w.heap.size w w' :=
  ends_loop ((six raw).map cKnown) ((six raw).map (cRec masks)) masks (eok_cols raw masks) vr vm w hm hml (Lib.hid hmk) (Lib.hid fun W hb => cols_given raw masks vr vm W (hr.below hb) (hm.below hb) hrl hml (Lib.hid hok) (Lib.hid hmk))
end Go.Proofs.Ytaeeflfhjmjpjaa
