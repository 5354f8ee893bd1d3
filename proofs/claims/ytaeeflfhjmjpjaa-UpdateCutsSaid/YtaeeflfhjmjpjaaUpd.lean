/- An update in memory: its object, State, Began. -/
import Derived.Test.YtaeeflfhjmjpjaaEqs
import Derived.Test.YtaeeflfhjmjpjaaApp
import Derived.Deep.QuietTactic
import Derived.BigQuiet
import Derived.Deep.DeepCutAuto
import Derived.Deep.CutRange
import Derived.Deep.CutBlock
namespace Go.Proofs.Ytaeeflfhjmjpjaa
open Go.RowKit SlRd
set_option linter.unusedVariables false

structure Pt where
  col : Int
  block : ByteArray
  op : Bool
  dn : Bool
instance : Inhabited Pt := ⟨⟨0, ⟨#[]⟩, false, false⟩⟩
@[reducible] def Pt.cs (p : Pt) : List Value := [.int .i64 p.col, .string p.block, .bool p.op, .bool p.dn]
structure Up where
  stripe : Int
  mask : Int
  e : Int
  s : Int
  parts : List Pt
  began : Bool
  failed : Bool
@[reducible] def Up.cells (u : Up) (v : Value) : Array Value := #[.int .i64 u.stripe, .int .i64 u.mask, .int .i64 u.e, .int .i64 u.s, v, .bool u.began, .bool u.failed]
/-- an update in memory: B is its struct's block, v the row of its parts -/
structure UO (W : World) (B : Nat) (v : Value) (u : Up) : Prop where
  h : Blk W B 86 (u.cells v)
  own : W.ownsRow 0 88 4 v u.parts.length (u.parts.flatMap Pt.cs)
/-- the blocks of an update -/
def US (B : Nat) (v : Value) : Nat → Prop := fun i => i = B ∨ v.ownBlock = some i
section
variable {W W' : World} {B : Nat} {v : Value} {u : Up}
theorem UO.below (h : UO W B v u) (hb : Below W.heap.size W W') : UO W' B v u := ⟨(hb.block B h.h.lt).trans h.h, owns_below h.own hb⟩
theorem UO.lt (h : UO W B v u) : ∀ i, US B v i → i < W.heap.size := by
  rintro i (rfl | hi)
  · exact h.h.lt
  · exact (owns_lt h.own i hi).2
theorem UO.form (h : UO W B v u) : ∃ a c, v = .slice a u.parts.length c := by
  rcases h.own.2 with ⟨rfl, h0⟩ | ⟨g, cap, cur, rfl, _⟩
  · exact ⟨none, 0, by rw [h0]⟩
  · exact ⟨_, _, rfl⟩
theorem UO.touch {S : Nat → Prop} (h : UO W B v u) (ht : SlRd.Touch S W W') (hd : ∀ i, US B v i → ¬ S i) : UO W' B v u :=
  ⟨ht.blk h.h (hd B (.inl rfl)), ht.owns h.own fun i hi => hd i (.inr hi)⟩
end
theorem below_al {w w' : World} (h : Below w.heap.size w w') (o : Obj) : Below w.heap.size w (w'.alloc o) := h.alloc h.size o

/-- how far it is -/
def stP (l : List Pt) : Int := if (l.any fun p => !p.op) then 0 else if (l.any fun p => !p.dn) then 1 else 2
def stU (u : Up) : Int := if u.failed then 3 else stP u.parts
def midU (l : List Pt) : Int := if (l.any fun p => !p.dn) then 1 else 2

set_option maxRecDepth 100000 in
set_option maxHeartbeats 1600000 in
theorem state_any {W : World} {B : Nat} {v : Value} {u : Up} (hu : UO W B v u) (hl : u.parts.length ≤ 1000) :
    Calls Try.prog 31 #[.pointer (some ⟨B, 0, none⟩)] W fun e w' => e = .returned (.int .i64 (stU u)) ∧ Below W.heap.size W w' := by
  obtain ⟨a, c, rfl⟩ := hu.form
  have h4 := hu.h.cell 4
  have h6 := hu.h.cell 6
  simp only [List.getElem?_toArray, List.getElem?_cons_zero, List.getElem?_cons_succ] at h4 h6
  have hr : Rd W 4 (.slice a u.parts.length c) u.parts.length (u.parts.flatMap Pt.cs) := Rd.of_owns hu.own
  clear hu
  unfold stU
  generalize u.parts = l at *
  generalize u.failed = fl at *
  go_enter Try.func31, Try.ntmps31
  cases fl
  · go_wp2_with fail
    go_loopw [3, 15] (fun m i wr => ∃ k : Nat, k ≤ l.length ∧ i = .int .i64 k ∧ m = .int .i64 (midU (l.take k)) ∧ Hid ((l.take k).any (fun p => !p.op) = false) ∧ Below W.heap.size W wr) (fun _ i _ => l.length - (intOf i).toNat)
    case atStart => exact ⟨0, Nat.zero_le _, rfl, rfl, Lib.hid rfl, Below.refl _ _⟩
    case round =>
      obtain ⟨k, hk, rfl, rfl, HA, hbl⟩ := hrel
      by_cases hlt : k < l.length
      · obtain ⟨b, o, rfl, hb1, hc1⟩ := Rd.atk Pt.cs (fun _ => rfl) (hr.below hbl) rfl k hlt
        have ht := Lib.hid (List.take_succ_eq_append_getElem hlt)
        have hm := Lib.hid (List.getElem_mem hlt)
        generalize l[k] = x at hc1 ht hm
        obtain ⟨xc, xb, xo, xd⟩ := x
        have p0 := hc1 0 (by omega); have p1 := hc1 1 (by omega); have p2 := hc1 2 (by omega); have p3 := hc1 3 (by omega)
        simp only [Pt.cs, List.getElem?_cons_zero, List.getElem?_cons_succ, Nat.add_zero] at p0 p1 p2 p3
        have hbl' := below_al hbl (.cells #[.int .i64 xc, .string xb, .bool xo, .bool xd] 88)
        clear hc1 hr
        cases xo
        · have HR : Hid (stP l = 0) := Lib.hid (by
            unfold stP
            rw [if_pos (List.any_eq_true.2 ⟨_, hm.out, rfl⟩)])
          go_wp2_with fail
          go_ret
          exact ⟨by simp only; rw [HR.out]; rfl, hbl'⟩
        · have HA2 : Hid ((l.take (k + 1)).any (fun p => !p.op) = false) := Lib.hid (by rw [ht.out, List.any_append, HA.out]; rfl)
          cases xd
          · have HM : Hid (midU (l.take (k + 1)) = 1) := Lib.hid (by
              unfold midU
              rw [ht.out, List.any_append, if_pos (by simp)])
            go_wp2_with fail
            go_roundw
            case rel => exact ⟨k + 1, by omega, by go_num, by rw [HM.out], HA2, hbl'⟩
            case measure => simp [intOf]; omega
          · have HM : Hid (midU (l.take (k + 1)) = midU (l.take k)) := Lib.hid (by
              unfold midU
              rw [ht.out, List.any_append]
              simp)
            go_wp2_with fail
            go_roundw
            case rel => exact ⟨k + 1, by omega, by go_num, by rw [HM.out], HA2, hbl'⟩
            case measure => simp [intOf]; omega
      · obtain rfl : k = l.length := by omega
        rw [List.take_length] at HA ⊢
        have HR : Hid (stP l = midU l) := Lib.hid (by unfold stP midU; rw [HA.out]; rfl)
        go_wp2_with fail
        go_ret
        exact ⟨by simp only; rw [HR.out]; rfl, hbl⟩
  · go_wp2_with fail
    go_ret
    exact ⟨by simp, Below.refl _ _⟩

theorem began_any {W : World} {B : Nat} {v : Value} {u : Up} (hu : UO W B v u) :
    Calls Try.prog 37 #[.pointer (some ⟨B, 0, none⟩)] W fun e w' => e = .returned (.bool u.began) ∧ W = w' := by
  have h5 := hu.h.cell 5
  simp only [List.getElem?_toArray, List.getElem?_cons_zero, List.getElem?_cons_succ] at h5
  clear hu
  go_enter Try.func37, Try.ntmps37
  go_wp2_with fail
  go_ret
  exact ⟨rfl, rfl⟩
end Go.Proofs.Ytaeeflfhjmjpjaa
