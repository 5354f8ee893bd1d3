/- The walk of settle.taking. -/
import Derived.Test.YtaeeflfhjmjpjaaRec
import Derived.Test.YtaeeflfhjmjpjaaSlRd
import Derived.Deep.DeepCutAuto
namespace Go.Proofs.Ytaeeflfhjmjpjaa
open Go.RowKit SlRd
set_option linter.unusedVariables false

theorem info3 : (Try.prog.info? 3).map (fun i => (i.zero, i.size, i.bytes)) = some (some (.int .i64 0), 1, 8) := by kernel_rfl

/-- does a column take part? -/
def bitAt (mask : Int) (i : Nat) : Bool := mask / 2 ^ i % 2 == 1
/-- the columns below k that are known and of the mask -/
def TK (kn : List Bool) (mask : Int) (k : Nat) : List Nat := (List.range k).filter fun i => kn.getD i false && bitAt mask i
/-- numbers as values -/
def NV (l : List Nat) : List Value := l.map fun (i : Nat) => Value.int .i64 (i : Int)

theorem TK_hit (kn : List Bool) (mask : Int) (k : Nat) (h : (kn.getD k false && bitAt mask k) = true) : TK kn mask (k + 1) = TK kn mask k ++ [k] := by
  unfold TK
  rw [List.range_succ, List.filter_append, List.filter_cons, if_pos h]
  rfl
theorem TK_miss (kn : List Bool) (mask : Int) (k : Nat) (h : (kn.getD k false && bitAt mask k) = false) : TK kn mask (k + 1) = TK kn mask k := by
  unfold TK
  rw [List.range_succ, List.filter_append, List.filter_cons, if_neg (by rw [h]; simp)]
  simp
theorem TK_le (kn : List Bool) (mask : Int) (k : Nat) : (TK kn mask k).length ≤ k := by
  unfold TK
  exact Nat.le_trans (List.length_filter_le _ _) (by simp)

theorem and_one (x : Int) : bits .and .i64 x 1 = x % 2 := by
  show IntKind.i64.wrap (((BitVec.ofInt 64 x &&& BitVec.ofInt 64 1).toNat : Nat) : Int) = _
  have e : (BitVec.ofInt 64 x &&& BitVec.ofInt 64 1).toNat = (x % 2).toNat := by
    rw [BitVec.toNat_and]
    have h1 : (BitVec.ofInt 64 1).toNat = 1 := by decide
    rw [h1, Nat.and_one_is_mod, BitVec.toNat_ofInt]
    omega
  rw [e]
  have h2 : ((x % 2).toNat : Int) = x % 2 := by omega
  rw [h2]
  exact IntWalk.i64_in _ ⟨by omega, by omega⟩

set_option maxRecDepth 100000 in
theorem taking_any (kn : List Bool) (nl N : Nat) (mask : Int) (vk : Value) (al : Option Addr) (cl : Nat) (w : World) (hk : Rd w 1 vk kn.length (kn.map Value.bool)) (hm : -9223372036854775808 ≤ mask ∧ mask ≤ 9223372036854775807)
    (hN : N = min (min kn.length nl) 6) (hkl : kn.length ≤ 140737488351232) (hnl : nl ≤ 140737488351232) :
    Calls Try.prog 41 #[vk, .slice al nl cl, .int .i64 mask] w fun e w' => ∃ v, e = .returned v ∧ w'.ownsRow w.heap.size 3 1 v (TK kn mask N).length (NV (TK kn mask N)) ∧ Below w.heap.size w w' := by
  obtain ⟨hl, ak, ck, rfl, hkc⟩ := hk
  have HN := Lib.hid hN
  clear hN
  obtain ⟨i0, hi, hz0, hz1, hz2⟩ := info_parts info3
  go_enter Try.func41, Try.ntmps41
  go_upto_region 2 with fail
  go_cut [13, 14] (fun s13 s14 wx => s13 = .int .i64 (N : Int) ∧ s14 = .int .i64 0 ∧ wx = w)
  case first =>
    go_wp2_with fail
    all_goals (go_meet; exact ⟨congrArg (Value.int .i64) (by have := HN.out; omega), rfl, rfl⟩)
  case rest =>
    obtain ⟨rfl, rfl, rfl⟩ := hcut
    go_wp2_with fail
    go_loopw [7, 14] (fun v i wr => ∃ k : Nat, k ≤ N ∧ i = .int .i64 k ∧ wr.ownsRow wc.heap.size 3 1 v (TK kn mask k).length (NV (TK kn mask k)) ∧ Below wc.heap.size wc wr) (fun _ i _ => N - (intOf i).toNat)
    case atStart => exact ⟨0, Nat.zero_le _, rfl, World.ownsRow_nil _ _ _ _, Below.refl _ _⟩
    case round =>
      obtain ⟨k, hk, rfl, hown, hb⟩ := hrel
      by_cases hlt : k < N
      · have hkn : k < kn.length := by have := HN.out; omega
        have hk6 : k < 6 := by have := HN.out; omega
        obtain ⟨b, o, rfl, hbw, hc⟩ := hkc (by omega)
        have hck : wr.cell? ⟨b, o + k, none⟩ = some (.bool (kn.getD k false)) := by
          rw [hb.cell (p := ⟨b, o + k, none⟩) hbw, hc k (by omega), List.getElem?_map, List.getElem?_eq_getElem hkn, List.getD_eq_getElem?_getD, List.getElem?_eq_getElem hkn]
          rfl
        generalize hx : kn.getD k false = x at hck
        have HX := Lib.hid hx
        clear hx hc hkc
        cases x
        · have hm2 := TK_miss kn mask k (by rw [HX.out]; rfl)
          have HM := Lib.hid hm2
          clear hm2
          go_wp2_with fail
          go_roundw
          case rel => exact ⟨k + 1, by omega, by go_num, by rw [HM.out]; exact hown, hb⟩
          case measure => simp [intOf]; omega
        · have hand := and_one (mask / 2 ^ k)
          cases hbit : (mask / 2 ^ k % 2 == 1)
          · have HM := Lib.hid (TK_miss kn mask k (by rw [HX.out]; exact hbit))
            go_wp2_with fail
            go_roundw
            case rel => exact ⟨k + 1, by omega, by go_num, by rw [HM.out]; exact hown, hb⟩
            case measure => simp [intOf]; omega
          · have HM := Lib.hid (TK_hit kn mask k (by rw [HX.out]; exact hbit))
            have hle := TK_le kn mask k
            go_wp2_with (at_builtin; refine wpList_append_own _ rfl _ _ 23 rfl wc.heap.size 3 i0 (.int .i64 0) 1 8 Try.underlying23 hi hz0 hz1 hz2 rfl (by decide) _ _ _ rfl (hown.alloc _) ⟨wr.heap.size, 0, none⟩ 1 1 [.int .i64 (k : Int)] rfl rfl ?c1 ?c2 ?c3 ?c4 ?c5 ?_)
            case c1 =>
              intro j u hj
              match j, hj with
              | 0, hj => simp at hj; subst hj; simp [Addr.add]
            case c2 => intro u hu; simp at hu; subst hu; rfl
            case c3 => unfold maxLen; omega
            case c4 => omega
            case c5 => have := hb.size; simp; omega
            · intro v' w1 hown' hgrow _
              have HO : Hid (w1.ownsRow wc.heap.size 3 1 v' (TK kn mask (k + 1)).length (NV (TK kn mask (k + 1)))) := by
                show World.ownsRow _ _ _ _ _ _ _
                rw [HM.out, List.length_append, NV, List.map_append]
                exact hown'
              have HB := Lib.hid ((hb.alloc hb.size (.cells #[.int .i64 (k : Int)] 3)).grown hgrow (by have := hb.size; simp; omega) (fun q hq => (owns_lt hown q hq).1))
              clear hown' hgrow hown hb
              go_wp2_with fail
              go_roundw
              case rel => exact ⟨k + 1, by omega, by go_num, HO.out, HB.out⟩
              case measure => simp [intOf]; omega
      · obtain rfl : k = N := by omega
        go_wp2_with fail
        go_ret
        exact ⟨_, rfl, hown, hb⟩
end Go.Proofs.Ytaeeflfhjmjpjaa
