/- Plain facts and the small walks of the document's layer 15: which columns are known, which take part. -/
import Derived.Test.YtaeeflfhjmjpjaaDoneP
namespace Go.Proofs.Ytaeeflfhjmjpjaa
open Go.RowKit SlRd
set_option linter.unusedVariables false

def KN (kn : List Bool) (l : List Rc) (c : Nat) : Bool := decide (c < many kn l) && kn.getD c false
def RK (kn : List Bool) (l : List Rc) (mask : Int) (k : Nat) : List Nat := (List.range k).filter fun c => KN kn l c && bitAt mask c
theorem many_le (kn : List Bool) (l : List Rc) : many kn l ≤ kn.length ∧ many kn l ≤ l.length ∧ many kn l ≤ 6 := by unfold many; omega
theorem filter_more {p : Nat → Bool} {n m : Nat} (h : n ≤ m) (hp : ∀ i, n ≤ i → p i = false) : (List.range m).filter p = (List.range n).filter p := by
  induction m with
  | zero => rw [show n = 0 by omega]
  | succ m ih =>
    by_cases e : n = m + 1
    · rw [e]
    · rw [List.range_succ, List.filter_append, ih (by omega), List.filter_cons, hp m (by omega)]
      simp
theorem RK_cols (kn : List Bool) (l : List Rc) (mask : Int) : RK kn l mask 6 = cols kn l mask := by
  unfold RK cols TK
  rw [filter_more (many_le kn l).2.2 (fun i hi => by unfold KN; rw [decide_eq_false (by omega)]; rfl)]
  refine List.filter_congr fun i hi => ?_
  rw [List.mem_range] at hi
  unfold KN
  rw [decide_eq_true hi]
  rfl
theorem RK_hit {kn : List Bool} {l : List Rc} {mask : Int} {k : Nat} (h : (KN kn l k && bitAt mask k) = true) : RK kn l mask (k + 1) = RK kn l mask k ++ [k] := by
  unfold RK
  rw [List.range_succ, List.filter_append, List.filter_cons, if_pos h]
  rfl
theorem RK_miss {kn : List Bool} {l : List Rc} {mask : Int} {k : Nat} (h : (KN kn l k && bitAt mask k) = false) : RK kn l mask (k + 1) = RK kn l mask k := by
  unfold RK
  rw [List.range_succ, List.filter_append, List.filter_cons, if_neg (by rw [h]; simp)]
  simp
theorem FW_RK (kn : List Bool) (l : List Rc) (t : Tg) (mask : Int) : FW kn l t mask = ((RK kn l mask 6).any (fun i => doneP t (l.getD i default)) || ((RK kn l mask 6).any (fun _ => true) && !(RK kn l mask 6).any (fun i => !openP t (l.getD i default)))) := by
  unfold FW yes
  rw [RK_cols, any_filter, all_filter, any_true]
theorem DN_RK (kn : List Bool) (l : List Rc) (t : Tg) : DN kn l t = (RK kn l 63 6).any (fun i => doneP t (l.getD i default)) := by
  unfold DN yes
  rw [RK_cols, any_filter]
theorem asked_RK (kn : List Bool) (l : List Rc) : asked kn l = (List.range 6).filter fun c => KN kn l c && (l.getD c default).op := by
  unfold asked yes
  rw [← RK_cols]
  unfold RK
  rw [List.filter_filter]
  refine List.filter_congr fun i hi => ?_
  rw [List.mem_range] at hi
  rw [bit63 i hi, Bool.and_true, Bool.and_comm]

set_option maxHeartbeats 800000 in
theorem isKnown_any {w : World} {kn : List Bool} {l : List Rc} {vk vl : Value} (h : Given w kn l vk vl) (c : Nat) (hc : c < 6) :
    Calls Try.prog 45 #[vk, vl, .int .i64 c] w fun e w' => e = .returned (.bool (KN kn l c)) ∧ w = w' := by
  obtain ⟨al, cl, rfl⟩ : ∃ a c, vl = .slice a l.length c := by obtain ⟨_, a, c, rfl, _⟩ := h.rl; exact ⟨_, _, rfl⟩
  obtain ⟨ak, ck, rfl⟩ : ∃ a c, vk = .slice a kn.length c := by obtain ⟨_, a, c, rfl, _⟩ := h.rk; exact ⟨_, _, rfl⟩
  have hk := h.bk
  have hl := h.bl
  go_enter Try.func45, Try.ntmps45
  by_cases h1 : c < kn.length
  · by_cases h2 : c < l.length
    · have hE : Hid (KN kn l c = kn.getD c false) := by show _ = _; unfold KN; rw [decide_eq_true (by unfold many; omega)]; rfl
      obtain ⟨b1, o1, rfl, hb1, hk1⟩ := h.rk.at1 c h1
      rw [List.getElem?_map, List.getElem?_eq_getElem h1] at hk1
      have hkd : kn.getD c false = kn[c] := by rw [List.getD_eq_getElem?_getD, List.getElem?_eq_getElem h1]; rfl
      rw [hkd] at hE
      simp only [Option.map_some] at hk1
      generalize kn[c] = x at hk1 hE
      clear hkd
      have i1 : (c : Int) < (kn.length : Int) := by omega
      have i2 : (c : Int) < (l.length : Int) := by omega
      have i3 : (0 : Int) ≤ (c : Int) := by omega
      go_wp2_with fail
      go_ret
      exact ⟨by rw [hE.out]; rfl, rfl⟩
    · have hE : Hid (KN kn l c = false) := by show _ = _; unfold KN; rw [decide_eq_false (by unfold many; omega)]; rfl
      go_wp2_with fail
      go_ret
      exact ⟨by rw [hE.out]; rfl, rfl⟩
  · have hE : Hid (KN kn l c = false) := by show _ = _; unfold KN; rw [decide_eq_false (by unfold many; omega)]; rfl
    go_wp2_with fail
    go_ret
    exact ⟨by rw [hE.out]; rfl, rfl⟩

theorem pows : ((2 : Int) ^ 0 = 1 ∧ (2 : Int) ^ 1 = 2 ∧ (2 : Int) ^ 2 = 4 ∧ (2 : Int) ^ 3 = 8 ∧ (2 : Int) ^ 4 = 16 ∧ (2 : Int) ^ 5 = 32 ∧ (2 : Int) ^ 6 = 64) := by decide
theorem bit_mod (mask : Int) (c : Nat) (h : c < 6) : (mask % 64 / 2 ^ c % 2 == 1) = bitAt mask c := by
  unfold bitAt
  obtain ⟨p0, p1, p2, p3, p4, p5, p6⟩ := pows
  rcases (show c = 0 ∨ c = 1 ∨ c = 2 ∨ c = 3 ∨ c = 4 ∨ c = 5 from by omega) with rfl | rfl | rfl | rfl | rfl | rfl <;>
    (rw [Bool.eq_iff_iff, beq_iff_eq, beq_iff_eq]; simp only [p0, p1, p2, p3, p4, p5]; omega)
theorem half_step (m : Int) (i : Nat) (h : i < 6) : m / 2 ^ i / 2 = m / 2 ^ (i + 1) := by
  obtain ⟨p0, p1, p2, p3, p4, p5, p6⟩ := pows
  rcases (show i = 0 ∨ i = 1 ∨ i = 2 ∨ i = 3 ∨ i = 4 ∨ i = 5 from by omega) with rfl | rfl | rfl | rfl | rfl | rfl <;>
    (simp only [Nat.zero_add, Nat.reduceAdd, p0, p1, p2, p3, p4, p5, p6]; omega)
theorem tmod_bd (m : Int) : -63 ≤ m.tmod 64 ∧ m.tmod 64 ≤ 63 := by
  by_cases h : 0 ≤ m
  · rw [Int.tmod_eq_emod_of_nonneg h]; omega
  · have e : m.tmod 64 = -((-m).tmod 64) := by rw [Int.neg_tmod, Int.neg_neg]
    rw [e, Int.tmod_eq_emod_of_nonneg (by omega)]; omega
theorem tmod_mod (m : Int) : (m.tmod 64 + 64) % 64 = m % 64 := by
  by_cases h : 0 ≤ m
  · rw [Int.tmod_eq_emod_of_nonneg h]; omega
  · have e : m.tmod 64 = -((-m).tmod 64) := by rw [Int.neg_tmod, Int.neg_neg]
    rw [e, Int.tmod_eq_emod_of_nonneg (by omega)]; omega

theorem bit_any (mask : Int) (c : Nat) (hc : c < 6) (w : World) (hm : -9223372036854775808 ≤ mask ∧ mask ≤ 9223372036854775807) :
    Calls Try.prog 46 #[.int .i64 mask, .int .i64 c] w fun e w' => e = .returned (.bool (bitAt mask c)) ∧ w = w' := by
  have HB := Lib.hid (bit_mod mask c hc)
  obtain ⟨x1, x2⟩ := tmod_bd mask
  have HT := Lib.hid (tmod_mod mask)
  have n1 : 0 ≤ mask % 64 := by omega
  have n2 : mask % 64 < 64 := by omega
  go_enter Try.func46, Try.ntmps46
  go_wp2_with fail
  go_loop [5, 6] (fun m i => ∃ k : Nat, k ≤ c ∧ i = .int .i64 k ∧ m = .int .i64 (mask % 64 / 2 ^ k)) (fun _ i => c - (intOf i).toNat)
  case atStart => exact ⟨0, Nat.zero_le _, rfl, by rw [← HT.out]; simp⟩
  case round =>
    obtain ⟨k, hk, rfl, rfl⟩ := hrel
    have hp := (two_pow_bd k (by omega)).1
    have h0 : 0 ≤ mask % 64 / 2 ^ k := Int.ediv_nonneg n1 (by omega)
    have h1 : mask % 64 / 2 ^ k ≤ 64 := Int.le_trans (Int.ediv_le_self _ n1) (by omega)
    by_cases hlt : k < c
    · have HS := Lib.hid (half_step (mask % 64) k (by omega))
      go_wp2_with fail
      go_round
      case rel => exact ⟨k + 1, by omega, by go_num, by rw [← HS.out]⟩
      case measure => simp [intOf]; omega
    · obtain rfl : k = c := by omega
      go_wp2_with fail
      go_ret
      exact ⟨by rw [← HB.out]; rfl, rfl⟩
end Go.Proofs.Ytaeeflfhjmjpjaa
