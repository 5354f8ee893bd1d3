/- The walk of Events: events out of raw ones. -/
import Derived.Test.YtojgibinokmmeaaRaw
namespace Go.Proofs.Ytojgibinokmmeaa
open Go.RowKit SlRd Lin
set_option linter.unusedVariables false

def evsOf (raw : List Raw) (m : Nat) : List Lin.Ev := (raw.take m).map evOf
theorem evsOf_length (raw : List Raw) (m : Nat) : (evsOf raw m).length = min m raw.length := by simp [evsOf]
theorem evsOf_succ (raw : List Raw) (k : Nat) (h : k < raw.length) : evsOf raw (k + 1) = evsOf raw k ++ [evOf raw[k]] := by
  unfold evsOf
  rw [List.take_succ_eq_append_getElem h, List.map_append]
  rfl
theorem evsOf_all (raw : List Raw) (m : Nat) (h : raw.length ≤ m) : evsOf raw raw.length = evsOf raw m := by
  unfold evsOf
  rw [List.take_of_length_le (Nat.le_refl _), List.take_of_length_le h]

set_option maxRecDepth 100000 in
set_option maxHeartbeats 1600000 in
theorem events_any (raw : List Raw) (vr : Value) (m : Nat) (hm : m ≤ 100) (w : World) (hr : Rd w 5 vr raw.length (raw.flatMap Raw.cs)) (hok : ∀ x ∈ raw, x.ok) (hrl : raw.length ≤ 140737488351232) :
    Calls Try.prog 15 #[vr, .int .i64 m] w fun e w' => ∃ v, e = .returned v ∧ w'.ownsRow w.heap.size 31 8 v (evsOf raw m).length ((evsOf raw m).flatMap Ecs) ∧ Below w.heap.size w w' := by
  obtain ⟨a, c, rfl⟩ : ∃ a c, vr = .slice a raw.length c := by obtain ⟨_, a, c, rfl, _⟩ := hr; exact ⟨_, _, rfl⟩
  obtain ⟨i0, hi0, hz0, hz1, hz2⟩ := info_parts info31
  have HOK := Lib.hid hok
  clear hok
  go_enter Try.func15, Try.ntmps15
  go_wp2_with fail
  go_loopw [5, 6] (fun v i wr => ∃ k : Nat, k ≤ raw.length ∧ k ≤ m ∧ i = .int .i64 k ∧ wr.ownsRow w.heap.size 31 8 v (evsOf raw k).length ((evsOf raw k).flatMap Ecs) ∧ Below w.heap.size w wr) (fun _ i _ => raw.length - (intOf i).toNat)
  case atStart => exact ⟨0, Nat.zero_le _, Nat.zero_le _, rfl, World.ownsRow_nil _ _ _ _, Below.refl _ _⟩
  case round =>
    obtain ⟨k, hk, hkm, rfl, hown, hb⟩ := hrel
    have hlen : (evsOf raw k).length ≤ k := by rw [evsOf_length]; omega
    by_cases hlt : k < raw.length ∧ k < m
    · obtain ⟨hlt, hlt2⟩ := hlt
      obtain ⟨b, o, rfl, hb0, hc0⟩ := Rd.atk Raw.cs (fun _ => rfl) (hr.below hb) rfl k hlt
      have HS := Lib.hid (evsOf_succ raw k hlt)
      have HX := Lib.hid (fun W => raw_any raw[k] (HOK.out _ (List.getElem_mem hlt)) W)
      generalize raw[k] = x at hc0 HS HX
      generalize evOf x = E at HS HX
      obtain ⟨rk, rl, rb, rg, rh⟩ := x
      have p0 := hc0 0 (by omega); have p1 := hc0 1 (by omega); have p2 := hc0 2 (by omega); have p3 := hc0 3 (by omega); have p4 := hc0 4 (by omega)
      simp only [Raw.cs, List.getElem?_cons_zero, List.getElem?_cons_succ, Nat.add_zero] at p0 p1 p2 p3 p4
      generalize evsOf raw k = cs at hown hlen HS
      obtain ⟨ep, eb, ee, ⟨ek, ea, ed⟩, er, et⟩ := E
      clear hc0 hr
      go_wp2_with fail
      refine (HX.out _).mono ?_; rintro e w2 ⟨rfl, hb2⟩
      have own2 := owns_below hown hb2
      have hb12 := below_then hb hb2
      clear hown hb hb2 p0 p1 p2 p3 p4 hb0
      go_wp2_with (at_builtin; refine wpList_append_own _ rfl _ _ 25 rfl w.heap.size 31 i0 _ 8 80 Try.underlying25 hi0 hz0 hz1 hz2 rfl (by decide) _ _ _ rfl (own2.alloc _) ⟨w2.heap.size, 0, none⟩ 1 1 (Ecs ⟨ep, eb, ee, ⟨ek, ea, ed⟩, er, et⟩) rfl rfl ?c1 ?c2 ?c3 ?c4 ?c5 ?_)
      case c1 =>
        intro j u hj
        rw [Go.WideShapes.add_plain, Nat.zero_add, World.cell?_alloc_at _ _ _ _ rfl]
        simpa using hj
      case c2 => exact ev_one _
      case c3 => unfold maxLen; omega
      case c4 => omega
      case c5 => have := hb12.size; simp; omega
      · intro v' w8 hown' hgrow _
        have HO : Hid (w8.ownsRow w.heap.size 31 8 v' (evsOf raw (k + 1)).length ((evsOf raw (k + 1)).flatMap Ecs)) := by
          show World.ownsRow _ _ _ _ _ _ _
          rw [HS.out, List.length_append, List.flatMap_append, List.flatMap_singleton]
          exact hown'
        have HB := Lib.hid ((below_al hb12 _).grown hgrow (by have := hb12.size; simp; omega) (fun q hq => (owns_lt own2 q hq).1))
        clear hown' hgrow own2 hb12
        go_wp2_with fail
        go_roundw
        case rel => exact ⟨k + 1, by omega, by omega, by go_num, HO.out, HB.out⟩
        case measure => simp [intOf]; omega
    · have hfin : k = raw.length ∨ (k < raw.length ∧ k = m) := by omega
      have HE : Hid (evsOf raw k = evsOf raw m) := Lib.hid (by
        rcases hfin with h | ⟨_, h⟩
        · rw [h]; exact evsOf_all raw m (by omega)
        · rw [h])
      clear hr
      rcases hfin with h | ⟨h1, h2⟩
      · subst h
        go_wp2_with fail
        go_ret
        exact ⟨_, rfl, HE.out ▸ hown, hb⟩
      · subst h2
        go_wp2_with fail
        go_ret
        exact ⟨_, rfl, hown, hb⟩

theorem events9 (raw : List Raw) (vr : Value) (hok : ∀ x ∈ raw, x.ok) (hrl : raw.length ≤ 140737488351232) (w : World) (hr : Rd w 5 vr raw.length (raw.flatMap Raw.cs)) :
    Calls Try.prog 15 #[vr, .int .i64 9] w fun e w' => ∃ v, e = .returned v ∧ w'.ownsRow w.heap.size 31 8 v (evsOf raw 9).length ((evsOf raw 9).flatMap Ecs) ∧ Below w.heap.size w w' := events_any raw vr 9 (by omega) w hr hok hrl
theorem events5 (raw : List Raw) (vr : Value) (hok : ∀ x ∈ raw, x.ok) (hrl : raw.length ≤ 140737488351232) (w : World) (hr : Rd w 5 vr raw.length (raw.flatMap Raw.cs)) :
    Calls Try.prog 15 #[vr, .int .i64 5] w fun e w' => ∃ v, e = .returned v ∧ w'.ownsRow w.heap.size 31 8 v (evsOf raw 5).length ((evsOf raw 5).flatMap Ecs) ∧ Below w.heap.size w w' := events_any raw vr 5 (by omega) w hr hok hrl
theorem events10 (raw : List Raw) (vr : Value) (hok : ∀ x ∈ raw, x.ok) (hrl : raw.length ≤ 140737488351232) (w : World) (hr : Rd w 5 vr raw.length (raw.flatMap Raw.cs)) :
    Calls Try.prog 15 #[vr, .int .i64 10] w fun e w' => ∃ v, e = .returned v ∧ w'.ownsRow w.heap.size 31 8 v (evsOf raw 10).length ((evsOf raw 10).flatMap Ecs) ∧ Below w.heap.size w w' := events_any raw vr 10 (by omega) w hr hok hrl
end Go.Proofs.Ytojgibinokmmeaa
