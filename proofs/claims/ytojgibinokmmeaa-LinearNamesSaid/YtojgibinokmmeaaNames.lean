/- The walk of LinearNames. -/
import Derived.Test.YtojgibinokmmeaaEvents
namespace Go.Proofs.Ytojgibinokmmeaa
open Go.RowKit SlRd Lin
set_option linter.unusedVariables false

def gOf (more s : ByteArray) : ByteArray := more ++ s ++ ⟨#[33]⟩
def nmOf (more : ByteArray) (x : Lin.Ev) : Lin.Ev := if x.op.kind = 2 then { x with op := { x.op with data := gOf more x.op.data } } else { x with data := gOf more x.data }
theorem gOf_inj (more a b : ByteArray) (h : gOf more a = gOf more b) : a = b := by
  have h1 : (gOf more a).data.toList = (gOf more b).data.toList := by rw [h]
  unfold gOf at h1
  simp only [ByteArray.data_append, Array.toList_append, List.append_assoc] at h1
  have h2 := List.append_cancel_left h1
  have h3 := List.append_cancel_right h2
  obtain ⟨⟨x⟩⟩ := a
  obtain ⟨⟨y⟩⟩ := b
  simp only at h3
  rw [h3]
theorem gOf_nil (more : ByteArray) : gOf more ⟨#[]⟩ = more ++ ⟨#[33]⟩ := by
  unfold gOf
  have : more ++ (⟨#[]⟩ : ByteArray) = more := by
    apply toList_inj
    rw [ByteArray.toList_eq, ByteArray.toList_eq, ByteArray.data_append]
    simp
  rw [this]
theorem nm_facts (more : ByteArray) (y : Lin.Ev) : sure (nmOf more y) = sure y ∧ (nmOf more y).op.kind = y.op.kind ∧ (nmOf more y).begin_ = y.begin_ ∧ (nmOf more y).end_ = y.end_ ∧ (y.op.kind = 2 → (nmOf more y).op.data = gOf more y.op.data) ∧ (y.op.kind ≠ 2 → (nmOf more y).data = gOf more y.data) := by
  unfold nmOf
  split
  · exact ⟨rfl, rfl, rfl, rfl, fun _ => rfl, fun h => absurd (by assumption) h⟩
  · exact ⟨rfl, rfl, rfl, rfl, fun h => absurd h (by assumption), fun _ => rfl⟩
theorem nm_cnt (more : ByteArray) (y : Lin.Ev) : cnt (nmOf more y) = cnt y := by
  obtain ⟨h1, h2, h3, h4, _⟩ := nm_facts more y
  have h5 : (nmOf more y).err = y.err := by unfold nmOf; split <;> rfl
  unfold cnt
  rw [h1, h2, h4, h5]
theorem chk_names (more : ByteArray) (l : List Lin.Ev) : chk (more ++ ⟨#[33]⟩) (l.map (nmOf more)) = chk ⟨#[]⟩ l := by
  have hf : (l.map (nmOf more)).filter cnt = (l.filter cnt).map (nmOf more) := by
    rw [List.filter_map]
    congr 1
    apply List.filter_congr
    intro y _
    exact nm_cnt more y
  rw [Bool.eq_iff_iff, chk_iff, chk_iff, hf, List.length_map, ← gOf_nil]
  have := names (gOf more) (gOf_inj more) (nmOf more) _ ⟨#[]⟩ (l.filter cnt) rfl (fun y _ => nm_facts more y)
  rw [this]

theorem lett_size (n : Nat) : (lett n).size ≤ 1 := by
  unfold lett
  repeat' split
  all_goals decide
theorem ev_small (x : Raw) : (evOf x).op.data.size ≤ 1 ∧ (evOf x).data.size ≤ 1 := by
  unfold evOf
  simp only
  split
  · exact ⟨by decide, lett_size _⟩
  · exact ⟨lett_size _, by decide⟩
theorem evs_small (raw : List Raw) (m : Nat) : ∀ x ∈ evsOf raw m, x.op.data.size ≤ 1 ∧ x.data.size ≤ 1 := by
  intro x hx
  obtain ⟨y, _, rfl⟩ := List.mem_map.1 hx
  exact ev_small y

set_option maxRecDepth 100000 in
set_option maxHeartbeats 1600000 in
theorem linearNames_walk (raw : List Raw) (vr : Value) (more : ByteArray) (w : World) (hr : Rd w 5 vr raw.length (raw.flatMap Raw.cs)) (hok : ∀ x ∈ raw, x.ok) (hrl : raw.length ≤ 140737488351232) (hml : more.size ≤ 140737488351232) :
    Calls Try.prog 9 #[vr, .string more] w fun e w' => e = .returned (.bool true) ∧ Below w.heap.size w w' := by
  obtain ⟨i0, hi0, hz0, hz1, hz2⟩ := info_parts info31
  have HEV := Lib.hid (events9 raw vr hok hrl)
  have hl9 : (evsOf raw 9).length ≤ 9 := by rw [evsOf_length]; omega
  have HSM := Lib.hid (evs_small raw 9)
  generalize evsOf raw 9 = l at HEV hl9 HSM
  go_enter Try.func9, Try.ntmps9
  go_wp2_with fail
  refine (awake_any _).mono ?_; rintro e w1 ⟨rfl, hb1⟩
  go_wp2_with fail
  refine (HEV.out _ (hr.below hb1)).mono ?_; rintro e w2 ⟨v2, rfl, own2, hb2⟩
  have r2 := Rd.of_owns own2
  obtain ⟨al, cl, rfl⟩ : ∃ a c, v2 = .slice a l.length c := by obtain ⟨_, a, c, hv, _⟩ := r2; exact ⟨a, c, hv⟩
  have hb12 := below_then hb1 hb2
  clear own2 hb1 hb2 hr
  go_wp2_with fail
  go_loopw [7, 8] (fun v i wr => ∃ k : Nat, k ≤ l.length ∧ i = .int .i64 k ∧ wr.ownsRow w2.heap.size 31 8 v k (((l.take k).map (nmOf more)).flatMap Ecs) ∧ Below w2.heap.size w2 wr) (fun _ i _ => l.length - (intOf i).toNat)
  case atStart => exact ⟨0, Nat.zero_le _, rfl, World.ownsRow_nil _ _ _ _, Below.refl _ _⟩
  case round =>
    obtain ⟨k, hk, rfl, hown, hb⟩ := hrel
    by_cases hlt : k < l.length
    · obtain ⟨b, o, rfl, hb0, hc0⟩ := Rd.atk Ecs (fun _ => rfl) (r2.below hb) rfl k hlt
      have HT := Lib.hid (show (l.take (k + 1)).map (nmOf more) = (l.take k).map (nmOf more) ++ [nmOf more l[k]] from by rw [List.take_succ_eq_append_getElem hlt, List.map_append]; rfl)
      have hsm := HSM.out l[k] (List.getElem_mem hlt)
      generalize l[k] = x at hc0 HT hsm
      generalize (l.take k).map (nmOf more) = cs at hown HT
      have HX : Hid (∀ y, nmOf more x = y → (l.take (k + 1)).map (nmOf more) = cs ++ [y]) := Lib.hid fun y hy => by rw [HT.out, hy]
      have HN := Lib.hid (show nmOf more x = if x.op.kind = 2 then { x with op := { x.op with data := gOf more x.op.data } } else { x with data := gOf more x.data } from rfl)
      obtain ⟨xp, xb, xe, ⟨xk, xa, xd⟩, xr, xt⟩ := x
      have p0 := hc0 0 (by omega); have p1 := hc0 1 (by omega); have p2 := hc0 2 (by omega); have p3 := hc0 3 (by omega); have p4 := hc0 4 (by omega)
      have p5 := hc0 5 (by omega); have p6 := hc0 6 (by omega); have p7 := hc0 7 (by omega)
      simp only [Ecs, List.getElem?_cons_zero, List.getElem?_cons_succ, Nat.add_zero] at p0 p1 p2 p3 p4 p5 p6 p7
      obtain ⟨hsm1, hsm2⟩ := hsm
      simp only at hsm1 hsm2
      clear hc0 HT
      by_cases hk2 : xk = 2
      · subst hk2
        go_upto_region 11 with fail
        have hal : Below wr.heap.size wr (wr.alloc (.cells #[.int .i64 xp, .int .i64 xb, .int .i64 xe, .int .i64 2, .int .i64 xa, .string (more ++ xd ++ ⟨#[33]⟩), .int .i64 xr, .string xt] 31)) := (Below.refl _ _).alloc (Nat.le_refl _) _
        have own7 := owns_below hown hal
        have hb7 := below_then hb hal
        have bY := Blk.new wr 31 #[.int .i64 xp, .int .i64 xb, .int .i64 xe, .int .i64 2, .int .i64 xa, .string (more ++ xd ++ ⟨#[33]⟩), .int .i64 xr, .string xt]
        generalize wr.alloc (.cells #[.int .i64 xp, .int .i64 xb, .int .i64 xe, .int .i64 2, .int .i64 xa, .string (more ++ xd ++ ⟨#[33]⟩), .int .i64 xr, .string xt] 31) = w7 at own7 hb7 bY ⊢
        generalize wr.heap.size = Y at bY ⊢
        clear hown hb hal p0 p1 p2 p3 p4 p5 p6 p7 hb0
        have y0 := bY.cell 0; have y1 := bY.cell 1; have y2 := bY.cell 2; have y3 := bY.cell 3; have y4 := bY.cell 4; have y5 := bY.cell 5; have y6 := bY.cell 6; have y7 := bY.cell 7
        simp only [List.getElem?_toArray, List.getElem?_cons_zero, List.getElem?_cons_succ] at y0 y1 y2 y3 y4 y5 y6 y7
        have HL := Lib.hid own7.1
        go_wp2_with (at_builtin; refine wpList_append_own _ rfl _ _ 25 rfl w2.heap.size 31 i0 _ 8 80 Try.underlying25 hi0 hz0 hz1 hz2 rfl (by decide) _ _ _ rfl (own7.alloc _) ⟨w7.heap.size, 0, none⟩ 1 1 (Ecs ⟨xp, xb, xe, ⟨2, xa, more ++ xd ++ ⟨#[33]⟩⟩, xr, xt⟩) rfl rfl ?c1A ?c2A ?c3A ?c4A ?c5A ?_)
        case c2A => exact ⟨rfl, rfl, rfl, rfl, rfl, rfl, rfl, rfl⟩
        case c3A => unfold maxLen; omega
        case c4A => omega
        case c5A => have := hb7.size; simp; omega
        · intro v' w8 hown' hgrow _
          have HO : Hid (w8.ownsRow w2.heap.size 31 8 v' (k + 1) (((l.take (k + 1)).map (nmOf more)).flatMap Ecs)) := by
            show World.ownsRow _ _ _ _ _ _ _
            rw [HX.out ⟨xp, xb, xe, ⟨2, xa, more ++ xd ++ ⟨#[33]⟩⟩, xr, xt⟩ (by rw [HN.out]; rfl), List.flatMap_append, List.flatMap_singleton]
            exact hown'
          have HB := Lib.hid ((below_al hb7 _).grown hgrow (by have := hb7.size; simp; omega) (fun q hq => (owns_lt own7 q hq).1))
          clear hown' hgrow own7 hb7
          go_wp2_with fail
          go_roundw
          case rel => exact ⟨k + 1, by omega, by go_num, HO.out, HB.out⟩
          case measure => simp [intOf]; omega
      · have e2 : (xk == 2) = false := by simpa using hk2
        go_upto_region 11 with fail
        have hal : Below wr.heap.size wr (wr.alloc (.cells #[.int .i64 xp, .int .i64 xb, .int .i64 xe, .int .i64 xk, .int .i64 xa, .string xd, .int .i64 xr, .string (more ++ xt ++ ⟨#[33]⟩)] 31)) := (Below.refl _ _).alloc (Nat.le_refl _) _
        have own7 := owns_below hown hal
        have hb7 := below_then hb hal
        have bY := Blk.new wr 31 #[.int .i64 xp, .int .i64 xb, .int .i64 xe, .int .i64 xk, .int .i64 xa, .string xd, .int .i64 xr, .string (more ++ xt ++ ⟨#[33]⟩)]
        generalize wr.alloc (.cells #[.int .i64 xp, .int .i64 xb, .int .i64 xe, .int .i64 xk, .int .i64 xa, .string xd, .int .i64 xr, .string (more ++ xt ++ ⟨#[33]⟩)] 31) = w7 at own7 hb7 bY ⊢
        generalize wr.heap.size = Y at bY ⊢
        clear hown hb hal p0 p1 p2 p3 p4 p5 p6 p7 hb0
        have y0 := bY.cell 0; have y1 := bY.cell 1; have y2 := bY.cell 2; have y3 := bY.cell 3; have y4 := bY.cell 4; have y5 := bY.cell 5; have y6 := bY.cell 6; have y7 := bY.cell 7
        simp only [List.getElem?_toArray, List.getElem?_cons_zero, List.getElem?_cons_succ] at y0 y1 y2 y3 y4 y5 y6 y7
        have HL := Lib.hid own7.1
        go_wp2_with (at_builtin; refine wpList_append_own _ rfl _ _ 25 rfl w2.heap.size 31 i0 _ 8 80 Try.underlying25 hi0 hz0 hz1 hz2 rfl (by decide) _ _ _ rfl (own7.alloc _) ⟨w7.heap.size, 0, none⟩ 1 1 (Ecs ⟨xp, xb, xe, ⟨xk, xa, xd⟩, xr, more ++ xt ++ ⟨#[33]⟩⟩) rfl rfl ?c1B ?c2B ?c3B ?c4B ?c5B ?_)
        case c2B => exact ⟨rfl, rfl, rfl, rfl, rfl, rfl, rfl, rfl⟩
        case c3B => unfold maxLen; omega
        case c4B => omega
        case c5B => have := hb7.size; simp; omega
        · intro v' w8 hown' hgrow _
          have HO : Hid (w8.ownsRow w2.heap.size 31 8 v' (k + 1) (((l.take (k + 1)).map (nmOf more)).flatMap Ecs)) := by
            show World.ownsRow _ _ _ _ _ _ _
            rw [HX.out ⟨xp, xb, xe, ⟨xk, xa, xd⟩, xr, more ++ xt ++ ⟨#[33]⟩⟩ (by rw [HN.out]; rw [if_neg hk2]; rfl), List.flatMap_append, List.flatMap_singleton]
            exact hown'
          have HB := Lib.hid ((below_al hb7 _).grown hgrow (by have := hb7.size; simp; omega) (fun q hq => (owns_lt own7 q hq).1))
          clear hown' hgrow own7 hb7
          go_wp2_with fail
          go_roundw
          case rel => exact ⟨k + 1, by omega, by go_num, HO.out, HB.out⟩
          case measure => simp [intOf]; omega
    · obtain rfl : k = l.length := by omega
      rw [List.take_length] at hown
      have HCH := Lib.hid (chk_names more l)
      have R2 := r2.below hb
      have RO := Rd.of_owns hown
      have hb3 := below_then hb12 hb
      have hk1 := Lib.hid (fun W (h : Rd W 8 (.slice al l.length cl) l.length (l.flatMap Ecs)) => check_any ⟨#[]⟩ h (by omega))
      obtain ⟨ao, co, hvo⟩ : ∃ a c, u7 = .slice a l.length c := by obtain ⟨_, a, c, hv, _⟩ := RO; exact ⟨a, c, hv⟩
      subst hvo
      have hk2 := Lib.hid (fun W (h : Rd W 8 (.slice ao l.length co) l.length ((l.map (nmOf more)).flatMap Ecs)) => check_any (ls := l.map (nmOf more)) (more ++ ⟨#[33]⟩) (by rw [List.length_map]; exact h) (by rw [List.length_map]; omega))
      rw [HCH.out] at hk2
      clear hown r2 hb hb12
      generalize chk ⟨#[]⟩ l = q at hk1 hk2
      go_wp2_with fail
      refine (hk1.out _ R2).mono ?_; rintro e w3 ⟨rfl, hb4⟩
      have RO3 := RO.below hb4
      have hb5 := below_then hb3 hb4
      clear R2 RO hb3 hb4
      go_wp2_with fail
      refine (hk2.out _ RO3).mono ?_; rintro e w4 ⟨rfl, hb6⟩
      have HB := Lib.hid (below_then hb5 hb6)
      have hqq : (q == q) = true := by simp
      clear RO3 hb5 hb6
      go_wp2_with fail
      go_ret
      exact ⟨rfl, HB.out⟩
end Go.Proofs.Ytojgibinokmmeaa
