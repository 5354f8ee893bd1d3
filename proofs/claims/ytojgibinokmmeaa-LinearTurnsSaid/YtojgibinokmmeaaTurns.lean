/- The walk of LinearTurns. -/
import Derived.Test.YtojgibinokmmeaaEvents
namespace Go.Proofs.Ytojgibinokmmeaa
open Go.RowKit SlRd Lin
set_option linter.unusedVariables false

theorem chk_perm (first : ByteArray) {l l' : List Lin.Ev} (h : l'.Perm l) : chk first l' = chk first l := by
  have hf := h.filter cnt
  rw [Bool.eq_iff_iff, chk_iff, chk_iff, hf.length_eq, Plays.perm_iff hf]
theorem chk_nil (first : ByteArray) : chk first [] = true := (chk_iff _ _).2 ⟨by simp, .done (by simp)⟩
theorem perm_turn (l : List Lin.Ev) (k : Nat) : (l.drop k ++ l.take k).Perm l := by
  have := @List.perm_append_comm _ (l.drop k) (l.take k)
  rwa [List.take_append_drop] at this
theorem evs_one (l : List Lin.Ev) : ∀ u ∈ l.flatMap Ecs, u.oneCell' = true := by
  intro u hu
  obtain ⟨x, _, hx⟩ := List.mem_flatMap.1 hu
  exact ev_one x u hx
theorem drop_flat (l : List Lin.Ev) : ∀ (k : Nat), (l.drop k).flatMap Ecs = (l.flatMap Ecs).drop (k * 8) := by
  induction l with
  | nil => intro k; simp
  | cons x l ih =>
    intro k
    cases k with
    | zero => simp
    | succ k =>
      rw [List.drop_succ_cons, ih, List.flatMap_cons, Nat.succ_mul, Nat.add_comm, ← List.drop_drop]
      rfl
theorem take_flat (l : List Lin.Ev) : ∀ (k : Nat), (l.take k).flatMap Ecs = (l.flatMap Ecs).take (k * 8) := by
  induction l with
  | nil => intro k; simp
  | cons x l ih =>
    intro k
    cases k with
    | zero => simp
    | succ k =>
      rw [List.take_succ_cons, List.flatMap_cons, ih, List.flatMap_cons, Nat.succ_mul]
      have : (Ecs x).length = 8 := rfl
      rw [List.take_append, this, List.take_of_length_le (l := Ecs x) (by rw [this]; omega), Nat.add_sub_cancel]
/-- the cells of a list lie from o on in the block b -/
def At (W : World) (b o : Nat) (l : List Lin.Ev) : Prop := b < W.heap.size ∧ ∀ j, j < l.length * 8 → W.cell? ⟨b, o + j, none⟩ = (l.flatMap Ecs)[j]?
theorem At.below {W W' : World} {b o : Nat} {l : List Lin.Ev} (h : At W b o l) (hb : Below W.heap.size W W') : At W' b o l :=
  ⟨Nat.lt_of_lt_of_le h.1 hb.size, fun j hj => by rw [hb.cell (p := ⟨b, o + j, none⟩) h.1]; exact h.2 j hj⟩
theorem At.of_rd {W : World} {l : List Lin.Ev} {a : Option Addr} {c : Nat} (h : Rd W 8 (.slice a l.length c) l.length (l.flatMap Ecs)) (hn : 0 < l.length) : ∃ b o, a = some ⟨b, o, none⟩ ∧ At W b o l := by
  obtain ⟨_, a', c', hv, hc⟩ := h
  cases hv
  obtain ⟨b, o, h1, h2, h3⟩ := hc hn
  exact ⟨b, o, h1, h2, h3⟩
theorem evs_length (l : List Lin.Ev) : (l.flatMap Ecs).length = l.length * 8 := flat_length Ecs 8 (fun _ => rfl) l
theorem At.drop {W : World} {b o : Nat} {l : List Lin.Ev} (h : At W b o l) (k : Nat) (hk : k ≤ l.length) (j : Nat) (u : Value) (hj : ((l.drop k).flatMap Ecs)[j]? = some u) : W.cell? ((⟨b, o + k * 8, none⟩ : Addr).add j) = some u := by
  have hlt : j < ((l.drop k).flatMap Ecs).length := (List.getElem?_eq_some_iff.1 hj).1
  rw [evs_length, List.length_drop, Nat.sub_mul] at hlt
  have : k * 8 ≤ l.length * 8 := Nat.mul_le_mul_right _ hk
  rw [Go.WideShapes.add_plain, Nat.add_assoc, h.2 _ (by omega), ← hj, drop_flat, List.getElem?_drop]
theorem At.take {W : World} {b o : Nat} {l : List Lin.Ev} (h : At W b o l) (k : Nat) (hk : k ≤ l.length) (j : Nat) (u : Value) (hj : ((l.take k).flatMap Ecs)[j]? = some u) : W.cell? ((⟨b, o, none⟩ : Addr).add j) = some u := by
  have hlt : j < ((l.take k).flatMap Ecs).length := (List.getElem?_eq_some_iff.1 hj).1
  rw [evs_length, List.length_take] at hlt
  have : k * 8 ≤ l.length * 8 := Nat.mul_le_mul_right _ hk
  rw [Go.WideShapes.add_plain, h.2 _ (by omega), ← hj, take_flat, List.getElem?_take]
  rw [if_pos (by omega)]
theorem At.one {W : World} {b o : Nat} {l : List Lin.Ev} (h : At W b o l) (k : Nat) (hk : k < l.length) (j : Nat) (hj : j < 8) : W.cell? ⟨b, o + k * 8 + j, none⟩ = (Ecs l[k])[j]? := by
  have : (k + 1) * 8 ≤ l.length * 8 := Nat.mul_le_mul_right _ hk
  rw [Nat.succ_mul] at this
  rw [Nat.add_assoc, h.2 _ (by omega)]
  exact flat_get Ecs 8 (fun _ => rfl) l k j hk hj
theorem own_cap {W : World} {base n c : Nat} {a : Option Addr} {xs : List Value} (h : W.ownsRow base 31 8 (.slice a n c) n xs) : n ≤ c := by
  rcases h.2 with ⟨h1, h2⟩ | ⟨g, cap, cur, h1, _, _, h2, _⟩
  · omega
  · cases h1; exact h2

set_option maxRecDepth 100000 in
set_option maxHeartbeats 1600000 in
theorem linearTurns_walk (raw : List Raw) (vr : Value) (turn : Int) (w : World) (hr : Rd w 5 vr raw.length (raw.flatMap Raw.cs)) (hok : ∀ x ∈ raw, x.ok) (hrl : raw.length ≤ 140737488351232) (ht : -9223372036854775808 ≤ turn ∧ turn ≤ 9223372036854775807) :
    Calls Try.prog 4 #[vr, .int .i64 turn] w fun e w' => e = .returned (.bool true) ∧ Below w.heap.size w w' := by
  obtain ⟨i0, hi0, hz0, hz1, hz2⟩ := info_parts info31
  have HEV := Lib.hid (events9 raw vr hok hrl)
  have hl9 : (evsOf raw 9).length ≤ 9 := by rw [evsOf_length]; omega
  generalize evsOf raw 9 = l at HEV hl9
  go_enter Try.func4, Try.ntmps4
  go_wp2_with fail
  refine (awake_any _).mono ?_; rintro e w1 ⟨rfl, hb1⟩
  go_wp2_with fail
  refine (HEV.out _ (hr.below hb1)).mono ?_; rintro e w2 ⟨v2, rfl, own2, hb2⟩
  have r2 := Rd.of_owns own2
  obtain ⟨al, cl, rfl⟩ : ∃ a c, v2 = .slice a l.length c := by obtain ⟨_, a, c, hv, _⟩ := r2; exact ⟨a, c, hv⟩
  have hb12 := below_then hb1 hb2
  by_cases hn : l.length = 0
  · have hl0 : l = [] := List.length_eq_zero_iff.1 hn
    have hk1 := Lib.hid (fun W (h : Rd W 8 (.slice al l.length cl) l.length (l.flatMap Ecs)) => check_any ⟨#[97]⟩ h (by omega))
    rw [show chk ⟨#[97]⟩ l = true from by rw [hl0]; exact chk_nil _] at hk1
    rw [hn] at hk1 r2 ⊢
    clear own2 hb1 hb2 hr hl0
    go_wp2_with fail
    refine (hk1.out _ r2).mono ?_; rintro e w3 ⟨rfl, hb3⟩
    have HB := Lib.hid (below_then hb12 hb3)
    go_wp2_with fail
    go_ret
    exact ⟨rfl, HB.out⟩
  · have hcap := own_cap own2
    have hpk := pk_bd turn l.length (by omega)
    obtain ⟨k, hk⟩ := Int.eq_ofNat_of_zero_le hpk.1
    have hkl : k < l.length := by omega
    have HPK := Lib.hid (fun W => pick_any turn l.length ht (by omega) (by omega) W)
    rw [show pk turn l.length = (k : Int) from hk] at HPK
    obtain ⟨b, o, rfl, hat⟩ := At.of_rd r2 (by omega)
    have hb20 := Below.refl w2.heap.size w2
    have hw2 := hb12.size
    have own8 := World.ownsRow_nil w2 w2.heap.size 31 8
    have hN := Lib.hid (⟨by omega, by omega⟩ : l.length - k ≤ 9 ∧ k ≤ 9)
    have e1 : (l.drop k).length = l.length - k := List.length_drop
    have e2 : (l.take k).length = k := by rw [List.length_take]; omega
    clear own2 hb1 hb2 hr
    go_wp2_with fail
    refine (HPK.out _).mono ?_; rintro e w3 ⟨rfl, rfl⟩
    go_wp2_with (at_builtin; refine wpList_append_own _ rfl _ _ 25 rfl w2.heap.size 31 i0 _ 8 80 Try.underlying25 hi0 hz0 hz1 hz2 rfl (by decide) _ _ _ rfl own8 ⟨b, o + k * 8, none⟩ (l.length - k) (cl - k) ((l.drop k).flatMap Ecs) rfl ?c0 ?c1 ?c2 ?c3 ?c4 ?c5 ?_)
    case c0 => rw [evs_length, e1]
    case c1 => exact hat.drop k (by omega)
    case c2 => exact evs_one _
    case c3 => have := hN.out; unfold maxLen; omega
    case c4 => have := hN.out; omega
    case c5 => omega
    · intro v' w4 own4 hgrow _
      have hb4 := hb20.grown hgrow (Nat.le_refl _) (fun q hq => (owns_lt own8 q hq).1)
      have hat4 := hat.below hb4
      clear hgrow own8
      go_wp2_with (at_builtin; refine wpList_append_own _ rfl _ _ 25 rfl w2.heap.size 31 i0 _ 8 80 Try.underlying25 hi0 hz0 hz1 hz2 rfl (by decide) _ _ _ rfl own4 ⟨b, o, none⟩ k cl ((l.take k).flatMap Ecs) rfl ?d0 ?d1 ?d2 ?d3 ?d4 ?d5 ?_)
      case d0 => rw [evs_length, e2]
      case d1 => exact hat4.take k (by omega)
      case d2 => exact evs_one _
      case d3 => have := hN.out; unfold maxLen; omega
      case d4 => have := hN.out; omega
      case d5 => exact hb4.size
      · intro v5 w5 own5 hgrow _
        have hb5 := hb4.grown hgrow hb4.size (fun q hq => (owns_lt own4 q hq).1)
        have hat5 := hat.below hb5
        have hlen : l.length - k + k = l.length := by omega
        rw [hlen, ← List.flatMap_append] at own5
        have HP := Lib.hid (perm_turn l k)
        have HL := Lib.hid (show (l.drop k ++ l.take k).length = l.length from HP.out.length_eq)
        generalize l.drop k ++ l.take k = l1 at own5 HP HL
        have R1 := Rd.of_owns own5
        have hb05 := Lib.hid (below_then hb12 hb5)
        clear hgrow own4 hat hat4 hb4 hb20 hcap e1 e2 HPK hN r2 hlen own5
        have hn9 : l.length ≤ 9 := hl9
        go_wp2_with fail
        go_loopw [9, 10] (fun v i wr => ∃ k2 : Nat, k2 ≤ l.length ∧ i = .int .i64 (k2 - 1) ∧ wr.ownsRow w5.heap.size 31 8 v (l.length - k2) (((l.drop k2).reverse).flatMap Ecs) ∧ Below w5.heap.size w5 wr) (fun _ i _ => (intOf i + 1).toNat)
        case atStart => exact ⟨l.length, Nat.le_refl _, by go_num, by rw [List.drop_length, Nat.sub_self]; exact World.ownsRow_nil _ _ _ _, Below.refl _ _⟩
        case round =>
          obtain ⟨k2, hk2, rfl, hown, hb⟩ := hrel
          by_cases hlt : 0 < k2
          · obtain ⟨k3, rfl⟩ : ∃ k3, k2 = k3 + 1 := ⟨k2 - 1, by omega⟩
            have hc0 := (hat5.below hb).one k3 (by omega)
            have HT := Lib.hid (show (l.drop k3).reverse = (l.drop (k3 + 1)).reverse ++ [l[k3]] from by rw [List.drop_eq_getElem_cons (by omega : k3 < l.length), List.reverse_cons])
            have hb0 := (hat5.below hb).1
            generalize l[k3] = x at hc0 HT
            generalize (l.drop (k3 + 1)).reverse = cs at hown HT
            obtain ⟨xp, xb, xe, ⟨xk, xa, xd⟩, xr, xt⟩ := x
            have p0 := hc0 0 (by omega); have p1 := hc0 1 (by omega); have p2 := hc0 2 (by omega); have p3 := hc0 3 (by omega); have p4 := hc0 4 (by omega)
            have p5 := hc0 5 (by omega); have p6 := hc0 6 (by omega); have p7 := hc0 7 (by omega)
            simp only [Ecs, List.getElem?_cons_zero, List.getElem?_cons_succ, Nat.add_zero] at p0 p1 p2 p3 p4 p5 p6 p7
            have ek : ((k3 + 1 : Nat) : Int) - 1 = (k3 : Int) := by omega
            rw [ek]
            clear hc0
            go_wp2_with (at_builtin; refine wpList_append_own _ rfl _ _ 25 rfl w5.heap.size 31 i0 _ 8 80 Try.underlying25 hi0 hz0 hz1 hz2 rfl (by decide) _ _ _ rfl (hown.alloc _) ⟨wr.heap.size, 0, none⟩ 1 1 (Ecs ⟨xp, xb, xe, ⟨xk, xa, xd⟩, xr, xt⟩) rfl rfl ?f1 ?f2 ?f3 ?f4 ?f5 ?_)
            case f1 =>
              intro j u hj
              rw [Go.WideShapes.add_plain, Nat.zero_add, World.cell?_alloc_at _ _ _ _ rfl]
              simpa using hj
            case f2 => exact ev_one _
            case f3 => unfold maxLen; omega
            case f4 => omega
            case f5 => have := hb.size; simp; omega
            · intro v8 w8 hown' hgrow _
              have HO : Hid (w8.ownsRow w5.heap.size 31 8 v8 (l.length - k3) (((l.drop k3).reverse).flatMap Ecs)) := by
                show World.ownsRow _ _ _ _ _ _ _
                rw [HT.out, List.flatMap_append, List.flatMap_singleton, show l.length - k3 = l.length - (k3 + 1) + 1 from by omega]
                exact hown'
              have HB := Lib.hid ((below_al hb _).grown hgrow (by have := hb.size; simp; omega) (fun q hq => (owns_lt hown q hq).1))
              clear hown' hgrow hown hb p0 p1 p2 p3 p4 p5 p6 p7 hb0
              go_wp2_with fail
              go_roundw
              case rel => exact ⟨k3, by omega, by go_num, HO.out, HB.out⟩
              case measure => simp [intOf]
          · obtain rfl : k2 = 0 := by omega
            rw [List.drop_zero, Nat.sub_zero] at hown
            have r3 := Rd.of_owns hown
            have r1 := R1.below hb
            have hat6 : Rd wr 8 (.slice (some ⟨b, o, none⟩) l.length cl) l.length (l.flatMap Ecs) := ⟨evs_length l, _, _, rfl, fun _ => ⟨b, o, rfl, (hat5.below hb).1, (hat5.below hb).2⟩⟩
            have HB6 := Lib.hid (below_then hb05.out hb)
            obtain ⟨a1, c1, hv1⟩ : ∃ a c, v5 = .slice a l.length c := by obtain ⟨_, a, c, hv, _⟩ := r1; exact ⟨a, c, hv⟩
            subst hv1
            obtain ⟨a3, c3, hv3⟩ : ∃ a c, u9 = .slice a l.length c := by obtain ⟨_, a, c, hv, _⟩ := r3; exact ⟨a, c, hv⟩
            subst hv3
            have hk1 := Lib.hid (fun W (h : Rd W 8 (.slice (some ⟨b, o, none⟩) l.length cl) l.length (l.flatMap Ecs)) => check_any ⟨#[]⟩ h (by omega))
            have hk2 := Lib.hid (fun W (h : Rd W 8 (.slice a1 l.length c1) l.length (l1.flatMap Ecs)) => check_any (ls := l1) ⟨#[]⟩ (by rw [HL.out]; exact h) (by rw [HL.out]; omega))
            have hk3 := Lib.hid (fun W (h : Rd W 8 (.slice a3 l.length c3) l.length (l.reverse.flatMap Ecs)) => check_any (ls := l.reverse) ⟨#[]⟩ (by rw [List.length_reverse]; exact h) (by rw [List.length_reverse]; omega))
            rw [chk_perm _ HP.out] at hk2
            rw [chk_perm _ (List.reverse_perm l)] at hk3
            generalize chk ⟨#[]⟩ l = q at hk1 hk2 hk3
            clear hown hat5 R1 hb
            go_wp2_with fail
            refine (hk1.out _ hat6).mono ?_; rintro e w6 ⟨rfl, hb6⟩
            have r1' := r1.below hb6
            have r3' := r3.below hb6
            have HB7 := Lib.hid (below_then HB6.out hb6)
            clear r1 r3 hat6 hb6 HB6
            go_wp2_with fail
            refine (hk2.out _ r1').mono ?_; rintro e w7 ⟨rfl, hb7⟩
            have r3 := r3'.below hb7
            have HB8 := Lib.hid (below_then HB7.out hb7)
            have hqq : (q == q) = true := by simp
            clear r1' r3' hb7 HB7
            go_wp2_with fail
            refine (hk3.out _ r3).mono ?_; rintro e w8 ⟨rfl, hb8⟩
            have HB9 := Lib.hid (below_then HB8.out hb8)
            clear r3 hb8 HB8
            go_wp2_with fail
            go_ret
            exact ⟨rfl, HB9.out⟩
end Go.Proofs.Ytojgibinokmmeaa
