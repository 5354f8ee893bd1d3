/- The walks of settle.so, at each of the three questions. PRINTED by a program of my own (sogen in NOTES). -/
import Derived.Test.YtaeeflfhjmjpjaaTaking
import Derived.StillTailTactics
import Derived.Deep.Onto
namespace Go.Proofs.Ytaeeflfhjmjpjaa
open Go.RowKit SlRd
set_option linter.unusedVariables false

/-- those of the first k columns for which it holds -/
def SO (l : List Rc) (p : Rc → Bool) (cols : List Nat) (k : Nat) : List Nat := (cols.take k).filter fun i => p (l.getD i default)
theorem SO_succ (l : List Rc) (p : Rc → Bool) (cols : List Nat) (k : Nat) (h : k < cols.length) (h2 : cols[k] < l.length) : SO l p cols (k + 1) = if p (l[cols[k]]) then SO l p cols k ++ [cols[k]] else SO l p cols k := by
  unfold SO
  rw [List.take_succ_eq_append_getElem h, List.filter_append, List.filter_cons, List.getD_eq_getElem?_getD, List.getElem?_eq_getElem h2]
  cases hp : p l[cols[k]]
  · simp [hp]
  · simp [hp]
theorem SO_le (l : List Rc) (p : Rc → Bool) (cols : List Nat) (k : Nat) : (SO l p cols k).length ≤ k := by
  unfold SO
  exact Nat.le_trans (List.length_filter_le _ _) (by simp; omega)

set_option maxRecDepth 100000 in
theorem so55_any (cols : List Nat) (l : List Rc) (p : Rc → Bool) (vc vl : Value) (w : World) (hc : Rd w 1 vc cols.length (NV cols)) (hl : Rd w 10 vl l.length (l.flatMap Rc.cs)) (hin : ∀ i ∈ cols, i < l.length)
    (hcl : cols.length ≤ 6) (hll : l.length ≤ 140737488351232)
    (c : Hid (∀ (r : Rc) (w1 : World), Below w.heap.size w w1 → Calls Try.prog 55 #[r.v] w1 fun e w' => e = .returned (.bool (p r)) ∧ Below w1.heap.size w1 w')) :
    Calls Try.prog 40 #[vc, vl, .agg #[.func (.func 55) #[] #[]]] w fun e w' => ∃ v, e = .returned v ∧ w'.ownsRow w.heap.size 3 1 v (SO l p cols cols.length).length (NV (SO l p cols cols.length)) ∧ Below w.heap.size w w' := by
  obtain ⟨hcn, ac, cc, rfl, hcc⟩ := hc
  obtain ⟨hln, al, cl, rfl, hlc⟩ := hl
  have HIN := Lib.hid hin
  clear hin hcn hln
  obtain ⟨i0, hi, hz0, hz1, hz2⟩ := info_parts info3
  go_enter Try.func40, Try.ntmps40
  go_wp2_with fail
  have hcell : (w.alloc (.cells #[.func (.func 55) #[] #[]] 79)).cell? ⟨w.heap.size, 0, none⟩ = some (.func (.func 55) #[] #[]) := World.cell?_alloc_at _ _ _ _ rfl
  have hB0 : Below w.heap.size w (w.alloc (.cells #[.func (.func 55) #[] #[]] 79)) := (Below.refl _ _).alloc (Nat.le_refl _) _
  have hs0 : w.heap.size < (w.alloc (.cells #[.func (.func 55) #[] #[]] 79)).heap.size := by simp
  generalize w.alloc (.cells #[.func (.func 55) #[] #[]] 79) = W at hcell hB0 hs0 ⊢
  go_loopw [7, 12] (fun v i wr => ∃ k : Nat, k ≤ cols.length ∧ i = .int .i64 k ∧ wr.ownsRow W.heap.size 3 1 v (SO l p cols k).length (NV (SO l p cols k)) ∧ Below W.heap.size W wr) (fun _ i _ => cols.length - (intOf i).toNat)
  case atStart => exact ⟨0, Nat.zero_le _, rfl, World.ownsRow_nil _ _ _ _, Below.refl _ _⟩
  case round =>
    obtain ⟨k, hk, rfl, hown, hb⟩ := hrel
    by_cases hlt : k < cols.length
    · obtain ⟨b, o, rfl, hbw, hcx⟩ := hcc (by omega)
      have hx : cols[k] < l.length := HIN.out _ (List.getElem_mem hlt)
      obtain ⟨b2, o2, rfl, hbw2, hlx⟩ := hlc (by omega)
      have hck : wr.cell? ⟨b, o + k, none⟩ = some (.int .i64 (cols[k] : Int)) := by
        rw [hb.cell (p := ⟨b, o + k, none⟩) (Nat.lt_of_lt_of_le hbw hB0.size), hB0.cell (p := ⟨b, o + k, none⟩) hbw, hcx k (by omega)]
        unfold NV
        rw [List.getElem?_map, List.getElem?_eq_getElem hlt]
        rfl
      have hcf : wr.cell? ⟨w.heap.size, 0, none⟩ = some (.func (.func 55) #[] #[]) := by rw [hb.cell (p := ⟨w.heap.size, 0, none⟩) hs0]; exact hcell
      have hrow : ∀ j, j < 10 → wr.cell? ⟨b2, o2 + cols[k] * 10 + j, none⟩ = (l[cols[k]]).cs[j]? := fun j hj => by
        rw [hb.cell (p := ⟨b2, o2 + cols[k] * 10 + j, none⟩) (Nat.lt_of_lt_of_le hbw2 hB0.size), hB0.cell (p := ⟨b2, o2 + cols[k] * 10 + j, none⟩) hbw2, Nat.add_assoc, hlx (cols[k] * 10 + j) (by omega)]
        exact flat_get Rc.cs 10 (fun _ => rfl) l _ j hx hj
      have hr := fun j hj => hrow j hj
      have hsucc : SO l p cols (k + 1) = if p (l[cols[k]]) then SO l p cols k ++ [cols[k]] else SO l p cols k := SO_succ l p cols k hlt hx
      have hcr := c.out (l[cols[k]]) 
      generalize l[cols[k]] = r at hrow hsucc hcr
      generalize cols[k] = x at hck hrow hx hsucc
      have h0 := hrow 0 (by omega); have h1 := hrow 1 (by omega); have h2 := hrow 2 (by omega); have h3 := hrow 3 (by omega); have h4 := hrow 4 (by omega)
      have h5 := hrow 5 (by omega); have h6 := hrow 6 (by omega); have h7 := hrow 7 (by omega); have h8 := hrow 8 (by omega); have h9 := hrow 9 (by omega)
      simp only [Rc.cs, List.getElem?_cons_zero, List.getElem?_cons_succ, Nat.add_zero] at h0 h1 h2 h3 h4 h5 h6 h7 h8 h9
      have hxl : (x : Int) < (l.length : Int) := by omega
      have HS := Lib.hid hsucc
      have HC := Lib.hid hcr
      clear hrow hcc hlc hcx hlx hsucc hcr hr
      go_upto_region 5 with fail
      go_still_tail 6, (by kernel_rfl)
      change wpList _ _ _ _ _ wr.drew
      have hown1 := hown.drew
      have hb1 := hb.drew
      clear h0 h1 h2 h3 h4 h5 h6 h7 h8 h9 hck hcf hown hb
      generalize wr.drew = w1 at hown1 hb1 ⊢
      have hb2 : Below w.heap.size w w1 := hB0.trans (hb1.mono hB0.size)
      go_wp2_with fail
      refine (HC.out _ hb2).mono ?_; rintro e w2 ⟨rfl, hb3⟩
      have hown2 := owns_below hown1 hb3
      have hb4 := hb1.trans (hb3.mono hb1.size)
      clear hown1 hb1 hb2 hb3
      cases hp : p r
      · rw [hp] at HS
        simp only [Bool.false_eq_true, if_false] at HS
        go_wp2_with fail
        go_roundw
        case rel => exact ⟨k + 1, by omega, by go_num, by rw [HS.out]; exact hown2, hb4⟩
        case measure => simp [intOf]; omega
      · rw [hp] at HS
        simp only [if_true] at HS
        have hle := SO_le l p cols k
        go_wp2_with (at_builtin; refine wpList_append_own _ rfl _ _ 23 rfl W.heap.size 3 i0 (.int .i64 0) 1 8 Try.underlying23 hi hz0 hz1 hz2 rfl (by decide) _ _ _ rfl (hown2.alloc _) ⟨w2.heap.size, 0, none⟩ 1 1 [.int .i64 (x : Int)] rfl rfl ?c1 ?c2 ?c3 ?c4 ?c5 ?_)
        case c1 =>
          intro j u hj
          match j, hj with
          | 0, hj => simp at hj; subst hj; simp [Addr.add]
        case c2 => intro u hu; simp at hu; subst hu; rfl
        case c3 => unfold maxLen; omega
        case c4 => omega
        case c5 => have := hb4.size; simp; omega
        · intro v' w3 hown' hgrow _
          have HO : Hid (w3.ownsRow W.heap.size 3 1 v' (SO l p cols (k + 1)).length (NV (SO l p cols (k + 1)))) := by
            show World.ownsRow _ _ _ _ _ _ _
            rw [HS.out, List.length_append, NV, List.map_append]
            exact hown'
          have HB := Lib.hid ((hb4.alloc hb4.size (.cells #[.int .i64 (x : Int)] 3)).grown hgrow (by have := hb4.size; simp; omega) (fun q hq => (owns_lt hown2 q hq).1))
          clear hown' hgrow hown2 hb4
          go_wp2_with fail
          go_roundw
          case rel => exact ⟨k + 1, by omega, by go_num, HO.out, HB.out⟩
          case measure => simp [intOf]; omega
    · obtain rfl : k = cols.length := by omega
      go_wp2_with fail
      go_ret
      exact ⟨_, rfl, hown.mono (Nat.le_of_lt hs0), hB0.trans (hb.mono hB0.size)⟩

set_option maxRecDepth 100000 in
theorem so56_any (cols : List Nat) (l : List Rc) (p : Rc → Bool) (B : Nat) (vc vl : Value) (w : World) (hc : Rd w 1 vc cols.length (NV cols)) (hl : Rd w 10 vl l.length (l.flatMap Rc.cs)) (hin : ∀ i ∈ cols, i < l.length)
    (hcl : cols.length ≤ 6) (hll : l.length ≤ 140737488351232)
    (c : Hid (∀ (r : Rc) (w1 : World), Below w.heap.size w w1 → Calls Try.prog 56 #[r.v, .pointer (some ⟨B, 0, none⟩)] w1 fun e w' => e = .returned (.bool (p r)) ∧ Below w1.heap.size w1 w')) :
    Calls Try.prog 40 #[vc, vl, .agg #[.func (.func 56) #[] #[.pointer (some ⟨B, 0, none⟩)]]] w fun e w' => ∃ v, e = .returned v ∧ w'.ownsRow w.heap.size 3 1 v (SO l p cols cols.length).length (NV (SO l p cols cols.length)) ∧ Below w.heap.size w w' := by
  obtain ⟨hcn, ac, cc, rfl, hcc⟩ := hc
  obtain ⟨hln, al, cl, rfl, hlc⟩ := hl
  have HIN := Lib.hid hin
  clear hin hcn hln
  obtain ⟨i0, hi, hz0, hz1, hz2⟩ := info_parts info3
  go_enter Try.func40, Try.ntmps40
  go_wp2_with fail
  have hcell : (w.alloc (.cells #[.func (.func 56) #[] #[.pointer (some ⟨B, 0, none⟩)]] 79)).cell? ⟨w.heap.size, 0, none⟩ = some (.func (.func 56) #[] #[.pointer (some ⟨B, 0, none⟩)]) := World.cell?_alloc_at _ _ _ _ rfl
  have hB0 : Below w.heap.size w (w.alloc (.cells #[.func (.func 56) #[] #[.pointer (some ⟨B, 0, none⟩)]] 79)) := (Below.refl _ _).alloc (Nat.le_refl _) _
  have hs0 : w.heap.size < (w.alloc (.cells #[.func (.func 56) #[] #[.pointer (some ⟨B, 0, none⟩)]] 79)).heap.size := by simp
  generalize w.alloc (.cells #[.func (.func 56) #[] #[.pointer (some ⟨B, 0, none⟩)]] 79) = W at hcell hB0 hs0 ⊢
  go_loopw [7, 12] (fun v i wr => ∃ k : Nat, k ≤ cols.length ∧ i = .int .i64 k ∧ wr.ownsRow W.heap.size 3 1 v (SO l p cols k).length (NV (SO l p cols k)) ∧ Below W.heap.size W wr) (fun _ i _ => cols.length - (intOf i).toNat)
  case atStart => exact ⟨0, Nat.zero_le _, rfl, World.ownsRow_nil _ _ _ _, Below.refl _ _⟩
  case round =>
    obtain ⟨k, hk, rfl, hown, hb⟩ := hrel
    by_cases hlt : k < cols.length
    · obtain ⟨b, o, rfl, hbw, hcx⟩ := hcc (by omega)
      have hx : cols[k] < l.length := HIN.out _ (List.getElem_mem hlt)
      obtain ⟨b2, o2, rfl, hbw2, hlx⟩ := hlc (by omega)
      have hck : wr.cell? ⟨b, o + k, none⟩ = some (.int .i64 (cols[k] : Int)) := by
        rw [hb.cell (p := ⟨b, o + k, none⟩) (Nat.lt_of_lt_of_le hbw hB0.size), hB0.cell (p := ⟨b, o + k, none⟩) hbw, hcx k (by omega)]
        unfold NV
        rw [List.getElem?_map, List.getElem?_eq_getElem hlt]
        rfl
      have hcf : wr.cell? ⟨w.heap.size, 0, none⟩ = some (.func (.func 56) #[] #[.pointer (some ⟨B, 0, none⟩)]) := by rw [hb.cell (p := ⟨w.heap.size, 0, none⟩) hs0]; exact hcell
      have hrow : ∀ j, j < 10 → wr.cell? ⟨b2, o2 + cols[k] * 10 + j, none⟩ = (l[cols[k]]).cs[j]? := fun j hj => by
        rw [hb.cell (p := ⟨b2, o2 + cols[k] * 10 + j, none⟩) (Nat.lt_of_lt_of_le hbw2 hB0.size), hB0.cell (p := ⟨b2, o2 + cols[k] * 10 + j, none⟩) hbw2, Nat.add_assoc, hlx (cols[k] * 10 + j) (by omega)]
        exact flat_get Rc.cs 10 (fun _ => rfl) l _ j hx hj
      have hr := fun j hj => hrow j hj
      have hsucc : SO l p cols (k + 1) = if p (l[cols[k]]) then SO l p cols k ++ [cols[k]] else SO l p cols k := SO_succ l p cols k hlt hx
      have hcr := c.out (l[cols[k]]) 
      generalize l[cols[k]] = r at hrow hsucc hcr
      generalize cols[k] = x at hck hrow hx hsucc
      have h0 := hrow 0 (by omega); have h1 := hrow 1 (by omega); have h2 := hrow 2 (by omega); have h3 := hrow 3 (by omega); have h4 := hrow 4 (by omega)
      have h5 := hrow 5 (by omega); have h6 := hrow 6 (by omega); have h7 := hrow 7 (by omega); have h8 := hrow 8 (by omega); have h9 := hrow 9 (by omega)
      simp only [Rc.cs, List.getElem?_cons_zero, List.getElem?_cons_succ, Nat.add_zero] at h0 h1 h2 h3 h4 h5 h6 h7 h8 h9
      have hxl : (x : Int) < (l.length : Int) := by omega
      have HS := Lib.hid hsucc
      have HC := Lib.hid hcr
      clear hrow hcc hlc hcx hlx hsucc hcr hr
      go_upto_region 5 with fail
      go_still_tail 6, (by kernel_rfl)
      change wpList _ _ _ _ _ wr.drew
      have hown1 := hown.drew
      have hb1 := hb.drew
      clear h0 h1 h2 h3 h4 h5 h6 h7 h8 h9 hck hcf hown hb
      generalize wr.drew = w1 at hown1 hb1 ⊢
      have hb2 : Below w.heap.size w w1 := hB0.trans (hb1.mono hB0.size)
      go_wp2_with fail
      refine (HC.out _ hb2).mono ?_; rintro e w2 ⟨rfl, hb3⟩
      have hown2 := owns_below hown1 hb3
      have hb4 := hb1.trans (hb3.mono hb1.size)
      clear hown1 hb1 hb2 hb3
      cases hp : p r
      · rw [hp] at HS
        simp only [Bool.false_eq_true, if_false] at HS
        go_wp2_with fail
        go_roundw
        case rel => exact ⟨k + 1, by omega, by go_num, by rw [HS.out]; exact hown2, hb4⟩
        case measure => simp [intOf]; omega
      · rw [hp] at HS
        simp only [if_true] at HS
        have hle := SO_le l p cols k
        go_wp2_with (at_builtin; refine wpList_append_own _ rfl _ _ 23 rfl W.heap.size 3 i0 (.int .i64 0) 1 8 Try.underlying23 hi hz0 hz1 hz2 rfl (by decide) _ _ _ rfl (hown2.alloc _) ⟨w2.heap.size, 0, none⟩ 1 1 [.int .i64 (x : Int)] rfl rfl ?c1 ?c2 ?c3 ?c4 ?c5 ?_)
        case c1 =>
          intro j u hj
          match j, hj with
          | 0, hj => simp at hj; subst hj; simp [Addr.add]
        case c2 => intro u hu; simp at hu; subst hu; rfl
        case c3 => unfold maxLen; omega
        case c4 => omega
        case c5 => have := hb4.size; simp; omega
        · intro v' w3 hown' hgrow _
          have HO : Hid (w3.ownsRow W.heap.size 3 1 v' (SO l p cols (k + 1)).length (NV (SO l p cols (k + 1)))) := by
            show World.ownsRow _ _ _ _ _ _ _
            rw [HS.out, List.length_append, NV, List.map_append]
            exact hown'
          have HB := Lib.hid ((hb4.alloc hb4.size (.cells #[.int .i64 (x : Int)] 3)).grown hgrow (by have := hb4.size; simp; omega) (fun q hq => (owns_lt hown2 q hq).1))
          clear hown' hgrow hown2 hb4
          go_wp2_with fail
          go_roundw
          case rel => exact ⟨k + 1, by omega, by go_num, HO.out, HB.out⟩
          case measure => simp [intOf]; omega
    · obtain rfl : k = cols.length := by omega
      go_wp2_with fail
      go_ret
      exact ⟨_, rfl, hown.mono (Nat.le_of_lt hs0), hB0.trans (hb.mono hB0.size)⟩

set_option maxRecDepth 100000 in
theorem so57_any (cols : List Nat) (l : List Rc) (p : Rc → Bool) (B : Nat) (vc vl : Value) (w : World) (hc : Rd w 1 vc cols.length (NV cols)) (hl : Rd w 10 vl l.length (l.flatMap Rc.cs)) (hin : ∀ i ∈ cols, i < l.length)
    (hcl : cols.length ≤ 6) (hll : l.length ≤ 140737488351232)
    (c : Hid (∀ (r : Rc) (w1 : World), Below w.heap.size w w1 → Calls Try.prog 57 #[r.v, .pointer (some ⟨B, 0, none⟩)] w1 fun e w' => e = .returned (.bool (p r)) ∧ Below w1.heap.size w1 w')) :
    Calls Try.prog 40 #[vc, vl, .agg #[.func (.func 57) #[] #[.pointer (some ⟨B, 0, none⟩)]]] w fun e w' => ∃ v, e = .returned v ∧ w'.ownsRow w.heap.size 3 1 v (SO l p cols cols.length).length (NV (SO l p cols cols.length)) ∧ Below w.heap.size w w' := by
  obtain ⟨hcn, ac, cc, rfl, hcc⟩ := hc
  obtain ⟨hln, al, cl, rfl, hlc⟩ := hl
  have HIN := Lib.hid hin
  clear hin hcn hln
  obtain ⟨i0, hi, hz0, hz1, hz2⟩ := info_parts info3
  go_enter Try.func40, Try.ntmps40
  go_wp2_with fail
  have hcell : (w.alloc (.cells #[.func (.func 57) #[] #[.pointer (some ⟨B, 0, none⟩)]] 79)).cell? ⟨w.heap.size, 0, none⟩ = some (.func (.func 57) #[] #[.pointer (some ⟨B, 0, none⟩)]) := World.cell?_alloc_at _ _ _ _ rfl
  have hB0 : Below w.heap.size w (w.alloc (.cells #[.func (.func 57) #[] #[.pointer (some ⟨B, 0, none⟩)]] 79)) := (Below.refl _ _).alloc (Nat.le_refl _) _
  have hs0 : w.heap.size < (w.alloc (.cells #[.func (.func 57) #[] #[.pointer (some ⟨B, 0, none⟩)]] 79)).heap.size := by simp
  generalize w.alloc (.cells #[.func (.func 57) #[] #[.pointer (some ⟨B, 0, none⟩)]] 79) = W at hcell hB0 hs0 ⊢
  go_loopw [7, 12] (fun v i wr => ∃ k : Nat, k ≤ cols.length ∧ i = .int .i64 k ∧ wr.ownsRow W.heap.size 3 1 v (SO l p cols k).length (NV (SO l p cols k)) ∧ Below W.heap.size W wr) (fun _ i _ => cols.length - (intOf i).toNat)
  case atStart => exact ⟨0, Nat.zero_le _, rfl, World.ownsRow_nil _ _ _ _, Below.refl _ _⟩
  case round =>
    obtain ⟨k, hk, rfl, hown, hb⟩ := hrel
    by_cases hlt : k < cols.length
    · obtain ⟨b, o, rfl, hbw, hcx⟩ := hcc (by omega)
      have hx : cols[k] < l.length := HIN.out _ (List.getElem_mem hlt)
      obtain ⟨b2, o2, rfl, hbw2, hlx⟩ := hlc (by omega)
      have hck : wr.cell? ⟨b, o + k, none⟩ = some (.int .i64 (cols[k] : Int)) := by
        rw [hb.cell (p := ⟨b, o + k, none⟩) (Nat.lt_of_lt_of_le hbw hB0.size), hB0.cell (p := ⟨b, o + k, none⟩) hbw, hcx k (by omega)]
        unfold NV
        rw [List.getElem?_map, List.getElem?_eq_getElem hlt]
        rfl
      have hcf : wr.cell? ⟨w.heap.size, 0, none⟩ = some (.func (.func 57) #[] #[.pointer (some ⟨B, 0, none⟩)]) := by rw [hb.cell (p := ⟨w.heap.size, 0, none⟩) hs0]; exact hcell
      have hrow : ∀ j, j < 10 → wr.cell? ⟨b2, o2 + cols[k] * 10 + j, none⟩ = (l[cols[k]]).cs[j]? := fun j hj => by
        rw [hb.cell (p := ⟨b2, o2 + cols[k] * 10 + j, none⟩) (Nat.lt_of_lt_of_le hbw2 hB0.size), hB0.cell (p := ⟨b2, o2 + cols[k] * 10 + j, none⟩) hbw2, Nat.add_assoc, hlx (cols[k] * 10 + j) (by omega)]
        exact flat_get Rc.cs 10 (fun _ => rfl) l _ j hx hj
      have hr := fun j hj => hrow j hj
      have hsucc : SO l p cols (k + 1) = if p (l[cols[k]]) then SO l p cols k ++ [cols[k]] else SO l p cols k := SO_succ l p cols k hlt hx
      have hcr := c.out (l[cols[k]]) 
      generalize l[cols[k]] = r at hrow hsucc hcr
      generalize cols[k] = x at hck hrow hx hsucc
      have h0 := hrow 0 (by omega); have h1 := hrow 1 (by omega); have h2 := hrow 2 (by omega); have h3 := hrow 3 (by omega); have h4 := hrow 4 (by omega)
      have h5 := hrow 5 (by omega); have h6 := hrow 6 (by omega); have h7 := hrow 7 (by omega); have h8 := hrow 8 (by omega); have h9 := hrow 9 (by omega)
      simp only [Rc.cs, List.getElem?_cons_zero, List.getElem?_cons_succ, Nat.add_zero] at h0 h1 h2 h3 h4 h5 h6 h7 h8 h9
      have hxl : (x : Int) < (l.length : Int) := by omega
      have HS := Lib.hid hsucc
      have HC := Lib.hid hcr
      clear hrow hcc hlc hcx hlx hsucc hcr hr
      go_upto_region 5 with fail
      go_still_tail 6, (by kernel_rfl)
      change wpList _ _ _ _ _ wr.drew
      have hown1 := hown.drew
      have hb1 := hb.drew
      clear h0 h1 h2 h3 h4 h5 h6 h7 h8 h9 hck hcf hown hb
      generalize wr.drew = w1 at hown1 hb1 ⊢
      have hb2 : Below w.heap.size w w1 := hB0.trans (hb1.mono hB0.size)
      go_wp2_with fail
      refine (HC.out _ hb2).mono ?_; rintro e w2 ⟨rfl, hb3⟩
      have hown2 := owns_below hown1 hb3
      have hb4 := hb1.trans (hb3.mono hb1.size)
      clear hown1 hb1 hb2 hb3
      cases hp : p r
      · rw [hp] at HS
        simp only [Bool.false_eq_true, if_false] at HS
        go_wp2_with fail
        go_roundw
        case rel => exact ⟨k + 1, by omega, by go_num, by rw [HS.out]; exact hown2, hb4⟩
        case measure => simp [intOf]; omega
      · rw [hp] at HS
        simp only [if_true] at HS
        have hle := SO_le l p cols k
        go_wp2_with (at_builtin; refine wpList_append_own _ rfl _ _ 23 rfl W.heap.size 3 i0 (.int .i64 0) 1 8 Try.underlying23 hi hz0 hz1 hz2 rfl (by decide) _ _ _ rfl (hown2.alloc _) ⟨w2.heap.size, 0, none⟩ 1 1 [.int .i64 (x : Int)] rfl rfl ?c1 ?c2 ?c3 ?c4 ?c5 ?_)
        case c1 =>
          intro j u hj
          match j, hj with
          | 0, hj => simp at hj; subst hj; simp [Addr.add]
        case c2 => intro u hu; simp at hu; subst hu; rfl
        case c3 => unfold maxLen; omega
        case c4 => omega
        case c5 => have := hb4.size; simp; omega
        · intro v' w3 hown' hgrow _
          have HO : Hid (w3.ownsRow W.heap.size 3 1 v' (SO l p cols (k + 1)).length (NV (SO l p cols (k + 1)))) := by
            show World.ownsRow _ _ _ _ _ _ _
            rw [HS.out, List.length_append, NV, List.map_append]
            exact hown'
          have HB := Lib.hid ((hb4.alloc hb4.size (.cells #[.int .i64 (x : Int)] 3)).grown hgrow (by have := hb4.size; simp; omega) (fun q hq => (owns_lt hown2 q hq).1))
          clear hown' hgrow hown2 hb4
          go_wp2_with fail
          go_roundw
          case rel => exact ⟨k + 1, by omega, by go_num, HO.out, HB.out⟩
          case measure => simp [intOf]; omega
    · obtain rfl : k = cols.length := by omega
      go_wp2_with fail
      go_ret
      exact ⟨_, rfl, hown.mono (Nat.le_of_lt hs0), hB0.trans (hb.mono hB0.size)⟩
end Go.Proofs.Ytaeeflfhjmjpjaa
