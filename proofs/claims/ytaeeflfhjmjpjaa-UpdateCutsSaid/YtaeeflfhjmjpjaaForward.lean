/- The walks of settle.Forward and settle.Done. -/
import Derived.Test.YtaeeflfhjmjpjaaSo
import Derived.Deep.RegionWith
namespace Go.Proofs.Ytaeeflfhjmjpjaa
open Go.RowKit SlRd
set_option linter.unusedVariables false

def doneP (t : Tg) (r : Rc) : Bool := r.done.e == t.e && r.done.s == t.s
def openP (t : Tg) (r : Rc) : Bool := r.op && (r.intent.e == t.e && r.intent.s == t.s)
/-- how many columns count -/
def many (kn : List Bool) (l : List Rc) : Nat := min (min kn.length l.length) 6
/-- those of the columns for which it holds -/
def yes (l : List Rc) (p : Rc → Bool) (cols : List Nat) : List Nat := cols.filter fun i => p (l.getD i default)
theorem SO_full (l : List Rc) (p : Rc → Bool) (cols : List Nat) : SO l p cols cols.length = yes l p cols := by unfold SO yes; rw [List.take_length]
def cols (kn : List Bool) (l : List Rc) (mask : Int) : List Nat := TK kn mask (many kn l)
theorem cols_le (kn : List Bool) (l : List Rc) (mask : Int) : (cols kn l mask).length ≤ 6 := Nat.le_trans (TK_le _ _ _) (by unfold many; omega)
theorem cols_in (kn : List Bool) (l : List Rc) (mask : Int) : ∀ i ∈ cols kn l mask, i < l.length := by
  intro i hi
  unfold cols TK at hi
  have := (List.mem_filter.1 hi).1
  rw [List.mem_range] at this
  unfold many at this
  omega
theorem yes_le (l : List Rc) (p : Rc → Bool) (c : List Nat) : (yes l p c).length ≤ c.length := List.length_filter_le _ _
def FW (kn : List Bool) (l : List Rc) (t : Tg) (mask : Int) : Bool :=
  decide (0 < (yes l (doneP t) (cols kn l mask)).length) || (decide (0 < (cols kn l mask).length) && (yes l (openP t) (cols kn l mask)).length == (cols kn l mask).length)
def DN (kn : List Bool) (l : List Rc) (t : Tg) : Bool := decide (0 < (yes l (doneP t) (cols kn l 63)).length)

/-- what is read: which columns are known, and the records -/
structure Given (w : World) (kn : List Bool) (l : List Rc) (vk vl : Value) : Prop where
  rk : Rd w 1 vk kn.length (kn.map Value.bool)
  rl : Rd w 10 vl l.length (l.flatMap Rc.cs)
  bk : kn.length ≤ 140737488351232
  bl : l.length ≤ 140737488351232
  bm : ∀ r ∈ l, -9223372036854775808 ≤ r.mask ∧ r.mask ≤ 9223372036854775807
theorem Given.below {w w' : World} {kn : List Bool} {l : List Rc} {vk vl : Value} (h : Given w kn l vk vl) (hb : Below w.heap.size w w') : Given w' kn l vk vl := ⟨h.rk.below hb, h.rl.below hb, h.bk, h.bl, h.bm⟩

/-- taking, of what is given -/
theorem take_of {w : World} {kn : List Bool} {l : List Rc} {vk vl : Value} (h : Given w kn l vk vl) (mask : Int) (hm : -9223372036854775808 ≤ mask ∧ mask ≤ 9223372036854775807) :
    Calls Try.prog 41 #[vk, vl, .int .i64 mask] w fun e w' => ∃ v, e = .returned v ∧ w'.ownsRow w.heap.size 3 1 v (cols kn l mask).length (NV (cols kn l mask)) ∧ Below w.heap.size w w' := by
  have hl := h.rl
  obtain ⟨_, al, cl, rfl, _⟩ := hl
  exact taking_any kn l.length _ mask vk al cl w h.rk hm rfl h.bk h.bl

theorem so_done {w w0 : World} {kn : List Bool} {l : List Rc} {vk vl vc : Value} (h : Given w kn l vk vl) (cs : List Nat) (t : Tg) (B : Nat) (hc : Rd w 1 vc cs.length (NV cs)) (hin : ∀ i ∈ cs, i < l.length) (hcl : cs.length ≤ 6)
    (hB : B < w.heap.size) (h0 : w.cell? ⟨B, 0, none⟩ = some (.int .i64 t.e)) (h1 : w.cell? ⟨B, 1, none⟩ = some (.int .i64 t.s)) :
    Calls Try.prog 40 #[vc, vl, .agg #[.func (.func 56) #[] #[.pointer (some ⟨B, 0, none⟩)]]] w fun e w' => ∃ v, e = .returned v ∧ w'.ownsRow w.heap.size 3 1 v (yes l (doneP t) cs).length (NV (yes l (doneP t) cs)) ∧ Below w.heap.size w w' := by
  have := so56_any cs l (doneP t) B vc vl w hc h.rl hin hcl h.bl (Lib.hid fun r w1 hb => doneIs1_any r t B w1 (Nat.lt_of_lt_of_le hB hb.size) (by rw [hb.cell (p := ⟨B, 0, none⟩) hB]; exact h0) (by rw [hb.cell (p := ⟨B, 1, none⟩) hB]; exact h1))
  rw [SO_full] at this
  exact this
theorem so_open {w w0 : World} {kn : List Bool} {l : List Rc} {vk vl vc : Value} (h : Given w kn l vk vl) (cs : List Nat) (t : Tg) (B : Nat) (hc : Rd w 1 vc cs.length (NV cs)) (hin : ∀ i ∈ cs, i < l.length) (hcl : cs.length ≤ 6)
    (hB : B < w.heap.size) (h0 : w.cell? ⟨B, 0, none⟩ = some (.int .i64 t.e)) (h1 : w.cell? ⟨B, 1, none⟩ = some (.int .i64 t.s)) :
    Calls Try.prog 40 #[vc, vl, .agg #[.func (.func 57) #[] #[.pointer (some ⟨B, 0, none⟩)]]] w fun e w' => ∃ v, e = .returned v ∧ w'.ownsRow w.heap.size 3 1 v (yes l (openP t) cs).length (NV (yes l (openP t) cs)) ∧ Below w.heap.size w w' := by
  have := so57_any cs l (openP t) B vc vl w hc h.rl hin hcl h.bl (Lib.hid fun r w1 hb => openIs1_any r t B w1 (Nat.lt_of_lt_of_le hB hb.size) (by rw [hb.cell (p := ⟨B, 0, none⟩) hB]; exact h0) (by rw [hb.cell (p := ⟨B, 1, none⟩) hB]; exact h1))
  rw [SO_full] at this
  exact this
theorem so_is {w : World} {kn : List Bool} {l : List Rc} {vk vl vc : Value} (h : Given w kn l vk vl) (cs : List Nat) (hc : Rd w 1 vc cs.length (NV cs)) (hin : ∀ i ∈ cs, i < l.length) (hcl : cs.length ≤ 6) :
    Calls Try.prog 40 #[vc, vl, .agg #[.func (.func 55) #[] #[]]] w fun e w' => ∃ v, e = .returned v ∧ w'.ownsRow w.heap.size 3 1 v (yes l Rc.op cs).length (NV (yes l Rc.op cs)) ∧ Below w.heap.size w w' := by
  have := so55_any cs l Rc.op vc vl w hc h.rl hin hcl h.bl (Lib.hid fun r w1 hb => isOpen1_any r w1)
  rw [SO_full] at this
  exact this

theorem below_then {w w1 w2 : World} (h1 : Below w.heap.size w w1) (h2 : Below w1.heap.size w1 w2) : Below w.heap.size w w2 := h1.trans (h2.mono h1.size)

/-- a row's value and its length -/
theorem owns_form {w : World} {base : Nat} {e : TypeId} {size n : Nat} {v : Value} {xs : List Value} (h : w.ownsRow base e size v n xs) : ∃ a c, v = .slice a n c := by
  rcases h.2 with ⟨rfl, rfl⟩ | ⟨g, cap, cur, rfl, _⟩
  · exact ⟨_, _, rfl⟩
  · exact ⟨_, _, rfl⟩

theorem forward_any {w : World} {kn : List Bool} {l : List Rc} {vk vl : Value} (h : Given w kn l vk vl) (t : Tg) (mask : Int) (hm : -9223372036854775808 ≤ mask ∧ mask ≤ 9223372036854775807) :
    Calls Try.prog 20 #[vk, vl, t.v, .int .i64 mask] w fun e w' => e = .returned (.bool (FW kn l t mask)) ∧ Below w.heap.size w w' := by
  have hle := cols_le kn l mask
  have hin := Lib.hid (cols_in kn l mask)
  have hy1 := yes_le l (doneP t) (cols kn l mask)
  have hy2 := yes_le l (openP t) (cols kn l mask)
  have hv : Hid (FW kn l t mask = (decide (0 < (yes l (doneP t) (cols kn l mask)).length) || (decide (0 < (cols kn l mask).length) && (yes l (openP t) (cols kn l mask)).length == (cols kn l mask).length))) := rfl
  have htk := Lib.hid (fun (W : World) (H : Given W kn l vk vl) => take_of H mask hm)
  have hs1 := Lib.hid (fun (W : World) (vc : Value) (H : Given W kn l vk vl) hc B hB h0 h1 => so_done (w0 := W) H (cols kn l mask) t B (vc := vc) hc hin.out hle hB h0 h1)
  have hs2 := Lib.hid (fun (W : World) (vc : Value) (H : Given W kn l vk vl) hc B hB h0 h1 => so_open (w0 := W) H (cols kn l mask) t B (vc := vc) hc hin.out hle hB h0 h1)
  generalize FW kn l t mask = ans at hv ⊢
  generalize yes l (doneP t) (cols kn l mask) = ys at *
  generalize yes l (openP t) (cols kn l mask) = zs at *
  generalize cols kn l mask = cs at *
  obtain ⟨te, ts⟩ := t
  go_enter Try.func20, Try.ntmps20
  go_wp2_with fail
  have hG : Given (w.alloc (.cells #[.int .i64 te, .int .i64 ts] 34)) kn l vk vl := h.below ((Below.refl _ _).alloc (Nat.le_refl _) _)
  have hB : Below w.heap.size w (w.alloc (.cells #[.int .i64 te, .int .i64 ts] 34)) := (Below.refl _ _).alloc (Nat.le_refl _) _
  have hS : w.heap.size < (w.alloc (.cells #[.int .i64 te, .int .i64 ts] 34)).heap.size := by simp
  have h0 : (w.alloc (.cells #[.int .i64 te, .int .i64 ts] 34)).cell? ⟨w.heap.size, 0, none⟩ = some (.int .i64 te) := World.cell?_alloc_at _ _ _ _ rfl
  have h1 : (w.alloc (.cells #[.int .i64 te, .int .i64 ts] 34)).cell? ⟨w.heap.size, 1, none⟩ = some (.int .i64 ts) := World.cell?_alloc_at _ _ _ _ rfl
  generalize w.alloc (.cells #[.int .i64 te, .int .i64 ts] 34) = w0 at hG hB hS h0 h1 ⊢
  refine (htk.out _ hG).mono ?_; rintro e w1 ⟨v, rfl, hown, hb1⟩
  have hG1 := hG.below hb1
  have hR1 := Rd.of_owns hown
  have hB1 := hB.trans (hb1.mono hB.size)
  have hS1 := Nat.lt_of_lt_of_le hS hb1.size
  have h01 : w1.cell? ⟨w.heap.size, 0, none⟩ = some (.int .i64 te) := by rw [hb1.cell (p := ⟨w.heap.size, 0, none⟩) hS]; exact h0
  have h11 : w1.cell? ⟨w.heap.size, 1, none⟩ = some (.int .i64 ts) := by rw [hb1.cell (p := ⟨w.heap.size, 1, none⟩) hS]; exact h1
  obtain ⟨a1, c1, rfl⟩ := owns_form hown
  clear hown hG hB hS h0 h1 hb1
  go_wp2_with fail
  refine (doneIs_any ⟨te, ts⟩ _).mono ?_; rintro e w2 ⟨rfl, hb2, hlt2, h02, h12⟩
  have hG2 := hG1.below hb2
  have hR2 := hR1.below hb2
  have hB2 := hB1.trans (hb2.mono hB1.size)
  go_wp2_with fail
  refine (hs1.out _ _ hG2 hR2 _ hlt2 h02 h12).mono ?_; rintro e w3 ⟨v3, rfl, hown3, hb3⟩
  have hG3 := hG2.below hb3
  have hR3 := hR2.below hb3
  have hB3 := hB2.trans (hb3.mono hB2.size)
  have hS3 : w.heap.size < w3.heap.size := Nat.lt_of_lt_of_le hS1 (Nat.le_trans hb2.size hb3.size)
  have h03 : w3.cell? ⟨w.heap.size, 0, none⟩ = some (.int .i64 te) := by rw [hb3.cell (p := ⟨w.heap.size, 0, none⟩) (Nat.lt_trans hS1 hlt2), hb2.cell (p := ⟨w.heap.size, 0, none⟩) hS1]; exact h01
  have h13 : w3.cell? ⟨w.heap.size, 1, none⟩ = some (.int .i64 ts) := by rw [hb3.cell (p := ⟨w.heap.size, 1, none⟩) (Nat.lt_trans hS1 hlt2), hb2.cell (p := ⟨w.heap.size, 1, none⟩) hS1]; exact h11
  obtain ⟨a3, c3, rfl⟩ := owns_form hown3
  clear hown3 hG1 hG2 hR1 hR2 hB1 hB2 hS1 h01 h11 hb2 hlt2 h02 h12 hb3
  by_cases hy : 0 < ys.length
  · go_wp2_with fail
    go_ret
    exact ⟨by rw [hv.out, decide_eq_true hy]; rfl, hB3⟩
  · have hy' : ys.length = 0 := by omega
    by_cases hc0 : 0 < cs.length
    · go_wp2_with fail
      refine (openIs_any ⟨te, ts⟩ _).mono ?_; rintro e w4 ⟨rfl, hb4, hlt4, h04, h14⟩
      have hG4 := hG3.below hb4
      have hR4 := hR3.below hb4
      have hB4 := hB3.trans (hb4.mono hB3.size)
      clear hB3 hG3 hR3
      go_wp2_with fail
      refine (hs2.out _ _ hG4 hR4 _ hlt4 h04 h14).mono ?_; rintro e w5 ⟨v5, rfl, hown5, hb5⟩
      have hB5 := hB4.trans (hb5.mono hB4.size)
      obtain ⟨a5, c5, rfl⟩ := owns_form hown5
      clear hown5 hG4 hR4 hB4 h04 h14 hb5 hb4 hlt4
      go_wp2_with fail
      go_ret
      have hz : ((zs.length : Int) == (cs.length : Int)) = (zs.length == cs.length) := by rw [Bool.eq_iff_iff, beq_iff_eq, beq_iff_eq]; omega
      exact ⟨by rw [hv.out, decide_eq_false hy, decide_eq_true hc0, ← hz]; rfl, hB5⟩
    · go_wp2_with fail
      go_ret
      exact ⟨by rw [hv.out, decide_eq_false hy, decide_eq_false hc0]; rfl, hB3⟩

set_option maxHeartbeats 3200000 in
theorem done_any {w : World} {kn : List Bool} {l : List Rc} {vk vl : Value} (h : Given w kn l vk vl) (t : Tg) :
    Calls Try.prog 23 #[vk, vl, t.v] w fun e w' => e = .returned (.bool (DN kn l t)) ∧ Below w.heap.size w w' := by
  have hle := cols_le kn l 63
  have hin := Lib.hid (cols_in kn l 63)
  have hy1 := yes_le l (doneP t) (cols kn l 63)
  have hv : Hid (DN kn l t = decide (0 < (yes l (doneP t) (cols kn l 63)).length)) := rfl
  have htk := Lib.hid (fun (W : World) (H : Given W kn l vk vl) => take_of H 63 (by omega))
  have hs1 := Lib.hid (fun (W : World) (vc : Value) (H : Given W kn l vk vl) hc B hB h0 h1 => so_done (w0 := W) H (cols kn l 63) t B (vc := vc) hc hin.out hle hB h0 h1)
  generalize DN kn l t = ans at hv ⊢
  generalize yes l (doneP t) (cols kn l 63) = ys at *
  generalize cols kn l 63 = cs at *
  obtain ⟨te, ts⟩ := t
  go_enter Try.func23, Try.ntmps23
  go_wp2_with fail
  have hG : Given (w.alloc (.cells #[.int .i64 te, .int .i64 ts] 34)) kn l vk vl := h.below ((Below.refl _ _).alloc (Nat.le_refl _) _)
  have hB : Below w.heap.size w (w.alloc (.cells #[.int .i64 te, .int .i64 ts] 34)) := (Below.refl _ _).alloc (Nat.le_refl _) _
  have hS : w.heap.size < (w.alloc (.cells #[.int .i64 te, .int .i64 ts] 34)).heap.size := by simp
  have h0 : (w.alloc (.cells #[.int .i64 te, .int .i64 ts] 34)).cell? ⟨w.heap.size, 0, none⟩ = some (.int .i64 te) := World.cell?_alloc_at _ _ _ _ rfl
  have h1 : (w.alloc (.cells #[.int .i64 te, .int .i64 ts] 34)).cell? ⟨w.heap.size, 1, none⟩ = some (.int .i64 ts) := World.cell?_alloc_at _ _ _ _ rfl
  generalize w.alloc (.cells #[.int .i64 te, .int .i64 ts] 34) = w0 at hG hB hS h0 h1 ⊢
  have hGd : Given w0.drew kn l vk vl := hG.below ((Below.refl _ _).drew)
  go_region_with (first
    | (go_at_call 41; refine (htk.out _ hGd).mono ?_; rintro e w1 ⟨v, rfl, hown, hb1⟩; have hG1 : Given w1 kn l vk vl := hGd.below hb1; have hR1 := Rd.of_owns hown; obtain ⟨a1, c1, rfl⟩ := owns_form hown; clear hown; have h01 : w1.cell? ⟨w.heap.size, 0, none⟩ = some (.int .i64 te) := (hb1.cell (p := ⟨w.heap.size, 0, none⟩) hS).trans h0; have h11 : w1.cell? ⟨w.heap.size, 1, none⟩ = some (.int .i64 ts) := (hb1.cell (p := ⟨w.heap.size, 1, none⟩) hS).trans h1)
    | (go_at_call 43; refine (doneIs_any ⟨te, ts⟩ _).mono ?_; rintro e w2 ⟨rfl, hb2, hlt2, h02, h12⟩; have hG2 := hG1.below hb2; have hR2 := hR1.below hb2)
    | (go_at_call 40; refine (hs1.out _ _ hG2 hR2 _ hlt2 h02 h12).mono ?_; rintro e w3 ⟨v3, rfl, hown3, hb3⟩; obtain ⟨a3, c3, rfl⟩ := owns_form hown3; clear hown3; have hB3 : Below w.heap.size w w3 := ((hB.drew.trans (hb1.mono hB.size)).trans (hb2.mono (Nat.le_trans hB.size hb1.size))).trans (hb3.mono (Nat.le_trans hB.size (Nat.le_trans hb1.size hb2.size)))))
  all_goals (go_wp2_with fail; go_ret; exact ⟨by rw [hv.out]; rfl, hB3⟩)
end Go.Proofs.Ytaeeflfhjmjpjaa
