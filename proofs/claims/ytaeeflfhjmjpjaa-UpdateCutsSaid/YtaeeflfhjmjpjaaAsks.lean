/- The walk of settle.Asks. -/
import Derived.Test.YtaeeflfhjmjpjaaForward
namespace Go.Proofs.Ytaeeflfhjmjpjaa
open Go.RowKit SlRd
set_option linter.unusedVariables false

structure Ak where
  kind : Int
  stripe : Int
  epoch : Int
  seq : Int
  mask : Int
  node : Int
  old : Tg
  block : ByteArray
@[reducible] def Ak.cs (q : Ak) : List Value := [.int .i64 q.kind, .int .i64 q.stripe, .int .i64 q.epoch, .int .i64 q.seq, .int .i64 q.mask, .int .i64 q.node, .int .i64 q.old.e, .int .i64 q.old.s, .string q.block]
@[reducible] def Ak.v (q : Ak) : Value := .agg #[.int .i64 q.kind, .int .i64 q.stripe, .int .i64 q.epoch, .int .i64 q.seq, .int .i64 q.mask, .int .i64 q.node, .int .i64 q.old.e, .int .i64 q.old.s, .string q.block]

theorem info43 : (Try.prog.info? 43).map (fun i => (i.zero, i.size, i.bytes)) = some (some (.agg #[.int .i64 0, .int .i64 0, .int .i64 0, .int .i64 0, .int .i64 0, .int .i64 0, .int .i64 0, .int .i64 0, .string ⟨#[]⟩]), 9, 80) := by kernel_rfl

def askOf (kn : List Bool) (l : List Rc) (stripe epoch : Int) (i : Nat) : Ak :=
  ⟨6, stripe, epoch, 0, if FW kn l (l.getD i default).intent (l.getD i default).mask then 1 else 0, 0, (l.getD i default).intent, ⟨#[]⟩⟩
def asked (kn : List Bool) (l : List Rc) : List Nat := yes l Rc.op (cols kn l 63)
theorem asked_le (kn : List Bool) (l : List Rc) : (asked kn l).length ≤ 6 := Nat.le_trans (yes_le _ _ _) (cols_le _ _ _)
theorem asked_in (kn : List Bool) (l : List Rc) : ∀ i ∈ asked kn l, i < l.length := fun i hi => cols_in kn l 63 i (List.mem_filter.1 hi).1

theorem so_asked {w : World} {kn : List Bool} {l : List Rc} {vk vl vc : Value} (h : Given w kn l vk vl) (hc : Rd w 1 vc (cols kn l 63).length (NV (cols kn l 63))) :
    Calls Try.prog 40 #[vc, vl, .agg #[.func (.func 55) #[] #[]]] w fun e w' => ∃ v, e = .returned v ∧ w'.ownsRow w.heap.size 3 1 v (asked kn l).length (NV (asked kn l)) ∧ Below w.heap.size w w' :=
  so_is h (cols kn l 63) (vc := vc) hc (cols_in kn l 63) (cols_le kn l 63)

/-- the cells of the x-th record -/
theorem Given.cells {W : World} {kn : List Bool} {l : List Rc} {vk : Value} {al : Option Addr} {n cl : Nat} (h : Given W kn l vk (.slice al n cl)) (x : Nat) (hx : x < l.length) :
    ∃ b o, al = some ⟨b, o, none⟩ ∧ b < W.heap.size ∧ n = l.length ∧ ∀ j, j < 10 → W.cell? ⟨b, o + x * 10 + j, none⟩ = (l.getD x default).cs[j]? := by
  have hr := h.rl
  have hn : n = l.length := by obtain ⟨_, a', c', hv, _⟩ := hr; cases hv; rfl
  subst hn
  obtain ⟨b, o, h1, h2, h3⟩ := Rd.atk Rc.cs (fun _ => rfl) hr rfl x hx
  refine ⟨b, o, h1, h2, rfl, fun j hj => ?_⟩
  rw [List.getD_eq_getElem?_getD, List.getElem?_eq_getElem hx]
  exact h3 j hj

set_option maxRecDepth 100000 in
set_option maxHeartbeats 1600000 in
theorem asks_any {w : World} {kn : List Bool} {l : List Rc} {vk vl : Value} (h : Given w kn l vk vl) (stripe epoch : Int) :
    Calls Try.prog 17 #[.int .i64 stripe, .int .i64 epoch, vk, vl] w fun e w' => ∃ v1 v2, e = .returned (.tuple #[v1, v2]) ∧ w'.ownsRow w.heap.size 3 1 v1 (asked kn l).length (NV (asked kn l)) ∧
      w'.ownsRow w.heap.size 43 9 v2 (asked kn l).length (((asked kn l).map (askOf kn l stripe epoch)).flatMap Ak.cs) ∧ Below w.heap.size w w' := by
  have hle := asked_le kn l
  have hin := Lib.hid (asked_in kn l)
  have htk := Lib.hid (fun (W : World) (H : Given W kn l vk vl) => take_of H 63 (by omega))
  have hso := Lib.hid (fun (W : World) (vc : Value) (H : Given W kn l vk vl) hc => so_asked H (vc := vc) hc)
  have hfw := Lib.hid (fun (W : World) (H : Given W kn l vk vl) t m hm => forward_any H t m hm)
  have hA : Hid (∀ i, askOf kn l stripe epoch i = ⟨6, stripe, epoch, 0, if FW kn l (l.getD i default).intent (l.getD i default).mask then 1 else 0, 0, (l.getD i default).intent, ⟨#[]⟩⟩) := fun _ => rfl
  obtain ⟨al, cl, rfl⟩ : ∃ al cl, vl = .slice al l.length cl := by obtain ⟨_, al, cl, rfl, _⟩ := h.rl; exact ⟨_, _, rfl⟩
  obtain ⟨i0, hi, hz0, hz1, hz2⟩ := info_parts info43
  generalize askOf kn l stripe epoch = A at hA ⊢
  generalize asked kn l = cs at *
  go_enter Try.func17, Try.ntmps17
  go_wp2_with fail
  refine (htk.out _ h).mono ?_; rintro e w1 ⟨v1, rfl, hown1, hb1⟩
  have hG1 := h.below hb1
  have hR1 := Rd.of_owns hown1
  go_wp2_with fail
  refine (isOpen_any _).mono ?_; rintro e w2 ⟨rfl, hb2⟩
  have hG2 := hG1.below hb2
  have hR2 := hR1.below hb2
  go_wp2_with fail
  refine (hso.out _ _ hG2 hR2).mono ?_; rintro e w3 ⟨v3, rfl, hown3, hb3⟩
  have hG3 := hG2.below hb3
  have hB3 : Below w.heap.size w w3 := below_then (below_then hb1 hb2) hb3
  have hown3' := hown3.mono (base' := w.heap.size) (Nat.le_trans hb1.size hb2.size)
  obtain ⟨a3, c3, rfl⟩ := owns_form hown3
  clear hown1 hR1 hR2 hG1 hG2 hb1 hb2 hb3 hown3
  go_wp2_with fail
  go_loopw [11, 23] (fun v i wr => ∃ k : Nat, k ≤ cs.length ∧ i = .int .i64 k ∧ wr.ownsRow w3.heap.size 43 9 v k (((cs.take k).map A).flatMap Ak.cs) ∧ Below w3.heap.size w3 wr) (fun _ i _ => cs.length - (intOf i).toNat)
  case atStart => exact ⟨0, Nat.zero_le _, rfl, World.ownsRow_nil _ _ _ _, Below.refl _ _⟩
  case round =>
    obtain ⟨k, hk, rfl, hown, hb⟩ := hrel
    by_cases hlt : k < cs.length
    · have hGr := hG3.below hb
      obtain ⟨b, o, rfl, hbb, hck⟩ := ((Rd.of_owns hown3').below hb).at1 k hlt
      have hx := hin.out _ (List.getElem_mem hlt)
      have htake : (cs.take (k + 1)).map A = (cs.take k).map A ++ [A cs[k]] := by rw [List.take_succ_eq_append_getElem hlt, List.map_append]; rfl
      have hAx := hA.out cs[k]
      unfold NV at hck
      rw [List.getElem?_map, List.getElem?_eq_getElem hlt] at hck
      simp only [Option.map_some] at hck
      generalize cs[k] = x at hck hx htake hAx
      obtain ⟨b2, o2, rfl, hb2, _, hrow⟩ := hGr.cells x hx
      have hmk : -9223372036854775808 ≤ (l.getD x default).mask ∧ (l.getD x default).mask ≤ 9223372036854775807 := by
        rw [List.getD_eq_getElem?_getD, List.getElem?_eq_getElem hx]
        exact hG3.bm _ (List.getElem_mem hx)
      have hll := hG3.bl
      generalize l.getD x default = r at hrow hAx hmk
      have h6 := hrow 6 (by omega); have h7 := hrow 7 (by omega); have h8 := hrow 8 (by omega)
      simp only [Rc.cs, List.getElem?_cons_zero, List.getElem?_cons_succ] at h6 h7 h8
      have hxl : (x : Int) < (l.length : Int) := by omega
      have HT := Lib.hid htake
      have HA := Lib.hid hAx
      clear hrow htake hAx
      go_upto_region 7 with fail
      have hq : ∀ j, (wr.alloc (.cells #[.int .i64 6, .int .i64 stripe, .int .i64 epoch, .int .i64 0, .int .i64 0, .int .i64 0, .int .i64 r.intent.e, .int .i64 r.intent.s, .string ⟨#[]⟩] 43)).cell? ⟨wr.heap.size, j, none⟩ =
          (Ak.cs ⟨6, stripe, epoch, 0, 0, 0, r.intent, ⟨#[]⟩⟩)[j]? := fun j => by rw [World.cell?_alloc_at _ _ _ _ rfl]; simp
      have hqf : ∀ j, (wr.alloc (.cells #[.int .i64 6, .int .i64 stripe, .int .i64 epoch, .int .i64 0, .int .i64 0, .int .i64 0, .int .i64 r.intent.e, .int .i64 r.intent.s, .string ⟨#[]⟩] 43)).frozen? ⟨wr.heap.size, j, none⟩ = false := fun j => by simp
      have hal : Below wr.heap.size wr (wr.alloc (.cells #[.int .i64 6, .int .i64 stripe, .int .i64 epoch, .int .i64 0, .int .i64 0, .int .i64 0, .int .i64 r.intent.e, .int .i64 r.intent.s, .string ⟨#[]⟩] 43)) := (Below.refl _ _).alloc (Nat.le_refl _) _
      have hz4 : wr.heap.size < (wr.alloc (.cells #[.int .i64 6, .int .i64 stripe, .int .i64 epoch, .int .i64 0, .int .i64 0, .int .i64 0, .int .i64 r.intent.e, .int .i64 r.intent.s, .string ⟨#[]⟩] 43)).heap.size := by simp
      generalize wr.alloc (.cells #[.int .i64 6, .int .i64 stripe, .int .i64 epoch, .int .i64 0, .int .i64 0, .int .i64 0, .int .i64 r.intent.e, .int .i64 r.intent.s, .string ⟨#[]⟩] 43) = w4 at hq hqf hal hz4 ⊢
      have hG4 := hGr.below hal
      have hbw := Lib.hid (fun p hp => owns_lt hown p hp)
      have hown4 := owns_below hown hal
      have hb4 := hb.trans (hal.mono hb.size)
      have h64 : w4.cell? ⟨b2, o2 + x * 10 + 6, none⟩ = some (.int .i64 r.intent.e) := by rw [hal.cell (p := ⟨b2, o2 + x * 10 + 6, none⟩) hb2]; exact h6
      have h74 : w4.cell? ⟨b2, o2 + x * 10 + 7, none⟩ = some (.int .i64 r.intent.s) := by rw [hal.cell (p := ⟨b2, o2 + x * 10 + 7, none⟩) hb2]; exact h7
      have h84 : w4.cell? ⟨b2, o2 + x * 10 + 8, none⟩ = some (.int .i64 r.mask) := by rw [hal.cell (p := ⟨b2, o2 + x * 10 + 8, none⟩) hb2]; exact h8
      have hlow := hb.size
      clear h6 h7 h8 hck hGr hown hb
      go_still_tail 12, (by kernel_rfl)
      change wpList _ _ _ _ _ w4.drew
      have hd4 : Below w4.heap.size w4 w4.drew := (Below.refl _ _).drew
      have hG5 := hG4.below hd4
      clear h64 h74 h84
      generalize w4.drew = w5 at hd4 hG5 ⊢
      go_wp2_with fail
      refine (hfw.out _ hG5 r.intent r.mask hmk).mono ?_; rintro e w6 ⟨rfl, hb6⟩
      have h46 := hd4.trans (hb6.mono hd4.size)
      have hq6 : ∀ j, w6.cell? ⟨wr.heap.size, j, none⟩ = (Ak.cs ⟨6, stripe, epoch, 0, 0, 0, r.intent, ⟨#[]⟩⟩)[j]? := fun j => by rw [h46.cell (p := ⟨wr.heap.size, j, none⟩) hz4]; exact hq j
      have hf6 : ∀ j, w6.frozen? ⟨wr.heap.size, j, none⟩ = false := fun j => by rw [h46.frozen (p := ⟨wr.heap.size, j, none⟩) hz4]; exact hqf j
      have hown6 := owns_below hown4 h46
      have hb6' := hb4.trans (h46.mono hb4.size)
      have hz6 := Nat.lt_of_lt_of_le hz4 h46.size
      clear hd4 hG5 hb6 h46 hq hqf hG4 hown4 hb4 hz4 hal
      cases hF : FW kn l r.intent r.mask
      · rw [hF] at HA
        simp only [Bool.false_eq_true, if_false] at HA
        have q0 := hq6 0; have q1 := hq6 1; have q2 := hq6 2; have q3 := hq6 3; have q4 := hq6 4; have q5 := hq6 5; have q6 := hq6 6; have q7 := hq6 7; have q8 := hq6 8
        simp only [Ak.cs, List.getElem?_cons_zero, List.getElem?_cons_succ] at q0 q1 q2 q3 q4 q5 q6 q7 q8
        clear hq6 hf6
        have hown7 := hown6
        have hb7 := hb6'
        go_wp2_with (at_builtin; refine wpList_append_own _ rfl _ _ 29 rfl w3.heap.size 43 i0 _ 9 80 Try.underlying29 hi hz0 hz1 hz2 rfl (by decide) _ _ _ rfl (hown7.alloc _) ⟨w6.heap.size, 0, none⟩ 1 1 (Ak.cs ⟨6, stripe, epoch, 0, 0, 0, r.intent, ⟨#[]⟩⟩) rfl rfl ?c1A ?c2A ?c3A ?c4A ?c5A ?_)
        case c1A =>
          intro j u hj
          rw [Go.WideShapes.add_plain, Nat.zero_add, World.cell?_alloc_at _ _ _ _ rfl]
          simpa using hj
        case c2A =>
          intro u hu
          simp only [Ak.cs, List.mem_cons, List.not_mem_nil, or_false] at hu
          rcases hu with rfl | rfl | rfl | rfl | rfl | rfl | rfl | rfl | rfl <;> rfl
        case c3A => unfold maxLen; omega
        case c4A => omega
        case c5A => have := hb7.size; simp; omega
        · intro v' w8 hown' hgrow _
          have HO : Hid (w8.ownsRow w3.heap.size 43 9 v' (k + 1) (((cs.take (k + 1)).map A).flatMap Ak.cs)) := by
            show World.ownsRow _ _ _ _ _ _ _
            rw [HT.out, List.flatMap_append, List.flatMap_singleton, HA.out, List.map_take]
            exact hown'
          have HB := Lib.hid ((hb7.alloc hb7.size _).grown hgrow (by have := hb7.size; simp; omega) (fun q hq => (owns_lt hown7 q hq).1))
          clear hown' hgrow hown7 hb7
          go_wp2_with fail
          go_roundw
          case rel => exact ⟨k + 1, by omega, by go_num, HO.out, HB.out⟩
          case measure => simp [intOf]; omega
      · rw [hF] at HA
        simp only [if_true] at HA
        have q4f := hf6 4
        have q4 := hq6 4
        simp only [Ak.cs, List.getElem?_cons_zero, List.getElem?_cons_succ] at q4
        go_upto_region 9 with fail
        have hq7 : ∀ j, (w6.setCell ⟨wr.heap.size, 4, none⟩ (.int .i64 1)).cell? ⟨wr.heap.size, j, none⟩ = (Ak.cs ⟨6, stripe, epoch, 0, 1, 0, r.intent, ⟨#[]⟩⟩)[j]? := fun j => by
          by_cases hj : j = 4
          · subst hj; rw [World.cell?_setCell_same _ _ _ q4]; rfl
          · rw [show (w6.setCell ⟨wr.heap.size, 4, none⟩ (.int .i64 1)).cell? ⟨wr.heap.size, j, none⟩ = w6.cell? ⟨wr.heap.size, j, none⟩ from World.cell?_setCell_other _ _ _ _ (by intro he; cases he; exact hj rfl), hq6 j]
            match j, hj with
            | 0, _ => rfl
            | 1, _ => rfl
            | 2, _ => rfl
            | 3, _ => rfl
            | j + 5, _ => rfl
        have hown7 := owns_setCell hown6 ⟨wr.heap.size, 4, none⟩ (.int .i64 1) (fun p hp => by have := (hbw.out p hp).2; show p ≠ wr.heap.size; omega)
        have hb7 := hb6'.setCell (p := ⟨wr.heap.size, 4, none⟩) hlow (.int .i64 1)
        clear hown6 hb6' hq6 hf6 q4 q4f hz6
        generalize w6.setCell ⟨wr.heap.size, 4, none⟩ (.int .i64 1) = w7 at hq7 hown7 hb7 ⊢
        have q0 := hq7 0; have q1 := hq7 1; have q2 := hq7 2; have q3 := hq7 3; have q4 := hq7 4; have q5 := hq7 5; have q6 := hq7 6; have q7 := hq7 7; have q8 := hq7 8
        simp only [Ak.cs, List.getElem?_cons_zero, List.getElem?_cons_succ] at q0 q1 q2 q3 q4 q5 q6 q7 q8
        clear hq7
        go_wp2_with (at_builtin; refine wpList_append_own _ rfl _ _ 29 rfl w3.heap.size 43 i0 _ 9 80 Try.underlying29 hi hz0 hz1 hz2 rfl (by decide) _ _ _ rfl (hown7.alloc _) ⟨w7.heap.size, 0, none⟩ 1 1 (Ak.cs ⟨6, stripe, epoch, 0, 1, 0, r.intent, ⟨#[]⟩⟩) rfl rfl ?c1B ?c2B ?c3B ?c4B ?c5B ?_)
        case c1B =>
          intro j u hj
          rw [Go.WideShapes.add_plain, Nat.zero_add, World.cell?_alloc_at _ _ _ _ rfl]
          simpa using hj
        case c2B =>
          intro u hu
          simp only [Ak.cs, List.mem_cons, List.not_mem_nil, or_false] at hu
          rcases hu with rfl | rfl | rfl | rfl | rfl | rfl | rfl | rfl | rfl <;> rfl
        case c3B => unfold maxLen; omega
        case c4B => omega
        case c5B => have := hb7.size; simp; omega
        · intro v' w8 hown' hgrow _
          have HO : Hid (w8.ownsRow w3.heap.size 43 9 v' (k + 1) (((cs.take (k + 1)).map A).flatMap Ak.cs)) := by
            show World.ownsRow _ _ _ _ _ _ _
            rw [HT.out, List.flatMap_append, List.flatMap_singleton, HA.out, List.map_take]
            exact hown'
          have HB := Lib.hid ((hb7.alloc hb7.size _).grown hgrow (by have := hb7.size; simp; omega) (fun q hq => (owns_lt hown7 q hq).1))
          clear hown' hgrow hown7 hb7
          go_wp2_with fail
          go_roundw
          case rel => exact ⟨k + 1, by omega, by go_num, HO.out, HB.out⟩
          case measure => simp [intOf]; omega
    · obtain rfl : k = cs.length := by omega
      go_wp2_with fail
      go_ret2
      rw [List.take_length] at hown
      exact ⟨_, _, rfl, owns_below hown3' hb, hown.mono hB3.size, hB3.trans (hb.mono hB3.size)⟩
end Go.Proofs.Ytaeeflfhjmjpjaa
