/- The walks of the document's layer 15: Forward and Done. -/
import Derived.Test.YtaeeflfhjmjpjaaRefP
namespace Go.Proofs.Ytaeeflfhjmjpjaa
open Go.RowKit SlRd
set_option linter.unusedVariables false

def rD2 (kn : List Bool) (l : List Rc) (t : Tg) (m : Int) (k : Nat) : Bool := (RK kn l m k).any fun i => doneP t (l.getD i default)
def rL (kn : List Bool) (l : List Rc) (t : Tg) (m : Int) (k : Nat) : Bool := !(RK kn l m k).any fun i => !openP t (l.getD i default)
def rS (kn : List Bool) (l : List Rc) (m : Int) (k : Nat) : Bool := (RK kn l m k).any fun _ => true
theorem FW_r (kn : List Bool) (l : List Rc) (t : Tg) (m : Int) : FW kn l t m = (rD2 kn l t m 6 || (rS kn l m 6 && rL kn l t m 6)) := FW_RK kn l t m
theorem DN_r (kn : List Bool) (l : List Rc) (t : Tg) : DN kn l t = rD2 kn l t 63 6 := DN_RK kn l t
theorem r_hit {kn : List Bool} {l : List Rc} (t : Tg) {m : Int} {k : Nat} (h : (KN kn l k && bitAt m k) = true) :
    rD2 kn l t m (k + 1) = (rD2 kn l t m k || doneP t (l.getD k default)) ∧ rL kn l t m (k + 1) = (rL kn l t m k && openP t (l.getD k default)) ∧ rS kn l m (k + 1) = true := by
  unfold rD2 rL rS
  rw [RK_hit h]
  simp
theorem r_miss {kn : List Bool} {l : List Rc} (t : Tg) {m : Int} {k : Nat} (h : (KN kn l k && bitAt m k) = false) :
    rD2 kn l t m (k + 1) = rD2 kn l t m k ∧ rL kn l t m (k + 1) = rL kn l t m k ∧ rS kn l m (k + 1) = rS kn l m k := by
  unfold rD2 rL rS
  rw [RK_miss h]
  exact ⟨rfl, rfl, rfl⟩
theorem r_found {kn : List Bool} {l : List Rc} (t : Tg) {m : Int} {k : Nat} (hk : k < 6) (h : (KN kn l k && bitAt m k) = true) (hd : doneP t (l.getD k default) = true) : rD2 kn l t m 6 = true := by
  unfold rD2 RK
  rw [List.any_eq_true]
  exact ⟨k, List.mem_filter.2 ⟨List.mem_range.2 hk, h⟩, hd⟩

set_option maxRecDepth 100000 in
set_option maxHeartbeats 1600000 in
theorem refForward_any {w : World} {kn : List Bool} {l : List Rc} {vk vl : Value} (h : Given w kn l vk vl) (t : Tg) (mask : Int) (hm : -9223372036854775808 ≤ mask ∧ mask ≤ 9223372036854775807) :
    Calls Try.prog 22 #[vk, vl, t.v, .int .i64 mask] w fun e w' => e = .returned (.bool (FW kn l t mask)) ∧ Below w.heap.size w w' := by
  have HFW := Lib.hid (FW_r kn l t mask)
  have HK := Lib.hid (fun (W : World) (H : Given W kn l vk vl) k hk => isKnown_any H k hk)
  have HBt := Lib.hid (fun k hk W => bit_any mask k hk W hm)
  have heq := eqTag
  obtain ⟨te, ts⟩ := t
  obtain ⟨al, cl, rfl⟩ : ∃ a c, vl = .slice a l.length c := by obtain ⟨_, a, c, rfl, _⟩ := h.rl; exact ⟨_, _, rfl⟩
  have hll := h.bl
  go_enter Try.func22, Try.ntmps22
  go_wp2_with fail
  have N4 := New.of w [.int .i64 te, .int .i64 ts] 34
  generalize w.alloc (.cells [.int .i64 te, .int .i64 ts].toArray 34) = W at N4 ⊢
  obtain ⟨N5, _, N7, N8⟩ := N4
  have hG := h.below N7
  have T0 := N5 0
  have T1 := N5 1
  simp only [List.getElem?_cons_zero, List.getElem?_cons_succ] at T0 T1
  generalize w.heap.size = T at N8 T0 T1 ⊢
  clear N5 h
  go_loopw [9, 10, 11] (fun a s c wr => ∃ k : Nat, k ≤ 6 ∧ c = .int .i64 k ∧ rD2 kn l ⟨te, ts⟩ mask k = false ∧ a = .bool (rL kn l ⟨te, ts⟩ mask k) ∧ s = .bool (rS kn l mask k) ∧ Below W.heap.size W wr) (fun _ _ c _ => 6 - (intOf c).toNat)
  case atStart => exact ⟨0, by omega, rfl, rfl, rfl, rfl, Below.refl _ _⟩
  case round =>
    obtain ⟨k, hk, rfl, hd, rfl, rfl, hb⟩ := hrel
    have hD := Lib.hid hd
    clear hd
    by_cases hlt : k < 6
    · have hGr := hG.below hb
      have t0 := (hb.cell (p := ⟨T, 0, none⟩) N8).trans T0
      have t1 := (hb.cell (p := ⟨T, 1, none⟩) N8).trans T1
      have HKk := Lib.hid (HK.out _ hGr k hlt)
      have HBk := Lib.hid (HBt.out k hlt)
      have HM := Lib.hid (r_miss (kn := kn) (l := l) ⟨te, ts⟩ (m := mask) (k := k))
      have HH := Lib.hid (r_hit (kn := kn) (l := l) ⟨te, ts⟩ (m := mask) (k := k))
      have HFd := Lib.hid (r_found (kn := kn) (l := l) ⟨te, ts⟩ (m := mask) hlt)
      have HKb : Hid (KN kn l k = true → k < l.length) := fun hh => by
        unfold KN at hh
        rw [Bool.and_eq_true, decide_eq_true_eq] at hh
        exact Nat.lt_of_lt_of_le hh.1 (many_le kn l).2.1
      generalize rL kn l ⟨te, ts⟩ mask k = a at HM HH ⊢
      generalize rS kn l mask k = s at HM ⊢
      cases hx : KN kn l k
      · obtain ⟨e1, e2, e3⟩ := HM.out (by rw [hx]; rfl)
        have E1 := Lib.hid (e1.trans hD.out)
        have E2 := Lib.hid e2
        have E3 := Lib.hid e3
        rw [hx] at HKk
        clear e1 e2 e3 hx HM HH HFd HKb
        go_wp2_with fail
        refine HKk.out.mono ?_; rintro e w' ⟨rfl, rfl⟩
        go_wp2_with fail
        refine (HBk.out _).mono ?_; rintro e w' ⟨rfl, rfl⟩
        go_wp2_with fail
        go_roundw
        case rel => exact ⟨k + 1, by omega, by go_num, E1.out, by rw [E2.out], by rw [E3.out], hb⟩
        case measure => simp [intOf]; omega
      · cases hy : bitAt mask k
        · obtain ⟨e1, e2, e3⟩ := HM.out (by rw [hx, hy]; rfl)
          have E1 := Lib.hid (e1.trans hD.out)
          have E2 := Lib.hid e2
          have E3 := Lib.hid e3
          rw [hx] at HKk
          rw [hy] at HBk
          clear e1 e2 e3 hx hy HM HH HFd HKb
          go_wp2_with fail
          refine HKk.out.mono ?_; rintro e w' ⟨rfl, rfl⟩
          go_wp2_with fail
          refine (HBk.out _).mono ?_; rintro e w' ⟨rfl, rfl⟩
          go_wp2_with fail
          go_roundw
          case rel => exact ⟨k + 1, by omega, by go_num, E1.out, by rw [E2.out], by rw [E3.out], hb⟩
          case measure => simp [intOf]; omega
        · have hin := HKb.out hx
          obtain ⟨b2, o2, rfl, hb2, _, hrow⟩ := hGr.cells k hin
          have i1 : (0 : Int) ≤ (k : Int) := by omega
          have i2 : (k : Int) < (l.length : Int) := by omega
          obtain ⟨e1, e2, e3⟩ := HH.out (by rw [hx, hy]; rfl)
          have hfd := HFd.out (by rw [hx, hy]; rfl)
          have E1 : Hid (rD2 kn l ⟨te, ts⟩ mask (k + 1) = doneP ⟨te, ts⟩ (l.getD k default)) := by show _ = _; rw [e1, hD.out]; rfl
          have E2 := Lib.hid e2
          have E3 := Lib.hid e3
          have E4 := Lib.hid hfd
          rw [hx] at HKk
          rw [hy] at HBk
          clear e1 e2 e3 hfd hx hy HM HH HFd HKb
          generalize l.getD k default = r at hrow E1 E2 E4
          have g2 := hrow 2 (by omega); have g3 := hrow 3 (by omega); have g5 := hrow 5 (by omega); have g6 := hrow 6 (by omega); have g7 := hrow 7 (by omega)
          simp only [Rc.cs, List.getElem?_cons_zero, List.getElem?_cons_succ] at g2 g3 g5 g6 g7
          clear hrow
          go_wp2_with fail
          refine HKk.out.mono ?_; rintro e w' ⟨rfl, rfl⟩
          go_wp2_with fail
          refine (HBk.out _).mono ?_; rintro e w' ⟨rfl, rfl⟩
          go_wp2_with fail
          go_quiet (fail)
          cases hdn : (r.done.e == te && r.done.s == ts)
          · have E5 : Hid (rD2 kn l ⟨te, ts⟩ mask (k + 1) = false) := E1.out.trans hdn
            clear hdn E1 E4
            cases hop : r.op
            all_goals
              rw [hop] at g5
              have HO := Lib.hid hop
              clear hop
              cases a
            all_goals
              go_wp2_with fail
              go_quiet (fail)
              go_wp2_with fail
              go_roundw
              case measure => simp [intOf]; omega
              case rel => exact ⟨k + 1, by omega, by go_num, E5.out, by rw [E2.out, openP, HO.out]; rfl, by rw [E3.out], below_drewN hb _⟩
          · have E5 := Lib.hid (E4.out hdn)
            clear hdn E1 E4
            go_wp2_with fail
            go_ret
            exact ⟨by rw [HFW.out, E5.out]; rfl, N7.trans ((below_drewN hb _).mono N7.size)⟩
    · obtain rfl : k = 6 := by omega
      have hE : Hid (FW kn l ⟨te, ts⟩ mask = (rS kn l mask 6 && rL kn l ⟨te, ts⟩ mask 6)) := by show _ = _; rw [HFW.out, hD.out]; rfl
      clear HFW
      generalize rL kn l ⟨te, ts⟩ mask 6 = a at hE ⊢
      generalize rS kn l mask 6 = s at hE ⊢
      cases a <;> cases s
      all_goals
        go_wp2_with fail
        go_ret
        exact ⟨by rw [hE.out]; rfl, N7.trans (hb.mono N7.size)⟩

set_option maxRecDepth 100000 in
set_option maxHeartbeats 1600000 in
theorem refDone_any {w : World} {kn : List Bool} {l : List Rc} {vk vl : Value} (h : Given w kn l vk vl) (t : Tg) :
    Calls Try.prog 24 #[vk, vl, t.v] w fun e w' => e = .returned (.bool (DN kn l t)) ∧ Below w.heap.size w w' := by
  have HFW := Lib.hid (DN_r kn l t)
  have HK := Lib.hid (fun (W : World) (H : Given W kn l vk vl) k hk => isKnown_any H k hk)
  have heq := eqTag
  obtain ⟨te, ts⟩ := t
  obtain ⟨al, cl, rfl⟩ : ∃ a c, vl = .slice a l.length c := by obtain ⟨_, a, c, rfl, _⟩ := h.rl; exact ⟨_, _, rfl⟩
  have hll := h.bl
  go_enter Try.func24, Try.ntmps24
  go_wp2_with fail
  have N4 := New.of w [.int .i64 te, .int .i64 ts] 34
  generalize w.alloc (.cells [.int .i64 te, .int .i64 ts].toArray 34) = W at N4 ⊢
  obtain ⟨N5, _, N7, N8⟩ := N4
  have hG := h.below N7
  have T0 := N5 0
  have T1 := N5 1
  simp only [List.getElem?_cons_zero, List.getElem?_cons_succ] at T0 T1
  generalize w.heap.size = T at N8 T0 T1 ⊢
  clear N5 h
  go_loopw [7] (fun c wr => ∃ k : Nat, k ≤ 6 ∧ c = .int .i64 k ∧ rD2 kn l ⟨te, ts⟩ 63 k = false ∧ Below W.heap.size W wr) (fun c _ => 6 - (intOf c).toNat)
  case atStart => exact ⟨0, by omega, rfl, rfl, Below.refl _ _⟩
  case round =>
    obtain ⟨k, hk, rfl, hd, hb⟩ := hrel
    have hD := Lib.hid hd
    clear hd
    by_cases hlt : k < 6
    · have hGr := hG.below hb
      have t0 := (hb.cell (p := ⟨T, 0, none⟩) N8).trans T0
      have t1 := (hb.cell (p := ⟨T, 1, none⟩) N8).trans T1
      have HKk := Lib.hid (HK.out _ hGr k hlt)
      have hy : bitAt 63 k = true := bit63 k hlt
      have HM := Lib.hid (r_miss (kn := kn) (l := l) ⟨te, ts⟩ (m := 63) (k := k))
      have HH := Lib.hid (r_hit (kn := kn) (l := l) ⟨te, ts⟩ (m := 63) (k := k))
      have HFd := Lib.hid (r_found (kn := kn) (l := l) ⟨te, ts⟩ (m := 63) hlt)
      have HKb : Hid (KN kn l k = true → k < l.length) := fun hh => by
        unfold KN at hh
        rw [Bool.and_eq_true, decide_eq_true_eq] at hh
        exact Nat.lt_of_lt_of_le hh.1 (many_le kn l).2.1
      cases hx : KN kn l k
      · obtain ⟨e1, e2, e3⟩ := HM.out (by rw [hx]; rfl)
        have E1 := Lib.hid (e1.trans hD.out)
        rw [hx] at HKk
        clear e1 e2 e3 hx hy HM HH HFd HKb
        go_wp2_with fail
        refine HKk.out.mono ?_; rintro e w' ⟨rfl, rfl⟩
        go_wp2_with fail
        go_quiet (fail)
        go_wp2_with fail
        go_roundw
        case rel => exact ⟨k + 1, by omega, by go_num, E1.out, below_drewN hb _⟩
        case measure => simp [intOf]; omega
      · have hin := HKb.out hx
        obtain ⟨b2, o2, rfl, hb2, _, hrow⟩ := hGr.cells k hin
        have i1 : (0 : Int) ≤ (k : Int) := by omega
        have i2 : (k : Int) < (l.length : Int) := by omega
        obtain ⟨e1, e2, e3⟩ := HH.out (by rw [hx, hy]; rfl)
        have hfd := HFd.out (by rw [hx, hy]; rfl)
        have E1 : Hid (rD2 kn l ⟨te, ts⟩ 63 (k + 1) = doneP ⟨te, ts⟩ (l.getD k default)) := by show _ = _; rw [e1, hD.out]; rfl
        have E4 := Lib.hid hfd
        rw [hx] at HKk
        clear e1 e2 e3 hfd hx hy HM HH HFd HKb
        generalize l.getD k default = r at hrow E1 E4
        have g2 := hrow 2 (by omega); have g3 := hrow 3 (by omega)
        simp only [Rc.cs, List.getElem?_cons_zero, List.getElem?_cons_succ] at g2 g3
        clear hrow
        go_wp2_with fail
        refine HKk.out.mono ?_; rintro e w' ⟨rfl, rfl⟩
        go_wp2_with fail
        go_quiet (fail)
        cases hdn : (r.done.e == te && r.done.s == ts)
        · have E5 : Hid (rD2 kn l ⟨te, ts⟩ 63 (k + 1) = false) := E1.out.trans hdn
          clear hdn E1 E4
          go_wp2_with fail
          go_roundw
          case measure => simp [intOf]; omega
          case rel => exact ⟨k + 1, by omega, by go_num, E5.out, below_drewN hb _⟩
        · have E5 := Lib.hid (E4.out hdn)
          clear hdn E1 E4
          go_wp2_with fail
          go_ret
          exact ⟨by rw [HFW.out, E5.out]; rfl, N7.trans ((below_drewN hb _).mono N7.size)⟩
    · obtain rfl : k = 6 := by omega
      go_wp2_with fail
      go_ret
      exact ⟨by rw [HFW.out, hD.out]; rfl, N7.trans (hb.mono N7.size)⟩
end Go.Proofs.Ytaeeflfhjmjpjaa
