/- The walk of the document's layer 15: Asks. -/
import Derived.Test.YtaeeflfhjmjpjaaRefF
namespace Go.Proofs.Ytaeeflfhjmjpjaa
open Go.RowKit SlRd
set_option linter.unusedVariables false

def AR (kn : List Bool) (l : List Rc) (k : Nat) : List Nat := (List.range k).filter fun c => KN kn l c && (l.getD c default).op
theorem AR_succ (kn : List Bool) (l : List Rc) (k : Nat) : AR kn l (k + 1) = if (KN kn l k && (l.getD k default).op) = true then AR kn l k ++ [k] else AR kn l k := by
  unfold AR
  rw [List.range_succ, List.filter_append, List.filter_cons]
  split <;> simp
theorem AR_le (kn : List Bool) (l : List Rc) (k : Nat) : (AR kn l k).length ≤ k := by
  unfold AR
  exact Nat.le_trans (List.length_filter_le _ _) (by simp)
theorem AR_6 (kn : List Bool) (l : List Rc) : AR kn l 6 = asked kn l := (asked_RK kn l).symm

set_option maxRecDepth 100000 in
set_option maxHeartbeats 1600000 in
theorem refAsks_any {w : World} {kn : List Bool} {l : List Rc} {vk vl : Value} (h : Given w kn l vk vl) (stripe epoch : Int) :
    Calls Try.prog 21 #[.int .i64 stripe, .int .i64 epoch, vk, vl] w fun e w' => ∃ v1 v2, e = .returned (.tuple #[v1, v2]) ∧ w'.ownsRow w.heap.size 3 1 v1 (asked kn l).length (NV (asked kn l)) ∧
      w'.ownsRow w.heap.size 43 9 v2 (asked kn l).length (((asked kn l).map (askOf kn l stripe epoch)).flatMap Ak.cs) ∧ Below w.heap.size w w' := by
  have H6 := Lib.hid (AR_6 kn l)
  have HK := Lib.hid (fun (W : World) (H : Given W kn l vk vl) k hk => isKnown_any H k hk)
  have hfw := Lib.hid (fun (W : World) (H : Given W kn l vk vl) t m hm => refForward_any H t m hm)
  have hA : Hid (∀ i, askOf kn l stripe epoch i = ⟨6, stripe, epoch, 0, if FW kn l (l.getD i default).intent (l.getD i default).mask then 1 else 0, 0, (l.getD i default).intent, ⟨#[]⟩⟩) := fun _ => rfl
  obtain ⟨al, cl, rfl⟩ : ∃ al cl, vl = .slice al l.length cl := by obtain ⟨_, al, cl, rfl, _⟩ := h.rl; exact ⟨_, _, rfl⟩
  obtain ⟨i0, hi, hz0, hz1, hz2⟩ := info_parts info3
  obtain ⟨j0, hj, hy0, hy1, hy2⟩ := info_parts info43
  rw [← H6.out]
  generalize askOf kn l stripe epoch = A at hA ⊢
  have hll := h.bl
  go_enter Try.func21, Try.ntmps21
  go_wp2_with fail
  go_loopw [10, 11, 12] (fun v u c wr => ∃ k : Nat, k ≤ 6 ∧ c = .int .i64 k ∧ wr.ownsRow w.heap.size 3 1 v (AR kn l k).length (NV (AR kn l k)) ∧ wr.ownsRow w.heap.size 43 9 u (AR kn l k).length (((AR kn l k).map A).flatMap Ak.cs) ∧ Below w.heap.size w wr) (fun _ _ c _ => 6 - (intOf c).toNat)
  case atStart => exact ⟨0, Nat.zero_le _, rfl, World.ownsRow_nil _ _ _ _, World.ownsRow_nil _ _ _ _, Below.refl _ _⟩
  case round =>
    obtain ⟨k, hk, rfl, hown1, hown2, hb⟩ := hrel
    by_cases hlt : k < 6
    · have hGr := h.below hb
      have HKk := Lib.hid (HK.out _ hGr k hlt)
      have HS := Lib.hid (AR_succ kn l k)
      have hle := AR_le kn l k
      have HKb : Hid (KN kn l k = true → k < l.length) := fun hh => by
        unfold KN at hh
        rw [Bool.and_eq_true, decide_eq_true_eq] at hh
        exact Nat.lt_of_lt_of_le hh.1 (many_le kn l).2.1
      cases hx : KN kn l k
      · have HE : Hid (AR kn l (k + 1) = AR kn l k) := by show _ = _; rw [HS.out, hx]; rfl
        rw [hx] at HKk
        clear hx HS HKb
        go_wp2_with fail
        refine HKk.out.mono ?_; rintro e w' ⟨rfl, rfl⟩
        go_wp2_with fail
        go_roundw
        case rel => exact ⟨k + 1, by omega, by go_num, by rw [HE.out]; exact hown1, by rw [HE.out]; exact hown2, hb⟩
        case measure => simp [intOf]; omega
      · have hin := HKb.out hx
        obtain ⟨b2, o2, rfl, hb2, _, hrow⟩ := hGr.cells k hin
        have i1 : (0 : Int) ≤ (k : Int) := by omega
        have i2 : (k : Int) < (l.length : Int) := by omega
        have hAx := hA.out k
        have hmk : -9223372036854775808 ≤ (l.getD k default).mask ∧ (l.getD k default).mask ≤ 9223372036854775807 := by
          rw [List.getD_eq_getElem?_getD, List.getElem?_eq_getElem hin]
          exact hGr.bm _ (List.getElem_mem hin)
        rw [hx] at HKk
        have hSx := HS.out
        rw [hx] at hSx
        generalize hr : l.getD k default = r at hrow hAx hmk hSx
        have HR := Lib.hid hr
        clear hr
        have g5 := hrow 5 (by omega); have g6 := hrow 6 (by omega); have g7 := hrow 7 (by omega); have g8 := hrow 8 (by omega)
        simp only [Rc.cs, List.getElem?_cons_zero, List.getElem?_cons_succ] at g5 g6 g7 g8
        have HX := Lib.hid hSx
        have HA := Lib.hid hAx
        clear hrow hAx hSx hx HS HKb
        cases hop : r.op
        · have HE : Hid (AR kn l (k + 1) = AR kn l k) := by show _ = _; rw [HX.out, hop]; rfl
          rw [hop] at g5
          clear hop HX
          go_wp2_with fail
          refine HKk.out.mono ?_; rintro e w' ⟨rfl, rfl⟩
          go_wp2_with fail
          go_roundw
          case rel => exact ⟨k + 1, by omega, by go_num, by rw [HE.out]; exact hown1, by rw [HE.out]; exact hown2, hb⟩
          case measure => simp [intOf]; omega
        · have HE : Hid (AR kn l (k + 1) = AR kn l k ++ [k]) := by show _ = _; rw [HX.out, hop]; rfl
          rw [hop] at g5
          clear hop HX
          go_wp2_with fail
          refine HKk.out.mono ?_; rintro e w' ⟨rfl, rfl⟩
          go_upto_region 9 with fail
          go_still_tail 12, (by kernel_rfl)
          change wpList _ _ _ _ _ wr.drew
          have hd4 : Below wr.heap.size wr wr.drew := (Below.refl _ _).drew
          have hG5 := hGr.below hd4
          generalize wr.drew = w5 at hd4 hG5 ⊢
          go_wp2_with fail
          refine (hfw.out _ hG5 r.intent r.mask hmk).mono ?_; rintro e w6 ⟨rfl, hb6⟩
          have h46 := hd4.trans (hb6.mono hd4.size)
          have n1 := owns_below hown1 h46
          have n2 := owns_below hown2 h46
          have hb7 := hb.trans (h46.mono hb.size)
          have k6 := (h46.cell (p := ⟨b2, o2 + k * 10 + 6, none⟩) hb2).trans g6
          have k7 := (h46.cell (p := ⟨b2, o2 + k * 10 + 7, none⟩) hb2).trans g7
          have hb2' := Nat.lt_of_lt_of_le hb2 h46.size
          have hbw1 := Lib.hid (fun p hp => owns_lt n1 p hp)
          have hbw2 := Lib.hid (fun p hp => owns_lt n2 p hp)
          clear hd4 hG5 hb6 h46 g5 g6 g7 g8 hown1 hown2 hb
          obtain ⟨z, hz⟩ : ∃ z : Int, z = if FW kn l r.intent r.mask then 1 else 0 := ⟨_, rfl⟩
          rw [← hz] at HA
          generalize FW kn l r.intent r.mask = f at hz ⊢
          have HZ := Lib.hid hz
          clear hz
          go_upto_if 47 with fail
          go_cut [14] (fun s14 wx => s14 = .int .i64 z ∧ wx = w6)
          case first =>
            go_wp2_with fail
            all_goals
              go_meet
              exact ⟨by rw [HZ.out]; simp [*], rfl⟩
          case rest =>
            obtain ⟨rfl, rfl⟩ := hcut
            go_wp2_with (at_builtin; refine wpList_append_own _ rfl (.tmp 48) (.tmp 50) 23 rfl w.heap.size 3 i0 (.int .i64 0) 1 8 Try.underlying23 hi hz0 hz1 hz2 rfl (by decide) _ _ _ rfl (n1.alloc _) ⟨wc.heap.size, 0, none⟩ 1 1 [.int .i64 (k : Int)] rfl rfl ?c1 ?c2 ?c3 ?c4 ?c5 ?_)
            case c1 =>
              intro j u hj
              match j, hj with
              | 0, hj => simp at hj; subst hj; simp [Addr.add]
            case c2 => intro u hu; simp at hu; subst hu; rfl
            case c3 => unfold maxLen; omega
            case c4 => omega
            case c5 => have := hb7.size; simp; omega
            · intro v' w7 o1 hg1 _
              have hb8 := (hb7.alloc hb7.size _).grown hg1 (by have := hb7.size; simp; omega) (fun q hq => (hbw1.out q hq).1)
              have o2x := owns_other (owns_below n2 ((Below.refl _ _).alloc (Nat.le_refl _) _)) (n1.alloc _) (by decide) hg1
              obtain ⟨b3, o3, he, _, _, hrow3⟩ := (h.below hb8).cells k hin
              cases he
              rw [HR.out] at hrow3
              have c6 := hrow3 6 (by omega)
              have c7 := hrow3 7 (by omega)
              simp only [Rc.cs, List.getElem?_cons_zero, List.getElem?_cons_succ] at c6 c7
              have O1 : Hid (w7.ownsRow w.heap.size 3 1 v' (AR kn l (k + 1)).length (NV (AR kn l (k + 1)))) := by
                show World.ownsRow _ _ _ _ _ _ _
                rw [HE.out, List.length_append, NV, List.map_append]
                exact o1
              have hbw3 := Lib.hid (fun p hp => owns_lt o2x p hp)
              clear n1 n2 o1 hg1 hb7 k6 k7 hrow3
              go_wp2_with (at_builtin; refine wpList_append_own _ rfl (.tmp 52) (.tmp 62) 29 rfl w.heap.size 43 j0 _ 9 80 Try.underlying29 hj hy0 hy1 hy2 rfl (by decide) _ _ _ rfl (o2x.alloc _) ⟨w7.heap.size, 0, none⟩ 1 1 (Ak.cs ⟨6, stripe, epoch, 0, z, 0, r.intent, ⟨#[]⟩⟩) rfl rfl ?d1 ?d2 ?d3 ?d4 ?d5 ?_)
              try (case d1 =>
                intro j u hj
                rw [Go.WideShapes.add_plain, Nat.zero_add, World.cell?_alloc_at _ _ _ _ rfl]
                simpa using hj)
              case d2 =>
                first
                  | exact ⟨rfl, rfl, rfl, rfl, rfl, rfl, rfl, rfl, rfl⟩
                  | (intro u hu
                     simp only [Ak.cs, List.mem_cons, List.not_mem_nil, or_false] at hu
                     rcases hu with rfl | rfl | rfl | rfl | rfl | rfl | rfl | rfl | rfl <;> rfl)
              case d3 => unfold maxLen; omega
              case d4 => omega
              case d5 => have := hb8.size; simp; omega
              · intro v2 w8 o3 hg2 _
                have hb9 := (hb8.alloc hb8.size _).grown hg2 (by have := hb8.size; simp; omega) (fun q hq => (hbw3.out q hq).1)
                have O4 := Lib.hid (owns_other (owns_below O1.out ((Below.refl _ _).alloc (Nat.le_refl _) _)) (o2x.alloc _) (by decide) hg2)
                have O5 : Hid (w8.ownsRow w.heap.size 43 9 v2 (AR kn l (k + 1)).length (((AR kn l (k + 1)).map A).flatMap Ak.cs)) := by
                  show World.ownsRow _ _ _ _ _ _ _
                  rw [HE.out, List.map_append, List.flatMap_append, List.length_append]
                  show World.ownsRow _ _ _ _ _ _ (_ ++ (Ak.cs (A k) ++ []))
                  rw [HA.out, List.append_nil]
                  exact o3
                have HB := Lib.hid hb9
                clear o2x o3 hg2 hb8 hb9
                go_wp2_with fail
                go_roundw
                case rel => exact ⟨k + 1, by omega, by go_num, O4.out, O5.out, HB.out⟩
                case measure => simp [intOf]; omega
    · obtain rfl : k = 6 := by omega
      go_wp2_with fail
      go_ret2
      exact ⟨_, _, rfl, hown1, hown2, hb⟩
end Go.Proofs.Ytaeeflfhjmjpjaa
