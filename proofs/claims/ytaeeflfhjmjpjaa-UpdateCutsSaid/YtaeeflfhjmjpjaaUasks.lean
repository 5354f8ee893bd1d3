/- Update.Asks. -/
import Derived.Test.YtaeeflfhjmjpjaaUask
namespace Go.Proofs.Ytaeeflfhjmjpjaa
open Go.RowKit SlRd
set_option linter.unusedVariables false

theorem ap23 : Ap Try.prog 23 3 1 8 := Ap.of Try.underlying23 info3 rfl (by decide)
theorem ap29 : Ap Try.prog 29 43 9 80 := Ap.of Try.underlying29 info43 rfl (by decide)
theorem ak_cells (q : Ak) : ∀ u ∈ q.cs, u.oneCell' = true := by
  intro v hv
  simp only [Ak.cs, List.mem_cons, List.not_mem_nil, or_false] at hv
  rcases hv with rfl | rfl | rfl | rfl | rfl | rfl | rfl | rfl | rfl <;> rfl
/-- is a part to be asked, in a state? -/
def wants (st : Int) (p : Pt) : Bool := (st == 0 && !p.op) || (st == 1 && !p.dn)
def toAsk (u : Up) : List Pt := u.parts.filter (wants (stU u))
def colsOf (l : List Pt) : List Value := l.map fun p => Value.int .i64 p.col
def begun (u : Up) : Up := { u with began := u.began || decide (0 < (toAsk u).length) }
theorem filter_take_succ {α : Type} (p : α → Bool) (l : List α) (k : Nat) (h : k < l.length) : (l.take (k + 1)).filter p = if p l[k] then (l.take k).filter p ++ [l[k]] else (l.take k).filter p := by
  rw [List.take_succ_eq_append_getElem h, List.filter_append]
  by_cases hp : p l[k] <;> simp [hp]

set_option maxRecDepth 100000 in
set_option maxHeartbeats 3200000 in
theorem asksU_any {W : World} {B : Nat} {v : Value} {u : Up} (hu : UO W B v u) (hl : u.parts.length ≤ 1000) :
    Calls Try.prog 30 #[.pointer (some ⟨B, 0, none⟩)] W fun e w' => ∃ v1 v2, e = .returned (.tuple #[v1, v2]) ∧ w'.ownsRow W.heap.size 3 1 v1 (toAsk u).length (colsOf (toAsk u)) ∧
      w'.ownsRow W.heap.size 43 9 v2 (toAsk u).length (((toAsk u).map fun p => askU u p (stU u)).flatMap Ak.cs) ∧ UO w' B v (begun u) ∧ SlRd.Touch (US B v) W w' := by
  obtain ⟨a, c, rfl⟩ := hu.form
  have HU := Lib.hid hu
  have HST := Lib.hid (state_any hu hl)
  have HAK := Lib.hid (fun w (hb : Below W.heap.size W w) p => ask_any (hu.below hb) p (stU u))
  have HFIN : Hid (∀ w, Below W.heap.size W w → decide (0 < (toAsk u).length) = false → UO w B (.slice a u.parts.length c) (begun u) ∧ SlRd.Touch (US B (.slice a u.parts.length c)) W w) := Lib.hid fun w hb h0 => by
    refine ⟨?_, SlRd.Touch.of_below hb⟩
    have : begun u = u := by unfold begun; rw [h0, Bool.or_false]
    rw [this]
    exact hu.below hb
  have HFIN2 : Hid (∀ w, Below W.heap.size W w → decide (0 < (toAsk u).length) = true → UO (w.setCell ⟨B, 5, none⟩ (.bool true)) B (.slice a u.parts.length c) (begun u) ∧ SlRd.Touch (US B (.slice a u.parts.length c)) W (w.setCell ⟨B, 5, none⟩ (.bool true))) := Lib.hid fun w hb h0 => by
    have h2 := hu.below hb
    refine ⟨⟨?_, ?_⟩, (SlRd.Touch.of_below hb).trans (SlRd.Touch.setCell _ _ (.inl rfl))⟩
    · have : (begun u).cells (.slice a u.parts.length c) = #[.int .i64 u.stripe, .int .i64 u.mask, .int .i64 u.e, .int .i64 u.s, .slice a u.parts.length c, .bool true, .bool u.failed] := by
        unfold begun
        rw [h0, Bool.or_true]
      rw [this]
      exact h2.h.set_ 5 (.bool true)
    · exact owns_setCell h2.own _ _ fun k hk => by
        have := own_blk_ne h2.own h2.h (by decide)
        intro e
        rw [hk] at this
        exact this (by rw [e])
  have HBL := Lib.hid (fun w (hb : Below W.heap.size W w) => (hu.below hb).h)
  have h4 := hu.h.cell 4
  simp only [List.getElem?_toArray, List.getElem?_cons_zero, List.getElem?_cons_succ] at h4
  have hr : Rd W 4 (.slice a u.parts.length c) u.parts.length (u.parts.flatMap Pt.cs) := Rd.of_owns hu.own
  clear hu
  generalize hta : toAsk u = ta at HFIN HFIN2 ⊢
  have HA : Hid (u.parts.filter (wants (stU u)) = ta) := Lib.hid (by rw [← hta]; rfl)
  clear hta
  generalize hA : (fun p => askU u p (stU u)) = A at ⊢
  have HAA : Hid (∀ p, askU u p (stU u) = A p) := Lib.hid fun p => by rw [← hA]
  have HAK2 : Hid (∀ w, Below W.heap.size W w → ∀ (p : Pt), Calls Try.prog 48 #[.pointer (some ⟨B, 0, none⟩), .agg #[.int .i64 p.col, .string p.block, .bool p.op, .bool p.dn], .int .i64 (stU u)] w fun e w' => e = .returned (A p).v ∧ Below w.heap.size w w') := Lib.hid fun w hb p => by
    rw [← HAA.out p]
    exact HAK.out w hb p
  clear hA HAK HAA
  generalize stU u = st at *
  generalize hpl : u.parts = l at *
  go_enter Try.func30, Try.ntmps30
  go_wp2_with fail
  refine HST.out.mono ?_; rintro e w1 ⟨rfl, hb1⟩
  have h41 : w1.cell? ⟨B, 4, none⟩ = some (.slice a l.length c) := (Blk.cell (HBL.out _ hb1) 4).trans (by simp)
  clear h4 HST
  go_wp2_with fail
  go_loopw [4, 5, 16] (fun vc va i wr => ∃ k : Nat, k ≤ l.length ∧ i = .int .i64 k ∧ wr.ownsRow W.heap.size 3 1 vc ((l.take k).filter (wants st)).length (colsOf ((l.take k).filter (wants st))) ∧
    wr.ownsRow W.heap.size 43 9 va ((l.take k).filter (wants st)).length ((((l.take k).filter (wants st)).map A).flatMap Ak.cs) ∧ Below W.heap.size W wr) (fun _ _ i _ => l.length - (intOf i).toNat)
  case atStart => exact ⟨0, Nat.zero_le _, rfl, World.ownsRow_nil _ _ _ _, World.ownsRow_nil _ _ _ _, hb1⟩
  case round =>
    obtain ⟨k, hk, rfl, own4, own5, hb⟩ := hrel
    have hlen : ((l.take k).filter (wants st)).length ≤ k := Nat.le_trans (List.length_filter_le _ _) (List.length_take_le _ _)
    by_cases hlt : k < l.length
    · obtain ⟨b, o, rfl, hbb, hc1⟩ := Rd.atk Pt.cs (fun _ => rfl) (hr.below hb) rfl k hlt
      have HS := Lib.hid (filter_take_succ (wants st) l k hlt)
      generalize l[k] = x at hc1 HS
      generalize (l.take k).filter (wants st) = cs at *
      have HX : Hid (wants st x = ((st == 0 && !x.op) || (st == 1 && !x.dn))) := Lib.hid rfl
      generalize wants st x = q at HS HX
      have HQ := Lib.hid (fun w (hb : Below W.heap.size W w) => HAK2.out w hb x)
      generalize hax : A x = ax at HQ
      have HAX := Lib.hid hax
      clear hax
      obtain ⟨xc, xb, xo, xd⟩ := x
      have p0 := hc1 0 (by omega); have p1 := hc1 1 (by omega); have p2 := hc1 2 (by omega); have p3 := hc1 3 (by omega)
      simp only [Pt.cs, List.getElem?_cons_zero, List.getElem?_cons_succ, Nat.add_zero] at p0 p1 p2 p3
      clear hc1
      go_upto_region 7 with fail
      have own42 := own4.alloc (.cells #[.int .i64 xc, .string xb, .bool xo, .bool xd] 88)
      have own52 := own5.alloc (.cells #[.int .i64 xc, .string xb, .bool xo, .bool xd] 88)
      have hb2 := below_al hb (.cells #[.int .i64 xc, .string xb, .bool xo, .bool xd] 88)
      have bX := Blk.new wr 88 #[.int .i64 xc, .string xb, .bool xo, .bool xd]
      generalize wr.alloc (.cells #[.int .i64 xc, .string xb, .bool xo, .bool xd] 88) = w2 at own42 own52 hb2 bX ⊢
      generalize wr.heap.size = X at bX ⊢
      clear own4 own5 hb p0 p1 p2 p3 hbb
      have y0 := bX.cell 0; have y1 := bX.cell 1; have y2 := bX.cell 2; have y3 := bX.cell 3
      simp only [List.getElem?_toArray, List.getElem?_cons_zero, List.getElem?_cons_succ] at y0 y1 y2 y3
      go_cut [35] from 20 to 34 (fun v wx => wx = w2 ∧ v = .bool q)
      case first =>
        by_cases h0 : st = 0
        · subst h0
          cases xo
          · go_wp2_with fail
            go_meet
            exact ⟨rfl, by rw [HX.out]; rfl⟩
          · go_wp2_with fail
            go_meet
            exact ⟨rfl, by rw [HX.out]; rfl⟩
        · have e0 : (st == 0) = false := by simpa using h0
          by_cases h1 : st = 1
          · subst h1
            cases xd
            · go_wp2_with fail
              go_meet
              exact ⟨rfl, by rw [HX.out]; rfl⟩
            · go_wp2_with fail
              go_meet
              exact ⟨rfl, by rw [HX.out]; rfl⟩
          · have e1 : (st == 1) = false := by simpa using h1
            go_wp2_with fail
            go_meet
            exact ⟨rfl, by rw [HX.out, e0, e1]; rfl⟩
      case rest =>
        obtain ⟨rfl, rfl⟩ := hcut
        cases q
        · have HS2 : Hid ((l.take (k + 1)).filter (wants st) = cs) := Lib.hid (by rw [HS.out]; rfl)
          go_wp2_with fail
          go_roundw
          case rel => exact ⟨k + 1, by omega, by go_num, by rw [HS2.out]; exact own42, by rw [HS2.out]; exact own52, hb2⟩
          case measure => simp [intOf]; omega
        · have HS2 : Hid ((l.take (k + 1)).filter (wants st) = cs ++ [⟨xc, xb, xo, xd⟩]) := Lib.hid (by rw [HS.out]; rfl)
          go_wp2_with (at_builtin; refine wpList_app ap23 (by rfl) _ _ rfl W (below_al hb2 _) _ _ (colsOf cs) rfl (own42.alloc _) _ 1 1 [.int .i64 xc] rfl (Rd.list wc [.int .i64 xc] 3 1 1 rfl) (fun u hu => by simp at hu; subst hu; rfl) (by unfold maxLen; omega) (by omega) ?_)
          intro v4 w4 own4 hg4 hb4
          have own52' := owns_other (own52.alloc (.cells #[.int .i64 xc] 3)) (own42.alloc (.cells #[.int .i64 xc] 3)) (by decide) hg4
          have bX4 : Blk w4 X 88 _ := (hg4.block X (Nat.lt_of_lt_of_le bX.lt (by simp)) (Ne.symm (own_blk_ne own42 bX (by decide)))).trans ((Below.heap_alloc _ _ X bX.lt).trans bX)
          have hO4 : w4.ownsRow W.heap.size 3 1 v4 (cs.length + 1) (colsOf (cs ++ [(⟨xc, xb, xo, xd⟩ : Pt)])) := by
            unfold colsOf
            rw [List.map_append]
            exact own4
          clear own42 own52 hb2 hg4 own4 bX y0 y1 y2 y3
          have y0 := bX4.cell 0; have y1 := bX4.cell 1; have y2 := bX4.cell 2; have y3 := bX4.cell 3
          simp only [List.getElem?_toArray, List.getElem?_cons_zero, List.getElem?_cons_succ] at y0 y1 y2 y3
          go_wp2_with fail
          refine (HQ.out _ hb4).mono ?_; rintro e w5 ⟨rfl, hb5⟩
          have own43 := owns_below hO4 hb5
          have own53 := owns_below own52' hb5
          have hb15 := below_then hb4 hb5
          clear hO4 own52' hb4 hb5 y0 y1 y2 y3 bX4
          obtain ⟨qk, qs, qe, qq, qm, qn, ⟨qo, qp⟩, qb⟩ := ax
          go_wp2_with (at_builtin; refine wpList_app ap29 (by rfl) _ _ rfl W (below_al hb15 _) _ _ ((cs.map A).flatMap Ak.cs) rfl (own53.alloc _) _ 1 1 (⟨qk, qs, qe, qq, qm, qn, ⟨qo, qp⟩, qb⟩ : Ak).cs rfl (Rd.list w5 (⟨qk, qs, qe, qq, qm, qn, ⟨qo, qp⟩, qb⟩ : Ak).cs 43 1 9 rfl) (ak_cells _) (by unfold maxLen; omega) (by omega) ?_)
          intro v6 w6 own6 hg6 hb6
          have own44 := Lib.hid (owns_other (own43.alloc (.cells (⟨qk, qs, qe, qq, qm, qn, ⟨qo, qp⟩, qb⟩ : Ak).cs.toArray 43)) (own53.alloc _) (by decide) hg6)
          have hO6 := Lib.hid own6
          have HB6 := Lib.hid hb6
          clear own43 own53 hb15 hg6 own6 hb6
          have hcs1 : (cs ++ [(⟨xc, xb, xo, xd⟩ : Pt)]).length = cs.length + 1 := by simp
          have hfl : (((cs ++ [(⟨xc, xb, xo, xd⟩ : Pt)]).map A).flatMap Ak.cs) = (cs.map A).flatMap Ak.cs ++ (⟨qk, qs, qe, qq, qm, qn, ⟨qo, qp⟩, qb⟩ : Ak).cs := by
            rw [List.map_append, List.map_singleton, HAX.out, List.flatMap_append, List.flatMap_singleton]
          have hF4 : w6.ownsRow W.heap.size 3 1 v4 (cs ++ [(⟨xc, xb, xo, xd⟩ : Pt)]).length (colsOf (cs ++ [(⟨xc, xb, xo, xd⟩ : Pt)])) := by rw [hcs1]; exact own44.out
          have hF6 : w6.ownsRow W.heap.size 43 9 v6 (cs ++ [(⟨xc, xb, xo, xd⟩ : Pt)]).length (((cs ++ [(⟨xc, xb, xo, xd⟩ : Pt)]).map A).flatMap Ak.cs) := by rw [hcs1, hfl]; exact hO6.out
          have HF4 := Lib.hid hF4
          have HF6 := Lib.hid hF6
          clear hcs1 hfl hF4 hF6 own44 hO6
          go_wp2_with fail
          go_roundw
          case rel => exact ⟨k + 1, by omega, by go_num, by rw [HS2.out]; exact HF4.out, by rw [HS2.out]; exact HF6.out, HB6.out⟩
          case measure => simp [intOf]; omega
    · obtain rfl : k = l.length := by omega
      rw [List.take_length, HA.out] at own4 own5
      have hbB := HBL.out _ hb
      have f5 := hbB.frozen 5
      have y5 := hbB.cell 5
      simp only [List.getElem?_toArray, List.getElem?_cons_zero, List.getElem?_cons_succ] at y5
      obtain ⟨a4, c4, rfl⟩ : ∃ a c, u4 = .slice a ta.length c := by
        obtain ⟨_, a, c, hv, _⟩ := Rd.of_owns own4
        exact ⟨a, c, hv⟩
      have hne4 : ∀ q, (Value.slice a4 ta.length c4).ownBlock = some q → q ≠ B := fun q hq e => (own_blk_ne own4 hbB (by decide)) (by rw [hq, e])
      have hne5 : ∀ q, u5.ownBlock = some q → q ≠ B := fun q hq e => (own_blk_ne own5 hbB (by decide)) (by rw [hq, e])
      by_cases h0 : 0 < ta.length
      · have hz : (0 : Int) < (ta.length : Int) := by omega
        have hd : decide (0 < ta.length) = true := decide_eq_true h0
        obtain ⟨g1, g2⟩ := HFIN2.out wr hb hd
        have o4 := owns_setCell own4 ⟨B, 5, none⟩ (.bool true) hne4
        have o5 := owns_setCell own5 ⟨B, 5, none⟩ (.bool true) hne5
        clear hd HFIN HFIN2 own4 own5 hb hne4 hne5 hbB
        go_wp2_with fail
        go_ret2
        exact ⟨_, _, rfl, o4, o5, g1, g2⟩
      · have hz : ¬ (0 : Int) < (ta.length : Int) := by omega
        have hd : decide (0 < ta.length) = false := decide_eq_false h0
        obtain ⟨g1, g2⟩ := HFIN.out wr hb hd
        clear hd HFIN HFIN2 hb hne4 hne5 hbB
        go_wp2_with fail
        go_ret2
        exact ⟨_, _, rfl, own4, own5, g1, g2⟩
end Go.Proofs.Ytaeeflfhjmjpjaa
