/- The walk of LinearWrites. -/
import Derived.Test.YtojgibinokmmeaaStore
namespace Go.Proofs.Ytojgibinokmmeaa
open Go.RowKit SlRd Lin
set_option linter.unusedVariables false

def frst : ByteArray := ⟨#[102, 105, 114, 115, 116]⟩
/-- what is known of each event: it begins at its end or before it, is a read or a write, and its beginning is small -/
def Ok1 (y : Lin.Ev) : Prop := (sure y = true → y.begin_ ≤ y.end_) ∧ (y.op.kind = 1 ∨ y.op.kind = 2) ∧ 0 ≤ y.begin_ ∧ y.begin_ ≤ 100
def OkL (k : Nat) (ls : List Lin.Ev) : Prop := (∀ y ∈ ls, Ok1 y) ∧ ∀ y ∈ ls.take k, y.op.kind = 2
def OkM (ms : List Lin.Ev) : Prop := ∀ y ∈ ms, sure y = true → y.begin_ ≤ y.end_ ∧ y.op.kind ≠ 2 ∧ y.data = frst
theorem ev_ok1 (x : Raw) : Ok1 (evOf x) := by
  have b1 := pk_bd x.begin_ 20 (by omega)
  have b2 := pk_bd x.long 8 (by omega)
  unfold evOf Ok1 sure
  simp only
  refine ⟨fun h => ?_, ?_, by omega, by omega⟩
  · split at h
    · simp at h
    · rw [if_neg (by assumption)]; omega
  · split
    · exact .inl rfl
    · exact .inr rfl
theorem okL_start (raw : List Raw) : OkL 0 (evsOf raw 10) := by
  refine ⟨fun y hy => ?_, by simp⟩
  obtain ⟨x, _, rfl⟩ := List.mem_map.1 hy
  exact ev_ok1 x
theorem okL_step {k : Nat} {ls : List Lin.Ev} {x y : Lin.Ev} (h : OkL k ls) (hx : ls[k]? = some x) (hb : y.begin_ = x.begin_) (he : y.end_ = x.end_) (hr : y.err = x.err) (hk : y.op.kind = 2) : OkL (k + 1) (ls.set k y) := by
  obtain ⟨hlt, hxe⟩ := List.getElem?_eq_some_iff.1 hx
  have hxm : x ∈ ls := by rw [← hxe]; exact List.getElem_mem hlt
  refine ⟨fun z hz => ?_, fun z hz => ?_⟩
  · rcases List.mem_or_eq_of_mem_set hz with h1 | rfl
    · exact h.1 z h1
    · have := h.1 x hxm
      refine ⟨fun hs => ?_, .inr hk, by rw [hb]; exact this.2.2.1, by rw [hb]; exact this.2.2.2⟩
      rw [hb, he]
      refine this.1 ?_
      unfold sure at hs ⊢
      rw [← he, ← hr]
      exact hs
  · rw [List.take_add_one, List.getElem?_set_self hlt] at hz
    rcases List.mem_append.1 hz with h1 | h1
    · rw [List.take_set_of_le (Nat.le_refl _)] at h1
      exact h.2 z h1
    · simp at h1
      rw [h1]; exact hk
theorem okL_all {ls : List Lin.Ev} (h : OkL ls.length ls) (hn : ls.length ≤ 10) : chk frst ls = true := by
  refine (chk_iff _ _).2 ⟨Nat.le_trans (List.length_filter_le _ _) (by omega), plays_writes _ _ _ rfl (fun y hy hs => (h.1 y ((List.mem_filter.1 hy).1)).1 hs) fun y hy => h.2 y (by rw [List.take_length]; exact (List.mem_filter.1 hy).1)⟩
theorem okM_all {ms : List Lin.Ev} (h : OkM ms) (hn : ms.length ≤ 10) : chk frst ms = true := by
  refine (chk_iff _ _).2 ⟨Nat.le_trans (List.length_filter_le _ _) (by omega), plays_all _ _ _ rfl (fun y hy hs => (h y (List.mem_filter.1 hy).1 hs).1) fun y hy hs => (h y (List.mem_filter.1 hy).1 hs).2⟩
theorem okM_snoc {ms : List Lin.Ev} {y : Lin.Ev} (h : OkM ms) (hy : sure y = true → y.begin_ ≤ y.end_ ∧ y.op.kind ≠ 2 ∧ y.data = frst) : OkM (ms ++ [y]) := by
  intro z hz
  rcases List.mem_append.1 hz with h1 | h1
  · exact h z h1
  · simp at h1
    rw [h1]; exact hy
theorem okM_nil : OkM [] := fun y hy => by cases hy
theorem okL_kind {k j : Nat} {ls : List Lin.Ev} {x : Lin.Ev} (h : OkL k ls) (hx : ls[j]? = some x) : Ok1 x := by
  obtain ⟨hlt, hxe⟩ := List.getElem?_eq_some_iff.1 hx
  exact h.1 x (by rw [← hxe]; exact List.getElem_mem hlt)
theorem okL_write {k : Nat} {ls : List Lin.Ev} {x : Lin.Ev} (h : OkL k ls) (hx : ls[k]? = some x) (hk : x.op.kind = 2) : OkL (k + 1) ls := by
  have := okL_step h hx (y := x) rfl rfl rfl hk
  obtain ⟨hlt, hxe⟩ := List.getElem?_eq_some_iff.1 hx
  rw [← hxe, List.set_getElem_self hlt] at this
  exact this

def WrCut (w : World) (B4 B5 g c n k : Nat) (v : Value) (ms : List Lin.Ev) (wx : World) : Prop :=
  ∃ ls x, ls.length = n ∧ wx.ownsRow B4 31 8 (.slice (some ⟨g, 0, none⟩) n c) n (ls.flatMap Ecs) ∧ ls[k]? = some x ∧ Ok1 x ∧ OkL (k + 1) ls ∧ wx.ownsRow B5 31 8 v k (ms.flatMap Ecs) ∧ Below w.heap.size w wx ∧ B5 ≤ wx.heap.size
theorem owns_grown {W W' : World} {base size n : Nat} {e : TypeId} {v : Value} {xs : List Value} {row : Option Nat} (h : W.ownsRow base e size v n xs) (hg : W.grownBy W' row) (hne : ∀ k, v.ownBlock = some k → row ≠ some k) : W'.ownsRow base e size v n xs := by
  refine ⟨h.1, ?_⟩
  rcases h.2 with hn | ⟨g, cap, cur, hv, hbg, hh, rest⟩
  · exact .inl hn
  · refine .inr ⟨g, cap, cur, hv, hbg, ?_, rest⟩
    rw [hg.block g (Array.getElem?_eq_some_iff.1 hh).1 (fun e => hne g (by rw [hv]; rfl) e.symm)]
    exact hh
theorem size28 : (Try.prog.info? 28).map (·.size) = some 3 := by kernel_rfl
theorem set_length' (ls : List Lin.Ev) (k : Nat) (y : Lin.Ev) : (ls.set k y).length = ls.length := by simp

set_option maxRecDepth 100000 in
set_option maxHeartbeats 1600000 in
theorem linearWrites_walk (raw : List Raw) (vr : Value) (w : World) (hr : Rd w 5 vr raw.length (raw.flatMap Raw.cs)) (hok : ∀ x ∈ raw, x.ok) (hrl : raw.length ≤ 140737488351232) :
    Calls Try.prog 8 #[vr] w fun e w' => e = .returned (.bool true) ∧ Below w.heap.size w w' := by
  obtain ⟨i0, hi0, hz0, hz1, hz2⟩ := info_parts info31
  have HEV := Lib.hid (events10 raw vr hok hrl)
  have hl9 : (evsOf raw 10).length ≤ 10 := by rw [evsOf_length]; omega
  have HSM := Lib.hid (okL_start raw)
  generalize evsOf raw 10 = l at HEV hl9 HSM
  go_enter Try.func8, Try.ntmps8
  go_wp2_with fail
  refine (awake_any _).mono ?_; rintro e w1 ⟨rfl, hb1⟩
  go_wp2_with fail
  refine (HEV.out _ (hr.below hb1)).mono ?_; rintro e w2 ⟨v2, rfl, own2, hb2⟩
  have r2 := Rd.of_owns own2
  obtain ⟨al, cl, rfl⟩ : ∃ a c, v2 = .slice a l.length c := by obtain ⟨_, a, c, hv, _⟩ := r2; exact ⟨a, c, hv⟩
  have hb12 := below_then hb1 hb2
  have hw1 := hb1.size
  generalize hn : l.length = n at own2 hl9
  have own2' : ∃ ls : List Lin.Ev, ls.length = n ∧ w2.ownsRow w1.heap.size 31 8 (.slice al n cl) n (ls.flatMap Ecs) ∧ Hid (OkL 0 ls) := ⟨l, hn, own2, HSM⟩
  have HG : Hid (∀ q, (Value.slice al n cl).ownBlock = some q → q < w2.heap.size) := Lib.hid fun q hq => (owns_lt own2 q hq).2
  clear own2 hb1 hb2 hr r2 HEV HSM hn
  go_wp2_with fail
  go_loopw [5, 6] (fun v i wr => ∃ k : Nat, k ≤ n ∧ i = .int .i64 k ∧ (∃ ls : List Lin.Ev, ls.length = n ∧ wr.ownsRow w1.heap.size 31 8 (.slice al n cl) n (ls.flatMap Ecs) ∧ Hid (OkL k ls)) ∧ (∃ ms : List Lin.Ev, ms.length = k ∧ wr.ownsRow w2.heap.size 31 8 v k (ms.flatMap Ecs) ∧ Hid (OkM ms)) ∧ Below w.heap.size w wr ∧ w2.heap.size ≤ wr.heap.size) (fun _ i _ => n - (intOf i).toNat)
  case atStart => exact ⟨0, Nat.zero_le _, rfl, own2', ⟨[], rfl, World.ownsRow_nil _ _ _ _, Lib.hid okM_nil⟩, hb12, Nat.le_refl _⟩
  case round =>
    obtain ⟨k, hk, rfl, ⟨ls, hls, own1, HOL⟩, ⟨ms, hms, own5, HOM⟩, hb, hsz⟩ := hrel
    by_cases hlt : k < n
    · obtain ⟨x, hx⟩ : ∃ x, ls[k]? = some x := ⟨_, List.getElem?_eq_getElem (by omega)⟩
      have HK := okL_kind HOL.out hx
      obtain ⟨g, c', hv, hg1, hg2⟩ := own_head own1 (by omega)
      cases hv
      have hc0 := own_cells own1 k x hx (by omega)
      obtain ⟨xp, xb, xe, ⟨xk, xa, xd⟩, xr, xt⟩ := x
      obtain ⟨_, hkk, hbb1, hbb2⟩ := HK
      simp only at hkk hbb1 hbb2
      have p0 := (hc0 0 (by omega)).1; have p1 := (hc0 1 (by omega)).1; have p2 := (hc0 2 (by omega)).1; have p3 := (hc0 3 (by omega)).1; have p4 := (hc0 4 (by omega)).1
      have p5 := (hc0 5 (by omega)).1; have p6 := (hc0 6 (by omega)).1; have p7 := (hc0 7 (by omega)).1
      simp only [Ecs, List.getElem?_cons_zero, List.getElem?_cons_succ, Nat.add_zero] at p0 p1 p2 p3 p4 p5 p6 p7
      have HF := Lib.hid hc0
      clear hc0
      have hgw := HG.out g rfl
      have hgb : w.heap.size ≤ g := by omega
      go_upto_if 23 with fail
      go_cut [] from 24 to 37 (fun wx => WrCut w w1.heap.size w2.heap.size g cl n k u5 ms wx)
      case first =>
        rcases hkk with hk1 | hk2
        · subst hk1
          have hth : wr.there g (k * 8 + 3) 3 := fun j hj => by
            have := HF.out (3 + j) (by omega)
            rw [Nat.add_assoc, this.1]
            refine ⟨?_, this.2⟩
            rw [List.getElem?_eq_getElem (by show 3 + j < 8; omega)]
            rfl
          have q1 := own_store own1 k _ ⟨xp, xb, xe, ⟨2, xa, xd⟩, xr, xt⟩ 3 (.int .i64 2) hx (by omega) rfl
          have x1 : (ls.set k ⟨xp, xb, xe, ⟨2, xa, xd⟩, xr, xt⟩)[k]? = some ⟨xp, xb, xe, ⟨2, xa, xd⟩, xr, xt⟩ := List.getElem?_set_self (by omega)
          have q2 := own_store q1 k _ ⟨xp, xb, xe, ⟨2, 0, xd⟩, xr, xt⟩ 4 (.int .i64 0) x1 (by omega) rfl
          rw [List.set_set] at q2
          have x2 : (ls.set k ⟨xp, xb, xe, ⟨2, 0, xd⟩, xr, xt⟩)[k]? = some ⟨xp, xb, xe, ⟨2, 0, xd⟩, xr, xt⟩ := List.getElem?_set_self (by omega)
          have q3 := own_store q2 k _ ⟨xp, xb, xe, ⟨2, 0, xt⟩, xr, xt⟩ 5 (.string xt) x2 (by omega) rfl
          rw [List.set_set] at q3
          have x3 : (ls.set k ⟨xp, xb, xe, ⟨2, 0, xt⟩, xr, xt⟩)[k]? = some ⟨xp, xb, xe, ⟨2, 0, xt⟩, xr, xt⟩ := List.getElem?_set_self (by omega)
          have q4 := own_store q3 k _ ⟨xp, xb, xe, ⟨2, 0, xt⟩, xr, ⟨#[]⟩⟩ 7 (.string ⟨#[]⟩) x3 (by omega) rfl
          rw [List.set_set] at q4
          have x4 : (ls.set k ⟨xp, xb, xe, ⟨2, 0, xt⟩, xr, ⟨#[]⟩⟩)[k]? = some ⟨xp, xb, xe, ⟨2, 0, xt⟩, xr, ⟨#[]⟩⟩ := List.getElem?_set_self (by omega)
          have c3 := own_cells q3 k _ x3 (by simp; omega) 7 (by omega)
          have hlt5 : ∀ kk, u5.ownBlock = some kk → kk ≠ g := fun kk e => by have := (owns_lt own5 kk e).1; have := hgw; omega
          have n1 := owns_setCell (owns_setCell (owns_setCell (owns_setCell own5 ⟨g, k * 8 + 3, none⟩ (.int .i64 2) hlt5) ⟨g, k * 8 + 4, none⟩ (.int .i64 0) hlt5) ⟨g, k * 8 + 5, none⟩ (.string xt) hlt5) ⟨g, k * 8 + 7, none⟩ (.string ⟨#[]⟩) hlt5
          have B1 := ((((hb.setCell (p := ⟨g, k * 8 + 3, none⟩) hgb (.int .i64 2)).setCell (p := ⟨g, k * 8 + 4, none⟩) hgb (.int .i64 0)).setCell (p := ⟨g, k * 8 + 5, none⟩) hgb (.string xt)).setCell (p := ⟨g, k * 8 + 7, none⟩) hgb (.string ⟨#[]⟩))
          have hsz1 : w2.heap.size ≤ (wr.setCells g (k * 8 + 3) [.int .i64 2, .int .i64 0, .string xt]).heap.size := by simpa [World.setCells, World.setCell] using hsz
          have c31 : (wr.setCells g (k * 8 + 3) [.int .i64 2, .int .i64 0, .string xt]).cell? ⟨g, k * 8 + 7, none⟩ = some (.string xt) := c3.1
          have c32 : (wr.setCells g (k * 8 + 3) [.int .i64 2, .int .i64 0, .string xt]).frozen? ⟨g, k * 8 + 7, none⟩ = false := c3.2
          have HQ := Lib.hid q4
          have HN1 := Lib.hid n1
          have HB1 := Lib.hid B1
          clear q1 q2 q3 q4 n1 B1 c3 own1 p0 p1 p2 p3 p4 p5 p6 hb hsz own5
          have hone : (#[.int .i64 2, .int .i64 0, .string xt] : Array Value).all (·.oneCell') = true := all_oneCell_toArray (fun v hv => by simp at hv; rcases hv with rfl | rfl | rfl <;> rfl)
          go_wp2_with (refine wpList_store_mid rfl 28 (.tmp 33) (.tmp 31) rfl g (k * 8 + 3) #[.int .i64 2, .int .i64 0, .string xt] rfl rfl ?_ ?_ hone ?_; exact hth; exact size28)
          go_meet
          have hst := okL_step (y := ⟨xp, xb, xe, ⟨2, 0, xt⟩, xr, ⟨#[]⟩⟩) HOL.out hx rfl rfl rfl rfl
          exact ⟨_, _, by simp [hls], HQ.out, x4, okL_kind hst x4, hst, HN1.out, HB1.out, by simpa [World.setCell] using hsz1⟩
        · subst hk2
          go_wp2_with fail
          go_meet
          exact ⟨ls, _, hls, own1, hx, okL_kind HOL.out hx, okL_write HOL.out hx rfl, own5, hb, hsz⟩
      case rest =>
        clear own1 p0 p1 p2 p3 p4 p5 p6 p7 hx HOL own5 hb hsz HF hls hkk
        obtain ⟨ls', x, hls, own1, hx, HK, HOL, own5, hb, hsz⟩ := hcut
        have HOL := Lib.hid HOL
        have hc0 := own_cells own1 k x hx (by omega)
        obtain ⟨xp, xb, xe, ⟨xk, xa, xd⟩, xr, xt⟩ := x
        obtain ⟨_, _, hbb1, hbb2⟩ := HK
        simp only at hbb1 hbb2
        have p0 := (hc0 0 (by omega)).1; have p1 := (hc0 1 (by omega)).1; have p2 := (hc0 2 (by omega)).1; have p3 := (hc0 3 (by omega)).1; have p4 := (hc0 4 (by omega)).1
        have p5 := (hc0 5 (by omega)).1; have p6 := (hc0 6 (by omega)).1; have p7 := (hc0 7 (by omega)).1
        simp only [Ecs, List.getElem?_cons_zero, List.getElem?_cons_succ, Nat.add_zero] at p0 p1 p2 p3 p4 p5 p6 p7
        clear hc0
        by_cases hm : (k : Int) % 2 = 0
        · have hm2 : ((k : Int) % 2 == 0) = true := by simpa using hm
          go_upto_region 14 with fail
          have hal : Below wc.heap.size wc (wc.alloc (.cells #[.int .i64 xp, .int .i64 xb, .int .i64 0, .int .i64 xk, .int .i64 xa, .string xd, .int .i64 xr, .string xt] 31)) := (Below.refl _ _).alloc (Nat.le_refl _) _
          have n1 := owns_below own1 hal
          have n5 := owns_below own5 hal
          have hb7 := below_then hb hal
          have bY := Blk.new wc 31 #[.int .i64 xp, .int .i64 xb, .int .i64 0, .int .i64 xk, .int .i64 xa, .string xd, .int .i64 xr, .string xt]
          have hsz7 := Nat.le_trans hsz hal.size
          generalize wc.alloc (.cells #[.int .i64 xp, .int .i64 xb, .int .i64 0, .int .i64 xk, .int .i64 xa, .string xd, .int .i64 xr, .string xt] 31) = w7 at n1 n5 hb7 bY hsz7 ⊢
          generalize wc.heap.size = Y at bY ⊢
          clear hal own1 own5 hb hsz p0 p1 p2 p3 p4 p5 p6 p7
          have y0 := bY.cell 0; have y1 := bY.cell 1; have y2 := bY.cell 2; have y3 := bY.cell 3; have y4 := bY.cell 4; have y5 := bY.cell 5; have y6 := bY.cell 6; have y7 := bY.cell 7
          simp only [List.getElem?_toArray, List.getElem?_cons_zero, List.getElem?_cons_succ] at y0 y1 y2 y3 y4 y5 y6 y7
          have HN1 := Lib.hid n1
          have HHB := Lib.hid hb7
          clear n1
          go_wp2_with (at_builtin; refine wpList_append_own _ rfl _ _ 25 rfl w2.heap.size 31 i0 _ 8 80 Try.underlying25 hi0 hz0 hz1 hz2 rfl (by decide) _ _ _ rfl (n5.alloc _) ⟨w7.heap.size, 0, none⟩ 1 1 (Ecs ⟨xp, xb, 0, ⟨xk, xa, xd⟩, xr, xt⟩) rfl rfl ?c1A ?c2A ?c3A ?c4A ?c5A ?_)
          case c2A => exact ⟨rfl, rfl, rfl, rfl, rfl, rfl, rfl, rfl⟩
          case c3A => unfold maxLen; omega
          case c4A => omega
          case c5A => omega
          · intro v' w8 hown' hgrow _
            have HO : Hid (w8.ownsRow w2.heap.size 31 8 v' (k + 1) ((ms ++ [(⟨xp, xb, 0, ⟨xk, xa, xd⟩, xr, xt⟩ : Lin.Ev)]).flatMap Ecs)) := by
              show World.ownsRow _ _ _ _ _ _ _
              rw [List.flatMap_append, List.flatMap_singleton]
              exact hown'
            have HB := Lib.hid ((below_al HHB.out _).grown hgrow (by have := HHB.out.size; simp; omega) (fun q hq => Nat.le_trans (by omega) (owns_lt n5 q hq).1))
            have HN := Lib.hid (owns_grown (HN1.out.alloc _) hgrow (fun q hq he => by cases hq; have := (owns_lt n5 g he).1; omega))
            have hsz8 := Nat.le_trans hsz7 (Nat.le_trans (Nat.le_succ _) (by simpa using hgrow.size))
            have HM := Lib.hid (okM_snoc (y := ⟨xp, xb, 0, ⟨xk, xa, xd⟩, xr, xt⟩) HOM.out (fun h => by simp [sure] at h))
            clear hown' hgrow n5 hb7
            go_wp2_with fail
            go_roundw
            case rel => exact ⟨k + 1, by omega, by go_num, ⟨ls', hls, HN.out, HOL⟩, ⟨_, by simp [hms], HO.out, HM⟩, HB.out, hsz8⟩
            case measure => simp [intOf]; omega
        · have hm2 : ((k : Int) % 2 == 0) = false := by simpa using hm
          have HE := Lib.hid (fun W => eventR_any frst xb (xb + 3) W)
          unfold frst at HE
          have hal : Below wc.heap.size wc (wc.alloc (.cells #[.int .i64 xp, .int .i64 xb, .int .i64 xe, .int .i64 xk, .int .i64 xa, .string xd, .int .i64 xr, .string xt] 31)) := (Below.refl _ _).alloc (Nat.le_refl _) _
          go_upto_if 44 with fail
          go_wp2_with fail
          refine (HE.out _).mono ?_; rintro e w9 ⟨rfl, hb9⟩
          have bY : Blk w9 wc.heap.size 31 _ := (hb9.block wc.heap.size (Blk.new wc 31 #[.int .i64 xp, .int .i64 xb, .int .i64 xe, .int .i64 xk, .int .i64 xa, .string xd, .int .i64 xr, .string xt]).lt).trans (Blk.new wc 31 _)
          have hal9 := below_then hal hb9
          have n1 := owns_below own1 hal9
          have n5 := owns_below own5 hal9
          have hb7 := below_then hb hal9
          have hsz7 := Nat.le_trans hsz hal9.size
          have hYs := Nat.le_trans hb.size (Nat.le_refl _)
          have hY1 : ∀ q, (Value.slice (some ⟨g, 0, none⟩) n cl).ownBlock = some q → q ≠ wc.heap.size := fun q hq => Nat.ne_of_lt (owns_lt own1 q hq).2
          have hY5 : ∀ q, u5.ownBlock = some q → q ≠ wc.heap.size := fun q hq => Nat.ne_of_lt (owns_lt own5 q hq).2
          generalize wc.heap.size = Y at bY hYs hY1 hY5 ⊢
          clear hal hal9 own1 own5 hb hsz hb9 p0 p1 p2 p3 p4 p5 p6 p7
          have y0 := bY.cell 0; have y1 := bY.cell 1; have y2 := bY.cell 2; have y3 := bY.cell 3; have y4 := bY.cell 4; have y5 := bY.cell 5; have y6 := bY.cell 6; have y7 := bY.cell 7
          simp only [List.getElem?_toArray, List.getElem?_cons_zero, List.getElem?_cons_succ] at y0 y1 y2 y3 y4 y5 y6 y7
          have f0 := bY.frozen 0; have f1 := bY.frozen 1; have f2 := bY.frozen 2; have f3 := bY.frozen 3; have f4 := bY.frozen 4; have f5 := bY.frozen 5; have f6 := bY.frozen 6; have f7 := bY.frozen 7
          go_upto_region 14 with fail
          have m1 := owns_setCell (owns_setCell (owns_setCell (owns_setCell (owns_setCell (owns_setCell (owns_setCell (owns_setCell n1 ⟨Y, 0, none⟩ (.int .i64 0) hY1) ⟨Y, 1, none⟩ (.int .i64 xb) hY1) ⟨Y, 2, none⟩ (.int .i64 (xb + 3)) hY1) ⟨Y, 3, none⟩ (.int .i64 1) hY1) ⟨Y, 4, none⟩ (.int .i64 0) hY1) ⟨Y, 5, none⟩ (.string ⟨#[]⟩) hY1) ⟨Y, 6, none⟩ (.int .i64 0) hY1) ⟨Y, 7, none⟩ (.string ⟨#[102, 105, 114, 115, 116]⟩) hY1
          have m5 := owns_setCell (owns_setCell (owns_setCell (owns_setCell (owns_setCell (owns_setCell (owns_setCell (owns_setCell n5 ⟨Y, 0, none⟩ (.int .i64 0) hY5) ⟨Y, 1, none⟩ (.int .i64 xb) hY5) ⟨Y, 2, none⟩ (.int .i64 (xb + 3)) hY5) ⟨Y, 3, none⟩ (.int .i64 1) hY5) ⟨Y, 4, none⟩ (.int .i64 0) hY5) ⟨Y, 5, none⟩ (.string ⟨#[]⟩) hY5) ⟨Y, 6, none⟩ (.int .i64 0) hY5) ⟨Y, 7, none⟩ (.string ⟨#[102, 105, 114, 115, 116]⟩) hY5
          have mb := (((((((hb7.setCell (p := ⟨Y, 0, none⟩) hYs (.int .i64 0)).setCell (p := ⟨Y, 1, none⟩) hYs (.int .i64 xb)).setCell (p := ⟨Y, 2, none⟩) hYs (.int .i64 (xb + 3))).setCell (p := ⟨Y, 3, none⟩) hYs (.int .i64 1)).setCell (p := ⟨Y, 4, none⟩) hYs (.int .i64 0)).setCell (p := ⟨Y, 5, none⟩) hYs (.string ⟨#[]⟩)).setCell (p := ⟨Y, 6, none⟩) hYs (.int .i64 0)).setCell (p := ⟨Y, 7, none⟩) hYs (.string ⟨#[102, 105, 114, 115, 116]⟩)
          have bZ := (((((((bY.set_ 0 (.int .i64 0)).set_ 1 (.int .i64 xb)).set_ 2 (.int .i64 (xb + 3))).set_ 3 (.int .i64 1)).set_ 4 (.int .i64 0)).set_ 5 (.string ⟨#[]⟩)).set_ 6 (.int .i64 0)).set_ 7 (.string ⟨#[102, 105, 114, 115, 116]⟩)
          have hsz9 : w2.heap.size ≤ ((((((((w9.setCell ⟨Y, 0, none⟩ (.int .i64 0)).setCell ⟨Y, 1, none⟩ (.int .i64 xb)).setCell ⟨Y, 2, none⟩ (.int .i64 (xb + 3))).setCell ⟨Y, 3, none⟩ (.int .i64 1)).setCell ⟨Y, 4, none⟩ (.int .i64 0)).setCell ⟨Y, 5, none⟩ (.string ⟨#[]⟩)).setCell ⟨Y, 6, none⟩ (.int .i64 0)).setCell ⟨Y, 7, none⟩ (.string ⟨#[102, 105, 114, 115, 116]⟩)).heap.size := by simpa [World.setCell] using hsz7
          clear n1 n5 hb7 hY1 hY5 bY y0 y1 y2 y3 y4 y5 y6 y7 f0 f1 f2 f3 f4 f5 f6 f7 hsz7
          generalize ((((((((w9.setCell ⟨Y, 0, none⟩ (.int .i64 0)).setCell ⟨Y, 1, none⟩ (.int .i64 xb)).setCell ⟨Y, 2, none⟩ (.int .i64 (xb + 3))).setCell ⟨Y, 3, none⟩ (.int .i64 1)).setCell ⟨Y, 4, none⟩ (.int .i64 0)).setCell ⟨Y, 5, none⟩ (.string ⟨#[]⟩)).setCell ⟨Y, 6, none⟩ (.int .i64 0)).setCell ⟨Y, 7, none⟩ (.string ⟨#[102, 105, 114, 115, 116]⟩)) = w10 at m1 m5 mb bZ hsz9 ⊢
          have y0 := bZ.cell 0; have y1 := bZ.cell 1; have y2 := bZ.cell 2; have y3 := bZ.cell 3; have y4 := bZ.cell 4; have y5 := bZ.cell 5; have y6 := bZ.cell 6; have y7 := bZ.cell 7
          simp at y0 y1 y2 y3 y4 y5 y6 y7
          have HN1 := Lib.hid m1
          have HHB := Lib.hid mb
          clear m1 mb bZ
          go_wp2_with (at_builtin; refine wpList_append_own _ rfl _ _ 25 rfl w2.heap.size 31 i0 _ 8 80 Try.underlying25 hi0 hz0 hz1 hz2 rfl (by decide) _ _ _ rfl (m5.alloc _) ⟨w10.heap.size, 0, none⟩ 1 1 (Ecs ⟨0, xb, xb + 3, ⟨1, 0, ⟨#[]⟩⟩, 0, ⟨#[102, 105, 114, 115, 116]⟩⟩) rfl rfl ?c1B ?c2B ?c3B ?c4B ?c5B ?_)
          case c1B =>
            intro j u hj
            rw [Go.WideShapes.add_plain, Nat.zero_add, World.cell?_alloc_at _ _ _ _ rfl]
            simpa using hj
          case c2B => exact ev_one _
          case c3B => unfold maxLen; omega
          case c4B => omega
          case c5B => simp; omega
          · intro v' w8 hown' hgrow _
            have HO : Hid (w8.ownsRow w2.heap.size 31 8 v' (k + 1) ((ms ++ [(⟨0, xb, xb + 3, ⟨1, 0, ⟨#[]⟩⟩, 0, ⟨#[102, 105, 114, 115, 116]⟩⟩ : Lin.Ev)]).flatMap Ecs)) := by
              show World.ownsRow _ _ _ _ _ _ _
              rw [List.flatMap_append, List.flatMap_singleton]
              exact hown'
            have HB := Lib.hid ((below_al HHB.out _).grown hgrow (by have := HHB.out.size; simp; omega) (fun q hq => Nat.le_trans (by omega) (owns_lt m5 q hq).1))
            have HN := Lib.hid (owns_grown (HN1.out.alloc _) hgrow (fun q hq he => by cases hq; have := (owns_lt m5 g he).1; omega))
            have hsz8 := Nat.le_trans hsz9 (Nat.le_trans (Nat.le_succ _) (by simpa using hgrow.size))
            have HM := Lib.hid (okM_snoc (y := ⟨0, xb, xb + 3, ⟨1, 0, ⟨#[]⟩⟩, 0, ⟨#[102, 105, 114, 115, 116]⟩⟩) HOM.out (fun _ => ⟨by simp; omega, by simp, rfl⟩))
            clear hown' hgrow m5
            go_wp2_with fail
            go_roundw
            case rel => exact ⟨k + 1, by omega, by go_num, ⟨ls', hls, HN.out, HOL⟩, ⟨_, by simp [hms], HO.out, HM⟩, HB.out, hsz8⟩
            case measure => simp [intOf]; omega
    · have hkn : k = n := by omega
      subst hkn
      have HC1 : chk frst ls = true := by
        have := okL_all (ls := ls) (by rw [hls]; exact HOL.out) (by omega)
        exact this
      have HC2 := okM_all HOM.out (by omega)
      have R1 := Rd.of_owns own1
      have R5 := Rd.of_owns own5
      obtain ⟨a5, c5, hv5⟩ : ∃ a c, u5 =  .slice a k c := by obtain ⟨_, a, c, hv, _⟩ := R5; exact ⟨a, c, hv⟩
      subst hv5
      have hk1 := Lib.hid (fun W (h : Rd W 8 (.slice al k cl) k (ls.flatMap Ecs)) => check_any (ls := ls) frst (by rw [hls]; exact h) (by omega))
      have hk2 := Lib.hid (fun W (h : Rd W 8 (.slice a5 k c5) k (ms.flatMap Ecs)) => check_any (ls := ms) frst (by rw [hms]; exact h) (by omega))
      rw [HC1] at hk1
      rw [HC2] at hk2
      unfold frst at hk1 hk2
      have HB := Lib.hid hb
      clear own1 own5 hb
      go_wp2_with fail
      refine (hk1.out _ R1).mono ?_; rintro e w3 ⟨rfl, hb3⟩
      have R5' := R5.below hb3
      have HB2 := Lib.hid (below_then HB.out hb3)
      clear R1 R5 hb3 HB
      go_wp2_with fail
      refine (hk2.out _ R5').mono ?_; rintro e w4 ⟨rfl, hb4⟩
      have HB3 := Lib.hid (below_then HB2.out hb4)
      clear R5' hb4 HB2
      go_wp2_with fail
      go_ret
      exact ⟨rfl, HB3.out⟩
end Go.Proofs.Ytojgibinokmmeaa
