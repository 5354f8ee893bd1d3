/- The walks of SettleTells and SettlePlays. -/
import Derived.Test.YtaeeflfhjmjpjaaRefA
import Derived.Test.YtaeeflfhjmjpjaaArgs
namespace Go.Proofs.Ytaeeflfhjmjpjaa
open Go.RowKit SlRd
set_option linter.unusedVariables false

theorem ints_same (xs : List Int) (va vb : Value) (w : World) (ha : Rd w 1 va xs.length (IV xs)) (hb : Rd w 1 vb xs.length (IV xs)) (hl1 : xs.length ≤ 140737488351232) :
    Calls Try.prog 25 #[va, vb] w fun e w' => e = .returned (.bool true) ∧ Below w.heap.size w w' := by
  have := ints_any xs xs va vb w ha hb hl1 hl1
  rw [decide_eq_true rfl] at this
  exact this
theorem same_same (xs : List Ak) (va vb : Value) (w : World) (ha : Rd w 9 va xs.length (xs.flatMap Ak.cs)) (hb : Rd w 9 vb xs.length (xs.flatMap Ak.cs)) (hl1 : xs.length ≤ 140737488351232) :
    Calls Try.prog 26 #[va, vb] w fun e w' => e = .returned (.bool true) ∧ Below w.heap.size w w' := by
  have := same_any xs xs va vb w ha hb hl1 hl1
  rw [decide_eq_true rfl] at this
  exact this

/-- all that SettleTells' last line reads -/
structure ST (w : World) (T : Nat) (t : Tg) (kn : List Bool) (l : List Rc) (ns : List Int) (qs : List Ak) (vk vl va vp vb vq : Value) (W : World) : Prop where
  g : Given W kn l vk vl
  a : Rd W 1 va ns.length (IV ns)
  p : Rd W 9 vp qs.length (qs.flatMap Ak.cs)
  b : Rd W 1 vb ns.length (IV ns)
  q : Rd W 9 vq qs.length (qs.flatMap Ak.cs)
  lT : T < W.heap.size
  t0 : W.cell? ⟨T, 0, none⟩ = some (.int .i64 t.e)
  t1 : W.cell? ⟨T, 1, none⟩ = some (.int .i64 t.s)
  hb : Below w.heap.size w W
section
variable {w : World} {T : Nat} {t : Tg} {kn : List Bool} {l : List Rc} {ns : List Int} {qs : List Ak} {vk vl va vp vb vq : Value} {W W' : World}
theorem ST.below (h : ST w T t kn l ns qs vk vl va vp vb vq W) (hb : Below W.heap.size W W') : ST w T t kn l ns qs vk vl va vp vb vq W' :=
  ⟨h.g.below hb, h.a.below hb, h.p.below hb, h.b.below hb, h.q.below hb, Nat.lt_of_lt_of_le h.lT hb.size, (hb.cell (p := ⟨T, 0, none⟩) h.lT).trans h.t0, (hb.cell (p := ⟨T, 1, none⟩) h.lT).trans h.t1, h.hb.trans (hb.mono h.hb.size)⟩
theorem ST.full (h : ST w T t kn l ns qs vk vl va vp vb vq W) : W.cell? ⟨T, 0, none⟩ = some (.int .i64 t.e) ∧ W.cell? ⟨T, 1, none⟩ = some (.int .i64 t.s) ∧ ST w T t kn l ns qs vk vl va vp vb vq W := ⟨h.t0, h.t1, h⟩
end

set_option maxRecDepth 100000 in
set_option maxHeartbeats 1600000 in
theorem tells_any {w : World} {kn : List Bool} {l : List Rc} {vk vl : Value} (h : Given w kn l vk vl) (t : Tg) (mask stripe epoch : Int) (hm : -9223372036854775808 ≤ mask ∧ mask ≤ 9223372036854775807) :
    Calls Try.prog 7 #[vk, vl, t.v, .int .i64 mask, .int .i64 stripe, .int .i64 epoch] w fun e w' => e = .returned (.bool true) ∧ Below w.heap.size w w' := by
  have hA := Lib.hid (fun (W : World) (H : Given W kn l vk vl) => asks_any H stripe epoch)
  have hR := Lib.hid (fun (W : World) (H : Given W kn l vk vl) => refAsks_any H stripe epoch)
  have hF := Lib.hid (fun (W : World) (H : Given W kn l vk vl) => forward_any H t mask hm)
  have hFr := Lib.hid (fun (W : World) (H : Given W kn l vk vl) => refForward_any H t mask hm)
  have hD := Lib.hid (fun (W : World) (H : Given W kn l vk vl) => done_any H t)
  have hDr := Lib.hid (fun (W : World) (H : Given W kn l vk vl) => refDone_any H t)
  have h6 := asked_le kn l
  generalize FW kn l t mask = f at hF hFr
  generalize DN kn l t = d at hD hDr
  generalize asked kn l = cs at hA hR h6
  generalize askOf kn l stripe epoch = A at hA hR
  obtain ⟨te, ts⟩ := t
  go_enter Try.func7, Try.ntmps7
  go_wp2_with fail
  have N4 := New.of w [.int .i64 te, .int .i64 ts] 34
  generalize w.alloc (.cells [.int .i64 te, .int .i64 ts].toArray 34) = W at N4 ⊢
  obtain ⟨N5, _, N7, N8⟩ := N4
  have hG := h.below N7
  have T0 := N5 0
  have T1 := N5 1
  simp only [List.getElem?_cons_zero, List.getElem?_cons_succ] at T0 T1
  generalize w.heap.size = T at N8 T0 T1 ⊢
  clear N5 h
  refine (awake_any _).mono ?_; rintro e w1 ⟨rfl, hb1⟩
  go_wp2_with fail
  refine (hA.out _ (hG.below hb1)).mono ?_; rintro e w2 ⟨v1, v2, rfl, ha, hp, hb2⟩
  have hb12 := below_then hb1 hb2
  go_wp2_with fail
  refine (hR.out _ (hG.below hb12)).mono ?_; rintro e w3 ⟨v3, v4, rfl, hb, hq, hb3⟩
  have hb13 := below_then hb12 hb3
  have eN : NV cs = IV (cs.map fun (i : Nat) => (i : Int)) := by unfold NV IV; rw [List.map_map]; rfl
  have S : ST w T ⟨te, ts⟩ kn l (cs.map fun (i : Nat) => (i : Int)) (cs.map A) vk vl v1 v2 v3 v4 w3 :=
    ⟨hG.below hb13, by rw [List.length_map, ← eN]; exact (Rd.of_owns ha).below hb3, by rw [List.length_map]; exact (Rd.of_owns hp).below hb3, by rw [List.length_map, ← eN]; exact Rd.of_owns hb, by rw [List.length_map]; exact Rd.of_owns hq,
      Nat.lt_of_lt_of_le N8 hb13.size, (hb13.cell (p := ⟨T, 0, none⟩) N8).trans T0, (hb13.cell (p := ⟨T, 1, none⟩) N8).trans T1, N7.trans (hb13.mono N7.size)⟩
  have l1 : (cs.map fun (i : Nat) => (i : Int)).length ≤ 140737488351232 := by rw [List.length_map]; omega
  have l2 : (cs.map A).length ≤ 140737488351232 := by rw [List.length_map]; omega
  generalize (cs.map fun (i : Nat) => (i : Int)) = ns at S l1
  generalize cs.map A = qs at S l2
  clear hA hR hG ha hp hb hq hb1 hb2 hb12 hb3 hb13 eN T0 T1 N8 N7 h6
  go_upto_region 4 with fail
  have hd := S.below ((Below.refl _ w3).drew)
  clear S
  go_region_held3 (fun W => W.cell? ⟨T, 0, none⟩ = some (.int .i64 te) ∧ W.cell? ⟨T, 1, none⟩ = some (.int .i64 ts) ∧ ST w T ⟨te, ts⟩ kn l ns qs vk vl v1 v2 v3 v4 W)
    (first
      | exact hd.full
      | (go_split_ands; exact ST.full (ST.below (by assumption) (by assumption))))
    (first
      | (go_at_call 20; go_split_ands; refine (hF.out _ (ST.g (by assumption))).mono ?_; rintro e w' ⟨rfl, hbI⟩)
      | (go_at_call 22; go_split_ands; refine (hFr.out _ (ST.g (by assumption))).mono ?_; rintro e w' ⟨rfl, hbI⟩)
      | (go_at_call 23; go_split_ands; refine (hD.out _ (ST.g (by assumption))).mono ?_; rintro e w' ⟨rfl, hbI⟩)
      | (go_at_call 24; go_split_ands; refine (hDr.out _ (ST.g (by assumption))).mono ?_; rintro e w' ⟨rfl, hbI⟩)
      | (go_at_call 25; go_split_ands; refine (ints_same ns _ _ _ (ST.a (by assumption)) (ST.b (by assumption)) l1).mono ?_; rintro e w' ⟨rfl, hbI⟩)
      | (go_at_call 26; go_split_ands; refine (same_same qs _ _ _ (ST.p (by assumption)) (ST.q (by assumption)) l2).mono ?_; rintro e w' ⟨rfl, hbI⟩))
  go_split_ands
  have hFin := ST.hb (by assumption)
  go_wp2_with fail
  go_ret
  exact ⟨rfl, hFin⟩

theorem settleTells_walk (kn : List Bool) (vk : Value) (l : List Rc) (vl : Value) (t : Tg) (mask stripe epoch : Int) (w : World) (hk : Rd w 1 vk kn.length (kn.map Value.bool)) (hkl : kn.length ≤ 140737488351232)
    (hl : Rd w 10 vl l.length (l.flatMap Rc.cs)) (hlm : ∀ r ∈ l, -9223372036854775808 ≤ r.mask ∧ r.mask ≤ 9223372036854775807) (hll : l.length ≤ 140737488351232)
    (hm : -9223372036854775808 ≤ mask ∧ mask ≤ 9223372036854775807) (hs : -9223372036854775808 ≤ stripe ∧ stripe ≤ 9223372036854775807) (he : -9223372036854775808 ≤ epoch ∧ epoch ≤ 9223372036854775807) :
    Calls Try.prog 7 #[vk, vl, t.v, .int .i64 mask, .int .i64 stripe, .int .i64 epoch] w fun e w' => e = .returned (.bool true) ∧ Below w.heap.size w w' :=
  tells_any ⟨hk, hl, hkl, hll, hlm⟩ t mask stripe epoch hm

set_option maxRecDepth 100000 in
theorem plays_any (kn : List Bool) (l : List Rc) (seq mask : Int) (vr vm : Value) (w : World)
    (hsq : -9223372036854775808 ≤ seq ∧ seq ≤ 9223372036854775807) (hmk : -9223372036854775808 ≤ mask ∧ mask ≤ 9223372036854775807)
    (hcol : Hid (Calls Try.prog 16 #[vr, vm] w fun e w' => ∃ v1 v2, e = .returned (.tuple #[v1, v2]) ∧ Given w' kn l v1 v2 ∧ Below w.heap.size w w')) :
    Calls Try.prog 8 #[vr, vm, .int .i64 seq, .int .i64 mask] w fun e w' => e = .returned (.bool true) ∧ Below w.heap.size w w' := by
  have hp1 := Lib.hid (fun W => pick_any seq 3 hsq (by omega) (by omega) W)
  obtain ⟨b1, b2⟩ := pk_bd seq 3 (by omega)
  generalize pk seq 3 = q at hp1 b1 b2
  go_enter Try.func8, Try.ntmps8
  go_wp2_with fail
  refine hcol.out.mono ?_; rintro e w2 ⟨v1, v2, rfl, hG, hb2⟩
  go_wp2_with fail
  refine (hp1.out _).mono ?_; rintro e w' ⟨rfl, rfl⟩
  go_wp2_with fail
  refine (tells_any hG ⟨3, 1 + q⟩ mask 1 5 hmk).mono ?_; rintro e w3 ⟨rfl, hb3⟩
  go_wp2_with fail
  go_ret
  exact ⟨rfl, below_then hb2 hb3⟩
theorem settlePlays_walk (raw : List Cl) (vr : Value) (masks : List Int) (vm : Value) (seq mask : Int) (w : World) (hr : Rd w 4 vr raw.length (raw.flatMap Cl.cs)) (hok : ∀ x ∈ raw, x.ok) (hrl : raw.length ≤ 140737488351232)
    (hm : Rd w 1 vm masks.length (IV masks)) (hmk : ∀ x ∈ masks, -9223372036854775808 ≤ x ∧ x ≤ 9223372036854775807) (hml : masks.length ≤ 140737488351232)
    (hst : -9223372036854775808 ≤ seq ∧ seq ≤ 9223372036854775807) (hep : -9223372036854775808 ≤ mask ∧ mask ≤ 9223372036854775807) :
    Calls Try.prog 8 #[vr, vm, .int .i64 seq, .int .i64 mask] w fun e w' => e = .returned (.bool true) ∧ Below w.heap.size w w' :=
  plays_any ((six raw).map cKnown) ((six raw).map (cRec masks)) seq mask vr vm w hst hep (Lib.hid (cols_given raw masks vr vm w hr hm hrl hml (Lib.hid hok) (Lib.hid hmk)))
end Go.Proofs.Ytaeeflfhjmjpjaa
