/- Update.Said. -/
import Derived.Test.YtaeeflfhjmjpjaaUasks
namespace Go.Proofs.Ytaeeflfhjmjpjaa
open Go.RowKit SlRd
set_option linter.unusedVariables false

theorem flat_set {α : Type} (f : α → List Value) (size : Nat) (hf : ∀ a, (f a).length = size) : ∀ (ls : List α) (k : Nat) (x y : α) (j : Nat) (v : Value), ls[k]? = some x → j < size → (f x).set j v = f y → (ls.flatMap f).set (k * size + j) v = (ls.set k y).flatMap f
  | [], k, x, y, j, v, hk, _, _ => by simp at hk
  | a :: ls, 0, x, y, j, v, hk, hj, he => by
    simp only [List.getElem?_cons_zero, Option.some.injEq] at hk
    subst hk
    rw [List.set_cons_zero, List.flatMap_cons, List.flatMap_cons, Nat.zero_mul, Nat.zero_add, List.set_append_left _ _ (by rw [hf]; exact hj), he]
  | a :: ls, k + 1, x, y, j, v, hk, hj, he => by
    rw [List.getElem?_cons_succ] at hk
    rw [List.set_cons_succ, List.flatMap_cons, List.flatMap_cons, ← flat_set f size hf ls k x y j v hk hj he, List.set_append_right _ _ (by rw [hf, Nat.succ_mul]; omega), hf, show (k + 1) * size + j - size = k * size + j from by rw [Nat.succ_mul]; omega]

section
variable {W : World} {B g n c : Nat} {v : Value} {u : Up}
theorem UO.head (h : UO W B v u) (hn : 0 < u.parts.length) : ∃ g c, v = .slice (some ⟨g, 0, none⟩) u.parts.length c ∧ g < W.heap.size := by
  rcases h.own.2 with ⟨_, h2⟩ | ⟨g, cap, cur, h1, h2, h3, _⟩
  · omega
  · exact ⟨g, cap, h1, (Array.getElem?_eq_some_iff.1 h3).1⟩
theorem UO.pcells (h : UO W B (.slice (some ⟨g, 0, none⟩) n c) u) (k : Nat) (p : Pt) (hk : u.parts[k]? = some p) (j : Nat) (hj : j < 4) :
    W.cell? ⟨g, k * 4 + j, none⟩ = p.cs[j]? ∧ W.frozen? ⟨g, k * 4 + j, none⟩ = false := by
  obtain ⟨hlt, hx⟩ := List.getElem?_eq_some_iff.1 hk
  have hn : n = u.parts.length := by obtain ⟨_, _, _, hv⟩ := h.form; rfl
  subst hn
  have h2 : k * 4 + j < u.parts.length * 4 := by omega
  refine ⟨?_, h.own.frozenAt _⟩
  rw [h.own.cellAt _ h2, flat_get Pt.cs 4 (fun _ => rfl) u.parts k j hlt hj, hx]
theorem UO.part (h : UO W B (.slice (some ⟨g, 0, none⟩) n c) u) (k : Nat) (p p' : Pt) (hk : u.parts[k]? = some p) (j : Nat) (hj : j < 4) (val : Value) (he : p.cs.set j val = p'.cs) :
    UO (W.setCell ⟨g, k * 4 + j, none⟩ val) B (.slice (some ⟨g, 0, none⟩) n c) { u with parts := u.parts.set k p' } := by
  have hne : B ≠ g := fun e => (own_blk_ne h.own h.h (by decide)) (by rw [e]; rfl)
  have hn : n = u.parts.length := by obtain ⟨_, _, _, hv⟩ := h.form; rfl
  subst hn
  refine ⟨h.h.far hne _, ?_⟩
  have h1 := (h.own.stored (k * 4 + j) val).1
  rw [flat_set Pt.cs 4 (fun _ => rfl) u.parts k p p' j val hk hj he] at h1
  simp only [List.length_set]
  exact h1
theorem UO.fail (h : UO W B v u) (b : Bool) : UO (W.setCell ⟨B, 6, none⟩ (.bool b)) B v { u with failed := b } :=
  ⟨h.h.set_ 6 (.bool b), owns_setCell h.own _ _ fun k hk e => (own_blk_ne h.own h.h (by decide)) (by rw [hk, e])⟩
end
def sayP (st c k s : Int) (p : Pt) : Pt := if p.col ≠ c then p else if k = 4 then (if s = 1 then { p with op := true } else p) else if k = 5 then (if s ≠ 1 then p else if st ≠ 0 then { p with dn := true } else p) else p
def sayF (c k s : Int) (f : Bool) (p : Pt) : Bool := if p.col ≠ c then f else if k = 4 then (if s = 1 then f else !p.op) else if k = 5 then (if s ≠ 1 then !p.dn else f) else f
def saidU (u : Up) (c k s : Int) : Up := if u.failed then u else { u with parts := u.parts.map (sayP (stU u) c k s), failed := u.parts.foldl (sayF c k s) false }
def upTo (u : Up) (st c k s : Int) (i : Nat) : Up := { u with parts := (u.parts.take i).map (sayP st c k s) ++ u.parts.drop i, failed := (u.parts.take i).foldl (sayF c k s) false }
theorem upTo_at (u : Up) (st c k s : Int) (i : Nat) (hi : i < u.parts.length) : (upTo u st c k s i).parts[i]? = some u.parts[i] := by
  have hl : ((u.parts.take i).map (sayP st c k s)).length = i := by simp; omega
  show ((u.parts.take i).map (sayP st c k s) ++ u.parts.drop i)[i]? = _
  rw [List.getElem?_append_right (by omega), hl, Nat.sub_self, List.drop_eq_getElem_cons hi]
  rfl
theorem upTo_len (u : Up) (st c k s : Int) (i : Nat) (hi : i ≤ u.parts.length) : (upTo u st c k s i).parts.length = u.parts.length := by
  show ((u.parts.take i).map (sayP st c k s) ++ u.parts.drop i).length = _
  simp
  omega
theorem upTo_succ (u : Up) (st c k s : Int) (i : Nat) (hi : i < u.parts.length) :
    upTo u st c k s (i + 1) = { upTo u st c k s i with parts := (upTo u st c k s i).parts.set i (sayP st c k s u.parts[i]), failed := sayF c k s (upTo u st c k s i).failed u.parts[i] } := by
  have hl : ((u.parts.take i).map (sayP st c k s)).length = i := by simp; omega
  unfold upTo
  simp only [Up.mk.injEq, true_and]
  refine ⟨?_, ?_⟩
  · rw [List.set_append_right _ _ (by omega), hl, Nat.sub_self, List.drop_eq_getElem_cons hi, List.set_cons_zero, List.take_succ_eq_append_getElem hi, List.map_append, List.append_assoc]
    rfl
  · rw [List.take_succ_eq_append_getElem hi, List.foldl_append]
    rfl

set_option maxRecDepth 100000 in
set_option maxHeartbeats 3200000 in
theorem said_any {W : World} {B : Nat} {v : Value} {u : Up} (hu : UO W B v u) (hl : u.parts.length ≤ 1000) (c k s : Int) :
    Calls Try.prog 34 #[.pointer (some ⟨B, 0, none⟩), .int .i64 c, .int .i64 k, .int .i64 s] W fun e w' => e = .returned (.tuple #[]) ∧ UO w' B v (saidU u c k s) ∧ SlRd.Touch (US B v) W w' := by
  have h6 := hu.h.cell 6
  simp only [List.getElem?_toArray, List.getElem?_cons_zero, List.getElem?_cons_succ] at h6
  cases hf : u.failed
  · have HST := Lib.hid (state_any hu hl)
    have hst : saidU u c k s = upTo u (stU u) c k s u.parts.length := by
      unfold saidU upTo
      rw [hf, List.take_length, List.drop_length, List.append_nil]
      rfl
    rw [hst]
    rw [hf] at h6
    generalize stU u = st at HST ⊢
    have H0 : Hid (upTo u st c k s 0 = u) := Lib.hid (by
      obtain ⟨a1, a2, a3, a4, a5, a6, a7⟩ := u
      simp only at hf
      subst hf
      rfl)
    have HU := Lib.hid hu
    clear hu hf hst
    go_enter Try.func34, Try.ntmps34
    go_wp2_with fail
    refine HST.out.mono ?_; rintro e w1 ⟨rfl, hb1⟩
    have hu1 := HU.out.below hb1
    have ht1 := SlRd.Touch.of_below (S := US B v) hb1
    obtain ⟨a, cp, rfl⟩ := hu1.form
    have y4 := hu1.h.cell 4
    simp only [List.getElem?_toArray, List.getElem?_cons_zero, List.getElem?_cons_succ] at y4
    clear h6 HST hb1
    go_wp2_with fail
    go_loopw [22] (fun i wr => ∃ j : Nat, j ≤ u.parts.length ∧ i = .int .i64 j ∧ Hid (UO wr B (.slice a u.parts.length cp) (upTo u st c k s j)) ∧ Hid (SlRd.Touch (US B (.slice a u.parts.length cp)) W wr)) (fun i _ => u.parts.length - (intOf i).toNat)
    case atStart => exact ⟨0, Nat.zero_le _, rfl, Lib.hid (by rw [H0.out]; exact hu1), Lib.hid ht1⟩
    case round =>
      clear hu1 ht1 y4 H0 HU
      obtain ⟨j, hj, rfl, HU, HT⟩ := hrel
      by_cases hlt : j < u.parts.length
      · have hlen := upTo_len u st c k s j hj
        have hat := upTo_at u st c k s j hlt
        have HSU := Lib.hid (upTo_succ u st c k s j hlt)
        obtain ⟨g, c', hv, hg⟩ := HU.out.head (by rw [hlen]; omega)
        rw [hlen] at hv
        cases hv
        generalize u.parts[j] = p at hat HSU
        have y4 := HU.out.h.cell 4; have y6 := HU.out.h.cell 6
        have f6 := HU.out.h.frozen 6
        simp only [List.getElem?_toArray, List.getElem?_cons_zero, List.getElem?_cons_succ] at y4 y6
        have c0 := HU.out.pcells j p hat 0 (by omega); have c2 := HU.out.pcells j p hat 2 (by omega); have c3 := HU.out.pcells j p hat 3 (by omega)
        have HP2 : Hid (∀ (val : Value) (p' : Pt), p.cs.set 2 val = p'.cs → UO (wr.setCell ⟨g, j * 4 + 2, none⟩ val) B (.slice (some ⟨g, 0, none⟩) u.parts.length cp) { upTo u st c k s j with parts := (upTo u st c k s j).parts.set j p' }) := Lib.hid fun val p' h => HU.out.part j p p' hat 2 (by omega) val h
        have HP3 : Hid (∀ (val : Value) (p' : Pt), p.cs.set 3 val = p'.cs → UO (wr.setCell ⟨g, j * 4 + 3, none⟩ val) B (.slice (some ⟨g, 0, none⟩) u.parts.length cp) { upTo u st c k s j with parts := (upTo u st c k s j).parts.set j p' }) := Lib.hid fun val p' h => HU.out.part j p p' hat 3 (by omega) val h
        have HPF := Lib.hid (fun b => HU.out.fail b)
        have HT2 : Hid (∀ (o : Nat) (val : Value), SlRd.Touch (US B (.slice (some ⟨g, 0, none⟩) u.parts.length cp)) W (wr.setCell ⟨g, o, none⟩ val)) := Lib.hid fun o val => HT.out.trans (SlRd.Touch.setCell _ _ (.inr rfl))
        have HTF : Hid (∀ (val : Value), SlRd.Touch (US B (.slice (some ⟨g, 0, none⟩) u.parts.length cp)) W (wr.setCell ⟨B, 6, none⟩ val)) := Lib.hid fun val => HT.out.trans (SlRd.Touch.setCell _ _ (.inl rfl))
        have HSAME : Hid ((upTo u st c k s j).parts.set j p = (upTo u st c k s j).parts) := Lib.hid (by
          obtain ⟨h1, h2⟩ := List.getElem?_eq_some_iff.1 hat
          rw [← h2, List.set_getElem_self h1])
        generalize upTo u st c k s j = uj at *
        obtain ⟨pc, pb, po, pd⟩ := p
        obtain ⟨z0, _⟩ := c0
        obtain ⟨z2, f2⟩ := c2
        obtain ⟨z3, f3⟩ := c3
        simp only [Pt.cs, List.getElem?_cons_zero, List.getElem?_cons_succ, Nat.add_zero] at z0 z2 z3 f2 f3
        have hss : upTo u st c k s (j + 1) = { uj with parts := uj.parts.set j (sayP st c k s ⟨pc, pb, po, pd⟩), failed := sayF c k s uj.failed ⟨pc, pb, po, pd⟩ } := HSU.out
        have HSK : Hid (sayP st c k s ⟨pc, pb, po, pd⟩ = ⟨pc, pb, po, pd⟩ → sayF c k s uj.failed ⟨pc, pb, po, pd⟩ = uj.failed → UO wr B (.slice (some ⟨g, 0, none⟩) u.parts.length cp) (upTo u st c k s (j + 1))) := Lib.hid (by
          intro h1 h2
          rw [hss, h1, h2, HSAME.out]
          exact HU.out)
        have HSP : Hid (∀ w2 p', UO w2 B (.slice (some ⟨g, 0, none⟩) u.parts.length cp) { uj with parts := uj.parts.set j p' } → sayP st c k s ⟨pc, pb, po, pd⟩ = p' → sayF c k s uj.failed ⟨pc, pb, po, pd⟩ = uj.failed → UO w2 B (.slice (some ⟨g, 0, none⟩) u.parts.length cp) (upTo u st c k s (j + 1))) := Lib.hid (by
          intro w2 p' h0 h1 h2
          rw [hss, h1, h2]
          exact h0)
        have HSF : Hid (∀ w2 b, UO w2 B (.slice (some ⟨g, 0, none⟩) u.parts.length cp) { uj with failed := b } → sayP st c k s ⟨pc, pb, po, pd⟩ = ⟨pc, pb, po, pd⟩ → sayF c k s uj.failed ⟨pc, pb, po, pd⟩ = b → UO w2 B (.slice (some ⟨g, 0, none⟩) u.parts.length cp) (upTo u st c k s (j + 1))) := Lib.hid (by
          intro w2 b h0 h1 h2
          rw [hss, h1, h2, HSAME.out]
          exact h0)
        clear hss HSU hat HSAME hlen
        by_cases hc : pc = c
        · subst hc
          by_cases hk4 : k = 4
          · subst hk4
            by_cases hs : s = 1
            · subst hs
              go_wp2_with fail
              go_roundw
              case rel => exact ⟨j + 1, by omega, by go_num, Lib.hid (HSP.out _ _ (HP2.out (.bool true) ⟨pc, pb, true, pd⟩ rfl) (by simp [sayP]) (by simp [sayF])), Lib.hid (HT2.out _ _)⟩
              case measure => simp [intOf]; omega
            · have e1 : (s == 1) = false := by simpa using hs
              go_wp2_with fail
              go_roundw
              case rel => exact ⟨j + 1, by omega, by go_num, Lib.hid (HSF.out _ (!po) (HPF.out (!po)) (by simp [sayP, hs]) (by simp [sayF, hs])), Lib.hid (HTF.out _)⟩
              case measure => simp [intOf]; omega
          · have e4 : (k == 4) = false := by simpa using hk4
            by_cases hk5 : k = 5
            · subst hk5
              by_cases hs : s = 1
              · subst hs
                by_cases h0 : st = 0
                · subst h0
                  go_wp2_with fail
                  go_roundw
                  case rel => exact ⟨j + 1, by omega, by go_num, Lib.hid (HSK.out (by simp [sayP]) (by simp [sayF])), HT⟩
                  case measure => simp [intOf]; omega
                · have e0 : (st != 0) = true := by simpa using h0
                  go_wp2_with fail
                  go_roundw
                  case rel => exact ⟨j + 1, by omega, by go_num, Lib.hid (HSP.out _ _ (HP3.out (.bool true) ⟨pc, pb, po, true⟩ rfl) (by simp [sayP, h0]) (by simp [sayF])), Lib.hid (HT2.out _ _)⟩
                  case measure => simp [intOf]; omega
              · have e1 : (s != 1) = true := by simpa using hs
                go_wp2_with fail
                go_roundw
                case rel => exact ⟨j + 1, by omega, by go_num, Lib.hid (HSF.out _ (!pd) (HPF.out (!pd)) (by simp [sayP, hs]) (by simp [sayF, hs])), Lib.hid (HTF.out _)⟩
                case measure => simp [intOf]; omega
            · have e5 : (k == 5) = false := by simpa using hk5
              go_wp2_with fail
              go_roundw
              case rel => exact ⟨j + 1, by omega, by go_num, Lib.hid (HSK.out (by simp [sayP, hk4, hk5]) (by simp [sayF, hk4, hk5])), HT⟩
              case measure => simp [intOf]; omega
        · have e0 : (pc != c) = true := by simpa using hc
          go_wp2_with fail
          go_roundw
          case rel => exact ⟨j + 1, by omega, by go_num, Lib.hid (HSK.out (by simp [sayP, hc]) (by simp [sayF, hc])), HT⟩
          case measure => simp [intOf]; omega
      · obtain rfl : j = u.parts.length := by omega
        go_wp2_with fail
        go_end0
        exact ⟨rfl, HU.out, HT.out⟩
  · have he : saidU u c k s = u := by unfold saidU; rw [hf]; rfl
    rw [he]
    rw [hf] at h6
    have HU := Lib.hid hu
    clear hu hf he
    go_enter Try.func34, Try.ntmps34
    go_wp2_with fail
    refine bodyPost_ret (results_none rfl _ _ _) rfl ?_
    exact ⟨rfl, HU.out, SlRd.Touch.refl _ _⟩
end Go.Proofs.Ytaeeflfhjmjpjaa
