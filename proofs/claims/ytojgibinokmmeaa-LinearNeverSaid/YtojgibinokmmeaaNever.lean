/- The walk of LinearNever. -/
import Derived.Test.YtojgibinokmmeaaApp
import Derived.Deep.RegionHeld3
namespace Go.Proofs.Ytojgibinokmmeaa
open Go.RowKit SlRd Lin
set_option linter.unusedVariables false

theorem lett_noz (n : Nat) : lett n ≠ ⟨#[122]⟩ := by
  unfold lett
  repeat' split
  all_goals decide
theorem evs_noz (raw : List Raw) (m : Nat) : ∀ x ∈ evsOf raw m, x.op.data ≠ ⟨#[122]⟩ := by
  intro x hx
  obtain ⟨y, _, rfl⟩ := List.mem_map.1 hx
  unfold evOf
  simp only
  split
  · decide
  · exact lett_noz _
theorem chk_never {l : List Lin.Ev} (h : ∀ x ∈ l, x.op.data ≠ ⟨#[122]⟩) (b e : Int) (he : 0 < e) (m : List Lin.Ev) (hm : ∀ x ∈ m, x.op.kind = 2 → x.op.data = ⟨#[122]⟩ → e < x.begin_) : chk ⟨#[]⟩ (l ++ evR ⟨#[122]⟩ b e :: m) = false := by
  rw [Bool.eq_false_iff, Ne, chk_iff]
  rintro ⟨_, hp⟩
  have hs : sure (evR ⟨#[122]⟩ b e) = true := by simp [sure, evR]; omega
  refine never ⟨#[122]⟩ (evR ⟨#[122]⟩ b e) hs (by simp [evR]) rfl _ ⟨#[]⟩ _ rfl (by decide) ?_ ?_ hp
  · refine List.mem_filter.2 ⟨by simp, ?_⟩
    unfold cnt
    rw [if_pos (by rfl), hs]
  · intro y hy hk hd
    rcases List.mem_append.1 (List.mem_filter.1 hy).1 with h1 | h1
    · exact absurd hd (h y h1)
    · rcases List.mem_cons.1 h1 with rfl | h1
      · simp [evR] at hk
      · exact hm y h1 hk hd

set_option maxRecDepth 100000 in
set_option maxHeartbeats 3200000 in
theorem linearNever_walk (raw : List Raw) (vr : Value) (begin_ long : Int) (w : World) (hr : Rd w 5 vr raw.length (raw.flatMap Raw.cs)) (hok : ∀ x ∈ raw, x.ok) (hrl : raw.length ≤ 140737488351232) (hbe : -9223372036854775808 ≤ begin_ ∧ begin_ ≤ 9223372036854775807) (hlo : -9223372036854775808 ≤ long ∧ long ≤ 9223372036854775807) :
    Calls Try.prog 7 #[vr, .int .i64 begin_, .int .i64 long] w fun e w' => e = .returned (.bool true) ∧ Below w.heap.size w w' := by
  have HEV := Lib.hid (events9 raw vr hok hrl)
  have hl9 : (evsOf raw 9).length ≤ 9 := by rw [evsOf_length]; omega
  have HNZ := evs_noz raw 9
  generalize evsOf raw 9 = l at HEV hl9 HNZ
  have HP1 := Lib.hid (pick_any begin_ 20 hbe (by omega) (by omega))
  have HP2 := Lib.hid (pick_any long 9 hlo (by omega) (by omega))
  have bb := pk_bd begin_ 20 (by omega)
  have bl := pk_bd long 9 (by omega)
  generalize pk begin_ 20 = qb at HP1 bb
  generalize pk long 9 = ql at HP2 bl
  have HC1 := chk_never HNZ (1 + qb) (2 + qb + ql) (by omega) [] (by simp)
  have HC2 := chk_never HNZ (1 + qb) (2 + qb + ql) (by omega) [evW ⟨#[122]⟩ (2 + qb + ql + 1) (2 + qb + ql + 2)] (by intro x hx _ _; simp at hx; subst hx; simp [evW]; omega)
  have HK1 : Hid (∀ W v n, n = l.length + 1 → Rd W 8 v n ((l ++ [evR ⟨#[122]⟩ (1 + qb) (2 + qb + ql)]).flatMap Ecs) → Calls Try.prog 14 #[.string ⟨#[]⟩, v] W fun e w' => e = .returned (.bool false) ∧ Below W.heap.size W w') := Lib.hid fun W v n hn h => by
    rw [← HC1]
    subst hn
    exact check_any ⟨#[]⟩ (by simpa using h) (by simp; omega)
  have HK2 : Hid (∀ W v n, n = l.length + 2 → Rd W 8 v n ((l ++ [evR ⟨#[122]⟩ (1 + qb) (2 + qb + ql), evW ⟨#[122]⟩ (2 + qb + ql + 1) (2 + qb + ql + 2)]).flatMap Ecs) → Calls Try.prog 14 #[.string ⟨#[]⟩, v] W fun e w' => e = .returned (.bool false) ∧ Below W.heap.size W w') := Lib.hid fun W v n hn h => by
    rw [← HC2]
    subst hn
    exact check_any ⟨#[]⟩ (by simpa using h) (by simp; omega)
  clear HC1 HC2 HNZ
  go_enter Try.func7, Try.ntmps7
  go_wp2_with fail
  refine (awake_any _).mono ?_; rintro e w1 ⟨rfl, hb1⟩
  go_wp2_with fail
  refine (HEV.out _ (hr.below hb1)).mono ?_; rintro e w2 ⟨v2, rfl, own2, hb2⟩
  have r2 := Rd.of_owns own2
  obtain ⟨al, cl, rfl⟩ : ∃ a c, v2 = .slice a l.length c := by obtain ⟨_, a, c, hv, _⟩ := r2; exact ⟨a, c, hv⟩
  have hb12 := below_then hb1 hb2
  generalize hn : l.length = n at r2 hl9 HK1 HK2
  clear own2 hb1 hb2 hr HEV
  go_wp2_with fail
  refine (HP1.out _).mono ?_; rintro e w3 ⟨rfl, rfl⟩
  go_wp2_with fail
  refine (HP1.out _).mono ?_; rintro e w3 ⟨rfl, rfl⟩
  go_wp2_with fail
  refine (HP2.out _).mono ?_; rintro e w3 ⟨rfl, rfl⟩
  go_wp2_with fail
  refine (eventR_any ⟨#[122]⟩ (1 + qb) (2 + qb + ql) _).mono ?_; rintro e w3 ⟨rfl, hb3⟩
  have h1 : Has (w3.alloc (.cells #[.int .i64 0, .int .i64 (1 + qb), .int .i64 (2 + qb + ql), .int .i64 1, .int .i64 0, .string ⟨#[]⟩, .int .i64 0, .string ⟨#[122]⟩] 31)) ((w3.heap.size, evR ⟨#[122]⟩ (1 + qb) (2 + qb + ql)) :: []) := (Has.nil w3).new (evR ⟨#[122]⟩ (1 + qb) (2 + qb + ql))
  have r3 := (r2.below hb3).below ((Below.refl _ _).alloc (Nat.le_refl _) (.cells #[.int .i64 0, .int .i64 (1 + qb), .int .i64 (2 + qb + ql), .int .i64 1, .int .i64 0, .string ⟨#[]⟩, .int .i64 0, .string ⟨#[122]⟩] 31))
  have b3 := below_al (below_then hb12 hb3) (.cells #[.int .i64 0, .int .i64 (1 + qb), .int .i64 (2 + qb + ql), .int .i64 1, .int .i64 0, .string ⟨#[]⟩, .int .i64 0, .string ⟨#[122]⟩] 31)
  go_upto_region 4 with fail
  generalize w3.alloc (.cells #[.int .i64 0, .int .i64 (1 + qb), .int .i64 (2 + qb + ql), .int .i64 1, .int .i64 0, .string ⟨#[]⟩, .int .i64 0, .string ⟨#[122]⟩] 31) = v3 at h1 r3 b3 ⊢
  generalize w3.heap.size = Y at h1 ⊢
  clear r2 hb3 hb12
  obtain ⟨p0, p1, p2, p3, p4, p5, p6, p7⟩ := h1.cells (B := Y) (x := evR ⟨#[122]⟩ (1 + qb) (2 + qb + ql)) (by simp)
  simp only [evR] at p0 p1 p2 p3 p4 p5 p6 p7
  go_wp2_with fail
  refine (eventW_any ⟨#[122]⟩ (2 + qb + ql + 1) (2 + qb + ql + 2) _).mono ?_; rintro e w4 ⟨rfl, hb4⟩
  have h2 : Has (w4.alloc (.cells #[.int .i64 0, .int .i64 (2 + qb + ql + 1), .int .i64 (2 + qb + ql + 2), .int .i64 2, .int .i64 0, .string ⟨#[122]⟩, .int .i64 0, .string ⟨#[]⟩] 31)) ((w4.heap.size, evW ⟨#[122]⟩ (2 + qb + ql + 1) (2 + qb + ql + 2)) :: (Y, evR ⟨#[122]⟩ (1 + qb) (2 + qb + ql)) :: []) := (h1.below hb4).new (evW ⟨#[122]⟩ (2 + qb + ql + 1) (2 + qb + ql + 2))
  have r4 := (r3.below hb4).below ((Below.refl _ _).alloc (Nat.le_refl _) (.cells #[.int .i64 0, .int .i64 (2 + qb + ql + 1), .int .i64 (2 + qb + ql + 2), .int .i64 2, .int .i64 0, .string ⟨#[122]⟩, .int .i64 0, .string ⟨#[]⟩] 31))
  have b4 := below_al (below_then b3 hb4) (.cells #[.int .i64 0, .int .i64 (2 + qb + ql + 1), .int .i64 (2 + qb + ql + 2), .int .i64 2, .int .i64 0, .string ⟨#[122]⟩, .int .i64 0, .string ⟨#[]⟩] 31)
  go_upto_region 5 with fail
  generalize w4.alloc (.cells #[.int .i64 0, .int .i64 (2 + qb + ql + 1), .int .i64 (2 + qb + ql + 2), .int .i64 2, .int .i64 0, .string ⟨#[122]⟩, .int .i64 0, .string ⟨#[]⟩] 31) = v4 at h2 r4 b4 ⊢
  generalize w4.heap.size = Z at h2 ⊢
  clear h1 r3 b3 hb4 p0 p1 p2 p3 p4 p5 p6 p7
  have FULL : Hid (∀ W, Below v4.heap.size v4 W → W.cell? ⟨Y, 0, none⟩ = some (.int .i64 0) ∧ W.cell? ⟨Y, 1, none⟩ = some (.int .i64 (1 + qb)) ∧ W.cell? ⟨Y, 2, none⟩ = some (.int .i64 (2 + qb + ql)) ∧ W.cell? ⟨Y, 3, none⟩ = some (.int .i64 1) ∧ W.cell? ⟨Y, 4, none⟩ = some (.int .i64 0) ∧ W.cell? ⟨Y, 5, none⟩ = some (.string ⟨#[]⟩) ∧ W.cell? ⟨Y, 6, none⟩ = some (.int .i64 0) ∧ W.cell? ⟨Y, 7, none⟩ = some (.string ⟨#[122]⟩) ∧
      W.cell? ⟨Z, 0, none⟩ = some (.int .i64 0) ∧ W.cell? ⟨Z, 1, none⟩ = some (.int .i64 (2 + qb + ql + 1)) ∧ W.cell? ⟨Z, 2, none⟩ = some (.int .i64 (2 + qb + ql + 2)) ∧ W.cell? ⟨Z, 3, none⟩ = some (.int .i64 2) ∧ W.cell? ⟨Z, 4, none⟩ = some (.int .i64 0) ∧ W.cell? ⟨Z, 5, none⟩ = some (.string ⟨#[122]⟩) ∧ W.cell? ⟨Z, 6, none⟩ = some (.int .i64 0) ∧ W.cell? ⟨Z, 7, none⟩ = some (.string ⟨#[]⟩) ∧ Below v4.heap.size v4 W) := Lib.hid fun W hW => by
    have hh := h2.below hW
    obtain ⟨p0, p1, p2, p3, p4, p5, p6, p7⟩ := hh.cells (B := Y) (x := evR ⟨#[122]⟩ (1 + qb) (2 + qb + ql)) (by simp)
    obtain ⟨q0, q1, q2, q3, q4, q5, q6, q7⟩ := hh.cells (B := Z) (x := evW ⟨#[122]⟩ (2 + qb + ql + 1) (2 + qb + ql + 2)) (by simp)
    exact ⟨p0, p1, p2, p3, p4, p5, p6, p7, q0, q1, q2, q3, q4, q5, q6, q7, hW⟩
  have hd := (Below.refl v4.heap.size v4).drew
  have R4 := Lib.hid r4
  have B4 := Lib.hid b4
  clear h2 r4 b4
  go_region_held3 (fun W => W.cell? ⟨Y, 0, none⟩ = some (.int .i64 0) ∧ W.cell? ⟨Y, 1, none⟩ = some (.int .i64 (1 + qb)) ∧ W.cell? ⟨Y, 2, none⟩ = some (.int .i64 (2 + qb + ql)) ∧ W.cell? ⟨Y, 3, none⟩ = some (.int .i64 1) ∧ W.cell? ⟨Y, 4, none⟩ = some (.int .i64 0) ∧ W.cell? ⟨Y, 5, none⟩ = some (.string ⟨#[]⟩) ∧ W.cell? ⟨Y, 6, none⟩ = some (.int .i64 0) ∧ W.cell? ⟨Y, 7, none⟩ = some (.string ⟨#[122]⟩) ∧
      W.cell? ⟨Z, 0, none⟩ = some (.int .i64 0) ∧ W.cell? ⟨Z, 1, none⟩ = some (.int .i64 (2 + qb + ql + 1)) ∧ W.cell? ⟨Z, 2, none⟩ = some (.int .i64 (2 + qb + ql + 2)) ∧ W.cell? ⟨Z, 3, none⟩ = some (.int .i64 2) ∧ W.cell? ⟨Z, 4, none⟩ = some (.int .i64 0) ∧ W.cell? ⟨Z, 5, none⟩ = some (.string ⟨#[122]⟩) ∧ W.cell? ⟨Z, 6, none⟩ = some (.int .i64 0) ∧ W.cell? ⟨Z, 7, none⟩ = some (.string ⟨#[]⟩) ∧ Below v4.heap.size v4 W)
    (first
      | exact FULL.out _ hd
      | (go_split_ands; exact FULL.out _ (by assumption))
      | (go_split_ands; exact FULL.out _ (below_al (by assumption) _)))
    (first
      | ((go_split_ands; refine step_ev (by rfl) _ _ (by rfl) v4 (by assumption) (.slice none 0 0) 0 [] (by rfl) (World.ownsRow_nil _ _ _ _) al n cl l (by rfl) (R4.out.below (by assumption)) (by omega) ?_; intro vA wA oA gA bA))
      | ((go_split_ands; refine step_ev (by rfl) _ _ (by rfl) v4 (by assumption) _ (0 + n) ([] ++ l) (by rfl) (by first | exact oA | exact oA.alloc _) _ 1 1 [evR ⟨#[122]⟩ (1 + qb) (2 + qb + ql)] (by rfl) (by first | exact lit_rd _ [evR ⟨#[122]⟩ (1 + qb) (2 + qb + ql)] | exact (lit_rd _ [evR ⟨#[122]⟩ (1 + qb) (2 + qb + ql)]).below (below_of_grown gA) | exact ((lit_rd _ [evR ⟨#[122]⟩ (1 + qb) (2 + qb + ql)]).below ((Below.refl _ _).drew)).below (below_of_grown gA)) (by omega) ?_; intro vC wC oC gC bC))
      | ((go_split_ands; refine step_ev (by rfl) _ _ (by rfl) v4 (by assumption) _ (0 + n) ([] ++ l) (by rfl) (by first | exact oA | exact oA.alloc _) _ 2 2 [evR ⟨#[122]⟩ (1 + qb) (2 + qb + ql), evW ⟨#[122]⟩ (2 + qb + ql + 1) (2 + qb + ql + 2)] (by rfl) (by first | exact lit_rd _ [evR ⟨#[122]⟩ (1 + qb) (2 + qb + ql), evW ⟨#[122]⟩ (2 + qb + ql + 1) (2 + qb + ql + 2)] | exact (lit_rd _ [evR ⟨#[122]⟩ (1 + qb) (2 + qb + ql), evW ⟨#[122]⟩ (2 + qb + ql + 1) (2 + qb + ql + 2)]).below (below_of_grown gA) | exact ((lit_rd _ [evR ⟨#[122]⟩ (1 + qb) (2 + qb + ql), evW ⟨#[122]⟩ (2 + qb + ql + 1) (2 + qb + ql + 2)]).below ((Below.refl _ _).drew)).below (below_of_grown gA)) (by omega) ?_; intro vC wC oC gC bC))
      | ((go_at_call 14; (first | (refine (HK1.out _ _ _ (by omega) (Rd.of_owns oC)).mono ?_) | (refine (HK2.out _ _ _ (by omega) (Rd.of_owns oC)).mono ?_)); rintro e w' ⟨rfl, hbI⟩; have bI := bC.trans (hbI.mono bC.size))))
  all_goals
    go_split_ands
    have HF := B4.out.trans ((by assumption : Below v4.heap.size v4 _).mono B4.out.size)
    go_wp2_with fail
    go_ret
    exact ⟨rfl, HF⟩
end Go.Proofs.Ytojgibinokmmeaa
