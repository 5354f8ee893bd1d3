/- The walk of LinearMany. -/
import Derived.Test.YtojgibinokmmeaaApp
import Derived.Test.YtojgibinokmmeaaSer
import Derived.Laws.BytesArg
namespace Go.Proofs.Ytojgibinokmmeaa
open Go.RowKit SlRd Lin
set_option linter.unusedVariables false

/-- k writes one behind the other -/
structure MInv (k : Nat) (now : ByteArray) (l : List Lin.Ev) : Prop where
  n : l.length = k
  o : Ord l
  e : ∀ x ∈ l, x.end_ ≤ 2 * k ∧ x.op.kind = 2
  r : Runs ⟨#[]⟩ l
  t : last ⟨#[]⟩ l = now
theorem MInv.start : MInv 0 ⟨#[]⟩ [] := ⟨rfl, Ord.nil, fun x h => (by cases h), trivial, rfl⟩
theorem MInv.step {k : Nat} {now : ByteArray} {l : List Lin.Ev} (h : MInv k now l) (s : ByteArray) : MInv (k + 1) s (l ++ [evW s (2 * k + 1) (2 * k + 2)]) := by
  refine ⟨by simp [h.n], h.o.snoc (by simp [sure, evW]; omega) (by simp [evW]) (fun y hy => by have := (h.e y hy).1; simp [evW]; omega), fun x hx => ?_, (runs_snoc _ _ _).2 ⟨h.r, .inl rfl⟩, ?_⟩
  · rcases List.mem_append.1 hx with h1 | h1
    · have := h.e x h1
      exact ⟨by omega, this.2⟩
    · simp at h1
      subst h1
      exact ⟨by simp [evW]; omega, rfl⟩
  · rw [last_snoc]
    rfl
/-- reads that failed -/
def Failed (F : List Lin.Ev) : Prop := ∀ x ∈ F, cnt x = false
theorem Failed.nil : Failed [] := fun x h => by cases h
theorem Failed.snoc {F : List Lin.Ev} (h : Failed F) (s : ByteArray) (b e : Int) : Failed (F ++ [⟨0, b, e, ⟨1, 0, ⟨#[]⟩⟩, 170, s⟩]) := fun x hx => by
  rcases List.mem_append.1 hx with h1 | h1
  · exact h x h1
  · simp at h1
    subst h1
    simp [cnt, sure]
theorem chk_many {k : Nat} {now : ByteArray} {l F : List Lin.Ev} (h : MInv k now l) (hF : Failed F) : chk ⟨#[]⟩ (l ++ F) = decide ((k : Int) ≤ 12) := by
  have := chk_ord ⟨#[]⟩ h.o (fun x hx => .inr (h.e x hx).2) F hF [] (by rw [List.append_nil]; exact h.o) (by simp)
  rw [List.append_nil, List.append_nil, h.n] at this
  rw [Bool.eq_iff_iff, this, decide_eq_true_eq]
  constructor
  · rintro ⟨h1, _⟩; omega
  · intro h1; exact ⟨by omega, h.r⟩
theorem chk_many2 {k : Nat} {now : ByteArray} {l F : List Lin.Ev} (h : MInv k now l) (hk : k ≤ 15) (hF : Failed F) : chk ⟨#[]⟩ (l ++ F ++ [evR now 200 201]) = decide ((k : Int) < 12) := by
  have ho : Ord (l ++ [evR now 200 201]) := h.o.snoc (by simp [sure, evR]) (by simp [evR]) (fun y hy => by have := (h.e y hy).1; simp [evR]; omega)
  have := chk_ord ⟨#[]⟩ h.o (fun x hx => .inr (h.e x hx).2) F hF [evR now 200 201] ho (fun x hx => by simp at hx; subst hx; exact .inl rfl)
  rw [Bool.eq_iff_iff, this, decide_eq_true_eq, List.length_append, h.n]
  constructor
  · rintro ⟨h1, _⟩; simp at h1; omega
  · intro h1; exact ⟨by simp; omega, (runs_snoc _ _ _).2 ⟨h.r, .inr h.t.symm⟩⟩

set_option maxRecDepth 100000 in
set_option maxHeartbeats 3200000 in
theorem linearMany_walk (letters : List Int) (vl : Value) (many failed : Int) (w : World) (hr : Rd w 1 vl letters.length (letters.map (Value.int .i64))) (hok : ∀ a ∈ letters, -9223372036854775808 ≤ a ∧ a ≤ 9223372036854775807) (hrl : letters.length ≤ 140737488351232)
    (hma : -9223372036854775808 ≤ many ∧ many ≤ 9223372036854775807) (hfa : -9223372036854775808 ≤ failed ∧ failed ≤ 9223372036854775807) :
    Calls Try.prog 3 #[vl, .int .i64 many, .int .i64 failed] w fun e w' => e = .returned (.bool true) ∧ Below w.heap.size w w' := by
  obtain ⟨a0, c0, rfl⟩ : ∃ a c, vl = .slice a letters.length c := by obtain ⟨_, a, c, rfl, _⟩ := hr; exact ⟨_, _, rfl⟩
  have HM := Lib.hid (pick_any many 16 hma (by omega) (by omega))
  have HF := Lib.hid (pick_any failed 20 hfa (by omega) (by omega))
  have bm := pk_bd many 16 (by omega)
  have bf := pk_bd failed 20 (by omega)
  obtain ⟨m, hm⟩ : ∃ n : Nat, pk many 16 = n := ⟨(pk many 16).toNat, by omega⟩
  obtain ⟨f, hf⟩ : ∃ n : Nat, pk failed 20 = n := ⟨(pk failed 20).toNat, by omega⟩
  rw [hm] at HM bm
  rw [hf] at HF bf
  have HOK := Lib.hid hok
  have HP : Hid (∀ (c : Int), (-9223372036854775808 ≤ c ∧ c ≤ 9223372036854775807) → ∀ W, Calls Try.prog 12 #[.int .i64 c, .int .i64 20] W fun e w' => e = .returned (.int .i64 (pk c 20)) ∧ W = w') := Lib.hid fun c hc W => pick_any c 20 hc (by omega) (by omega) W
  clear hok hm hf hma hfa
  go_enter Try.func3, Try.ntmps3
  go_wp2_with fail
  refine (awake_any _).mono ?_; rintro e w1 ⟨rfl, hb1⟩
  have hr1 := hr.below hb1
  clear hr
  go_wp2_with fail
  refine (HM.out _).mono ?_; rintro e w2 ⟨rfl, rfl⟩
  go_wp2_with fail
  go_loopw [8, 9, 10] (fun s v i wr => ∃ k : Nat, k ≤ m ∧ i = .int .i64 k ∧ ∃ now, s = .string now ∧ ∃ l : List Lin.Ev, Hid (MInv k now l) ∧ wr.ownsRow w1.heap.size 31 8 v k (l.flatMap Ecs) ∧ Below w1.heap.size w1 wr) (fun _ _ i _ => m - (intOf i).toNat)
  case atStart => exact ⟨0, Nat.zero_le _, rfl, _, rfl, [], Lib.hid MInv.start, World.ownsRow_nil _ _ _ _, Below.refl _ _⟩
  case round =>
    obtain ⟨k, hk, rfl, now, rfl, l, HI, hown, hb⟩ := hrel
    by_cases hlt : k < m
    · have hrb := hr1.below hb
      go_upto_if 24 with fail
      go_cut [11] from 25 to 31 (fun v wx => wx = wr ∧ ∃ c : Int, v = .int .i64 c ∧ -9223372036854775808 ≤ c ∧ c ≤ 9223372036854775807)
      case first =>
        by_cases hn : letters.length = 0
        · have h0 : ¬ 0 < letters.length := by omega
          go_wp2_with fail
          go_meet
          exact ⟨rfl, 0, rfl, by omega, by omega⟩
        · have hn1 : (0 : Int) < (letters.length : Int) := by omega
          have hj : k % letters.length < letters.length := Nat.mod_lt _ (by omega)
          obtain ⟨b, o, rfl, hb0, hc0⟩ := hrb.at1 (k % letters.length) hj
          rw [List.getElem?_map, List.getElem?_eq_getElem hj] at hc0
          have hbd := HOK.out _ (List.getElem_mem hj)
          go_wp2_with fail
          go_meet
          exact ⟨rfl, _, rfl, hbd.1, hbd.2⟩
      case rest =>
        obtain ⟨rfl, c, rfl, hc1, hc2⟩ := hcut
        go_wp2_with fail
        refine (HP.out c ⟨hc1, hc2⟩ _).mono ?_; rintro e w2 ⟨rfl, rfl⟩
        have bc := pk_bd c 20 (by omega)
        generalize pk c 20 = q at bc ⊢
        have hconv : (convert 26 9 (.slice (some ⟨wc.heap.size, 0, none⟩) 1 1)).run Try.prog (wc.alloc (.cells #[.int .u8 (97 + q)] 5)) = .ok (.string (strOfNums [97 + q])) (wc.alloc (.cells #[.int .u8 (97 + q)] 5)) :=
          run_convert_bytes_arg _ 26 5 Try.underlying26 Try.underlying5 _ 0 1 1 [97 + q] rfl (fun i hi => by
            obtain rfl : i = 0 := by omega
            rw [World.cell?_alloc_at _ _ _ _ rfl]
            rfl) 9 Try.underlying9
        generalize strOfNums [97 + q] = s at hconv
        go_upto_region 12 with fail
        have own2 := hown.alloc (.cells #[.int .u8 (97 + q)] 5)
        have hb2 := below_al hb (.cells #[.int .u8 (97 + q)] 5)
        have HS := Lib.hid (HI.out.step s)
        generalize wc.alloc (.cells #[.int .u8 (97 + q)] 5) = w2 at own2 hb2 ⊢
        clear hown hb hconv hrb
        go_wp2_with fail
        refine (eventW_any s (2 * k + 1) (2 * k + 2) _).mono ?_; rintro e w3 ⟨rfl, hb3⟩
        have own3 := owns_below own2 hb3
        have hb13 := below_then hb2 hb3
        clear own2 hb2 hb3
        go_wp2_with (at_builtin; refine wpList_ev (by rfl) _ _ rfl w1 (below_al hb13 _) _ _ l rfl (own3.alloc _) _ 1 1 [evW s (2 * k + 1) (2 * k + 2)] rfl (lit_rd w3 [evW s (2 * k + 1) (2 * k + 2)]) (by omega) ?_)
        intro v4 w4 own4 _ hb4
        have HO : Hid (w4.ownsRow w1.heap.size 31 8 v4 (k + 1) ((l ++ [evW s (2 * k + 1) (2 * k + 2)]).flatMap Ecs)) := by
          show World.ownsRow _ _ _ _ _ _ _
          rw [List.flatMap_append, List.flatMap_singleton]
          exact own4
        have HB := Lib.hid hb4
        clear own3 hb13 own4 hb4
        go_wp2_with fail
        go_roundw
        case rel => exact ⟨k + 1, by omega, by go_num, s, rfl, _, HS, HO.out, HB.out⟩
        case measure => simp [intOf]; omega
    · obtain rfl : k = m := by omega
      have HK1 := Lib.hid (fun F (hF : Failed F) => chk_many HI.out hF)
      have HK2 := Lib.hid (fun F (hF : Failed F) => chk_many2 HI.out (by omega) hF)
      have hn := Lib.hid HI.out.n
      have hb01 := Lib.hid hb1
      clear hr1 hb1
      go_wp2_with fail
      go_loopw [9, 12] (fun v i wx => ∃ j : Nat, j ≤ f ∧ i = .int .i64 j ∧ ∃ F : List Lin.Ev, F.length = j ∧ Hid (Failed F) ∧ wx.ownsRow w1.heap.size 31 8 v (k + j) ((l ++ F).flatMap Ecs) ∧ Below w1.heap.size w1 wx) (fun _ i _ => f - (intOf i).toNat)
      case atStart => exact ⟨0, Nat.zero_le _, rfl, [], rfl, Lib.hid Failed.nil, by rw [List.append_nil]; exact hown, hb⟩
      case round =>
        clear hown hb
        obtain ⟨j, hj, rfl, F, hF, HFA, hown, hb⟩ := hrel
        go_wp2_with fail
        refine (HF.out _).mono ?_; rintro e w2 ⟨rfl, rfl⟩
        by_cases hlt2 : j < f
        · go_wp2_with fail
          refine (eventR_any ⟨#[110, 101, 118, 101, 114]⟩ (100 + 2 * j) (101 + 2 * j) _).mono ?_; rintro e w3 ⟨rfl, hb3⟩
          have own3 := owns_below hown hb3
          have hb13 := below_then hb hb3
          clear hown hb hb3
          go_upto_region 17 with fail
          have bX := Blk.new w3 31 #[.int .i64 0, .int .i64 (100 + 2 * j), .int .i64 (101 + 2 * j), .int .i64 1, .int .i64 0, .string ⟨#[]⟩, .int .i64 0, .string ⟨#[110, 101, 118, 101, 114]⟩]
          have own4 := own3.alloc (.cells #[.int .i64 0, .int .i64 (100 + 2 * j), .int .i64 (101 + 2 * j), .int .i64 1, .int .i64 0, .string ⟨#[]⟩, .int .i64 0, .string ⟨#[110, 101, 118, 101, 114]⟩] 31)
          have hb14 := below_al hb13 (.cells #[.int .i64 0, .int .i64 (100 + 2 * j), .int .i64 (101 + 2 * j), .int .i64 1, .int .i64 0, .string ⟨#[]⟩, .int .i64 0, .string ⟨#[110, 101, 118, 101, 114]⟩] 31)
          have hne : ∀ q, u9.ownBlock = some q → q ≠ w3.heap.size := fun q hq => Nat.ne_of_lt (owns_lt own3 q hq).2
          have hXb := hb13.size
          generalize w3.alloc (.cells #[.int .i64 0, .int .i64 (100 + 2 * j), .int .i64 (101 + 2 * j), .int .i64 1, .int .i64 0, .string ⟨#[]⟩, .int .i64 0, .string ⟨#[110, 101, 118, 101, 114]⟩] 31) = w4 at bX own4 hb14 ⊢
          generalize w3.heap.size = X at bX hne hXb ⊢
          clear own3 hb13
          have y6 := bX.cell 6
          simp only [List.getElem?_toArray, List.getElem?_cons_zero, List.getElem?_cons_succ] at y6
          have f6 := bX.frozen 6
          go_upto_region 18 with fail
          have bX3 : Blk (w4.setCell ⟨X, 6, none⟩ (.int .i64 170)) X 31 #[.int .i64 0, .int .i64 (100 + 2 * j), .int .i64 (101 + 2 * j), .int .i64 1, .int .i64 0, .string ⟨#[]⟩, .int .i64 170, .string ⟨#[110, 101, 118, 101, 114]⟩] := bX.set_ 6 _
          have own5 := owns_setCell own4 ⟨X, 6, none⟩ (.int .i64 170) hne
          have hb5 := hb14.setCell (p := ⟨X, 6, none⟩) hXb (.int .i64 170)
          generalize w4.setCell ⟨X, 6, none⟩ (.int .i64 170) = w5 at bX3 own5 hb5 ⊢
          clear own4 hb14 bX y6 f6
          have y0 := bX3.cell 0; have y1 := bX3.cell 1; have y2 := bX3.cell 2; have y3 := bX3.cell 3; have y4 := bX3.cell 4; have y5 := bX3.cell 5; have y6 := bX3.cell 6; have y7 := bX3.cell 7
          simp only [List.getElem?_toArray, List.getElem?_cons_zero, List.getElem?_cons_succ] at y0 y1 y2 y3 y4 y5 y6 y7
          go_wp2_with (at_builtin; refine wpList_ev (by rfl) _ _ rfl w1 (below_al hb5 _) _ _ (l ++ F) rfl (own5.alloc _) _ 1 1 [⟨0, 100 + 2 * j, 101 + 2 * j, ⟨1, 0, ⟨#[]⟩⟩, 170, ⟨#[110, 101, 118, 101, 114]⟩⟩] rfl (lit_rd w5 [⟨0, 100 + 2 * j, 101 + 2 * j, ⟨1, 0, ⟨#[]⟩⟩, 170, ⟨#[110, 101, 118, 101, 114]⟩⟩]) (by omega) ?_)
          intro v6 w6 own6 _ hb6
          have HO : Hid (w6.ownsRow w1.heap.size 31 8 v6 (k + (j + 1)) ((l ++ (F ++ [(⟨0, 100 + 2 * j, 101 + 2 * j, ⟨1, 0, ⟨#[]⟩⟩, 170, ⟨#[110, 101, 118, 101, 114]⟩⟩ : Lin.Ev)])).flatMap Ecs)) := by
            show World.ownsRow _ _ _ _ _ _ _
            rw [← Nat.add_assoc]
            simpa using own6
          have HB := Lib.hid hb6
          have HFB := Lib.hid (HFA.out.snoc ⟨#[110, 101, 118, 101, 114]⟩ (100 + 2 * j) (101 + 2 * j))
          clear own5 hb5 own6 hb6 y0 y1 y2 y3 y4 y5 y6 y7 bX3
          go_wp2_with fail
          go_roundw
          case rel => exact ⟨j + 1, by omega, by go_num, _, by simp [hF], HFB, HO.out, HB.out⟩
          case measure => simp [intOf]; omega
        · obtain rfl : j = f := by omega
          have hlen : (l ++ F).length = k + j := by rw [List.length_append, hn.out, hF]
          have R := Rd.of_owns hown
          have HC1 : Hid (∀ W v, Rd W 8 v (k + j) ((l ++ F).flatMap Ecs) → Calls Try.prog 14 #[.string ⟨#[]⟩, v] W fun e w' => e = .returned (.bool (decide ((k : Int) ≤ 12))) ∧ Below W.heap.size W w') := Lib.hid fun W v h => by
            rw [← HK1.out F HFA.out]
            exact check_any ⟨#[]⟩ (by rw [hlen]; exact h) (by omega)
          have HC2 : Hid (∀ W v, Rd W 8 v (k + j + 1) ((l ++ F ++ [evR now 200 201]).flatMap Ecs) → Calls Try.prog 14 #[.string ⟨#[]⟩, v] W fun e w' => e = .returned (.bool (decide ((k : Int) < 12))) ∧ Below W.heap.size W w') := Lib.hid fun W v h => by
            rw [← HK2.out F HFA.out]
            have hl2 : (l ++ F ++ [evR now 200 201]).length = k + j + 1 := by rw [List.length_append, hlen]; rfl
            exact check_any ⟨#[]⟩ (by rw [hl2]; exact h) (by omega)
          have hkk : k < 12 ∨ k = 12 ∨ 12 < k := by omega
          clear HK1 HK2 HFA
          rcases hkk with hk1 | hk1 | hk1
          · have e1 : decide ((k : Int) ≤ 12) = true := decide_eq_true (by omega)
            have e2 : decide ((k : Int) < 12) = true := decide_eq_true (by omega)
            rw [e1] at HC1
            rw [e2] at HC2
            go_wp2_with fail
            refine (HC1.out _ _ R).mono ?_; rintro e w3 ⟨rfl, hb3⟩
            have own3 := owns_below hown hb3
            have hb13 := below_then hb hb3
            clear hown R hb hb3
            go_wp2_with fail
            refine (eventR_any now 200 201 _).mono ?_; rintro e w4 ⟨rfl, hb4⟩
            have own4 := owns_below own3 hb4
            have hb14 := below_then hb13 hb4
            clear own3 hb13 hb4
            go_wp2_with (at_builtin; refine wpList_ev (by rfl) _ _ rfl w1 (below_al hb14 _) _ _ (l ++ F) rfl (own4.alloc _) _ 1 1 [evR now 200 201] rfl (lit_rd w4 [evR now 200 201]) (by omega) ?_)
            intro v6 w6 own6 _ hb6
            have R6 : Rd w6 8 v6 (k + j + 1) ((l ++ F ++ [evR now 200 201]).flatMap Ecs) := Rd.of_owns (by simpa using own6)
            have HB6 := Lib.hid (below_then hb01.out hb6)
            clear own4 own6 hb6 hb14
            go_wp2_with fail
            refine (HC2.out _ _ R6).mono ?_; rintro e w7 ⟨rfl, hb7⟩
            have HB := Lib.hid (below_then HB6.out hb7)
            clear R6 hb7 HB6
            go_wp2_with fail
            go_ret
            exact ⟨rfl, HB.out⟩
          · have e1 : decide ((k : Int) ≤ 12) = true := decide_eq_true (by omega)
            have e2 : decide ((k : Int) < 12) = false := decide_eq_false (by omega)
            rw [e1] at HC1
            rw [e2] at HC2
            subst hk1
            go_wp2_with fail
            refine (HC1.out _ _ R).mono ?_; rintro e w3 ⟨rfl, hb3⟩
            have own3 := owns_below hown hb3
            have hb13 := below_then hb hb3
            clear hown R hb hb3
            go_wp2_with fail
            refine (eventR_any now 200 201 _).mono ?_; rintro e w4 ⟨rfl, hb4⟩
            have own4 := owns_below own3 hb4
            have hb14 := below_then hb13 hb4
            clear own3 hb13 hb4
            go_wp2_with (at_builtin; refine wpList_ev (by rfl) _ _ rfl w1 (below_al hb14 _) _ _ (l ++ F) rfl (own4.alloc _) _ 1 1 [evR now 200 201] rfl (lit_rd w4 [evR now 200 201]) (by omega) ?_)
            intro v6 w6 own6 _ hb6
            have R6 : Rd w6 8 v6 (12 + j + 1) ((l ++ F ++ [evR now 200 201]).flatMap Ecs) := Rd.of_owns (by simpa using own6)
            have HB6 := Lib.hid (below_then hb01.out hb6)
            clear own4 own6 hb6 hb14
            go_wp2_with fail
            refine (HC2.out _ _ R6).mono ?_; rintro e w7 ⟨rfl, hb7⟩
            have HB := Lib.hid (below_then HB6.out hb7)
            clear R6 hb7 HB6
            go_wp2_with fail
            go_ret
            exact ⟨rfl, HB.out⟩
          · have e1 : decide ((k : Int) ≤ 12) = false := decide_eq_false (by omega)
            have e2 : decide ((k : Int) < 12) = false := decide_eq_false (by omega)
            rw [e1] at HC1
            rw [e2] at HC2
            go_wp2_with fail
            refine (HC1.out _ _ R).mono ?_; rintro e w3 ⟨rfl, hb3⟩
            have own3 := owns_below hown hb3
            have hb13 := below_then hb hb3
            clear hown R hb hb3
            go_wp2_with fail
            refine (eventR_any now 200 201 _).mono ?_; rintro e w4 ⟨rfl, hb4⟩
            have own4 := owns_below own3 hb4
            have hb14 := below_then hb13 hb4
            clear own3 hb13 hb4
            go_wp2_with (at_builtin; refine wpList_ev (by rfl) _ _ rfl w1 (below_al hb14 _) _ _ (l ++ F) rfl (own4.alloc _) _ 1 1 [evR now 200 201] rfl (lit_rd w4 [evR now 200 201]) (by omega) ?_)
            intro v6 w6 own6 _ hb6
            have R6 : Rd w6 8 v6 (k + j + 1) ((l ++ F ++ [evR now 200 201]).flatMap Ecs) := Rd.of_owns (by simpa using own6)
            have HB6 := Lib.hid (below_then hb01.out hb6)
            clear own4 own6 hb6 hb14
            go_wp2_with fail
            refine (HC2.out _ _ R6).mono ?_; rintro e w7 ⟨rfl, hb7⟩
            have HB := Lib.hid (below_then HB6.out hb7)
            clear R6 hb7 HB6
            go_wp2_with fail
            go_ret
            exact ⟨rfl, HB.out⟩
end Go.Proofs.Ytojgibinokmmeaa
