/- FrameTurned: a frame in which a run of at most 24 bits was turned is none: the walk. -/
import Derived.Test.YtkedelcknkhcnaaRunsP
namespace Go.Proofs.Ytkedelcknkhcnaa
open Go.RowKit
set_option linter.unusedVariables false

theorem byts_ofNat (n : Nat) : (UInt8.ofNat n).toBitVec = BitVec.ofNat 8 n := rfl
theorem ownStr_byts (c : BitVec 24) : byts (ownStr (c.toNat : Int)) = [(c >>> 16).setWidth 8, (c >>> 8).setWidth 8, c.setWidth 8] := by
  have hc := c.isLt
  unfold ownStr byts
  rw [strOfNums_data]
  simp only [List.map_cons, List.map_nil, byts_ofNat]
  congr 1
  · apply BitVec.eq_of_toNat_eq
    rw [BitVec.toNat_ofNat, BitVec.toNat_setWidth, BitVec.toNat_ushiftRight, Nat.shiftRight_eq_div_pow]
    omega
  congr 1
  · apply BitVec.eq_of_toNat_eq
    rw [BitVec.toNat_ofNat, BitVec.toNat_setWidth, BitVec.toNat_ushiftRight, Nat.shiftRight_eq_div_pow]
    omega
  congr 1
  · apply BitVec.eq_of_toNat_eq
    rw [BitVec.toNat_ofNat, BitVec.toNat_setWidth]
    omega
/-- what three bytes behind a state come to -/
theorem go_ownStr (x c : BitVec 24) : CrcP.go x (byts (ownStr (c.toNat : Int))) = CrcP.iter 24 (x ^^^ c) := by
  rw [ownStr_byts, CrcP.go_three_bytes, CrcP.three_own]

/-- a frame's sum is nought -/
theorem frame_sum (p : ByteArray) : CrcP.go 11994318#24 (byts (frameStr p)) = 0#24 := by
  unfold frameStr tailStr
  rw [byts_append, CrcP.go_append, go_ownStr]
  show CrcP.iter 24 (sumOf (bodyStr p) ^^^ sumOf (bodyStr p)) = _
  rw [BitVec.xor_self, CrcP.iter_zero]

theorem open_sum (s : ByteArray) (h : openOK s = true) : CrcP.go 11994318#24 (byts s) = 0#24 := by
  obtain ⟨e, _⟩ := open_frame s h
  rw [e]
  exact frame_sum _

theorem GG_none (s : ByteArray) (t : Int) (fr k : Nat) (h : SM t k = false) : GG s t fr k = BRow.byteAt s := by
  induction k with
  | zero => exact GG_start s t fr
  | succ k ih =>
    unfold SM at h
    cases hT : TB t k with
    | true => rw [hT] at h; cases h
    | false =>
      rw [hT] at h
      rw [GG_no s t fr k hT]
      exact ih h

theorem str_back (s : ByteArray) : strOfNums ((List.range s.size).map (BRow.byteAt s)) = s := by
  apply LL_inj
  rw [LL_nums]
  apply List.ext_getElem?
  intro i
  rw [List.getElem?_map, List.getElem?_map]
  by_cases h : i < s.size
  · have h' : i < (LL s).length := by rw [LL_length]; exact h
    rw [List.getElem?_range h, List.getElem?_eq_getElem h']
    simp only [Option.map_some]
    rw [byteAt_LL, List.getD_eq_getElem?_getD, List.getElem?_eq_getElem h']
    simp
  · rw [List.getElem?_eq_none (by rw [List.length_range]; omega), List.getElem?_eq_none (by rw [LL_length]; omega)]
    rfl

theorem turned_open (c : ByteArray) (hc : c.size ≤ 800) (t : Int) (fr k : Nat) (hk : k ≤ 24) (hn : fr + k ≤ 8 * (frameStr c).size) :
    openOK (strOfNums ((List.range (frameStr c).size).map (GG (frameStr c) t fr k))) = !SM t k := by
  cases hS : SM t k with
  | false =>
    rw [GG_none _ t fr k hS, str_back]
    exact frame_opens c hc
  | true =>
    show _ = false
    cases ho : openOK (strOfNums ((List.range (frameStr c).size).map (GG (frameStr c) t fr k))) with
    | false => rfl
    | true =>
      have h1 := open_sum _ ho
      have h2 := frame_sum c
      have h3 := runs_beq 11994318#24 (frameStr c) t fr k (frameStr c).size hk hn
      rw [byts_same, BRow.byts_str] at h1
      rw [byts_same, BRow.byts_at] at h2
      rw [h1, h2, hS] at h3
      simp at h3

set_option maxHeartbeats 1600000 in
set_option maxRecDepth 100000 in
theorem turned_core (p c s : ByteArray) (at_ turn : Int) (fr : Nat) (t : Int) (X : Nat → ByteArray) (E : Nat → Int) (w : World) (hp : p.size ≤ 140737488351232) (hc : Hid (c = p.extract 0 (min p.size 800)))
    (hs : s.size ≤ 807) (hs0 : 7 ≤ s.size) (ht : 0 ≤ t) (ht2 : t < 16777215) (hfr : fr < 8 * s.size)
    (hA : Hid (∀ k, k ≤ 24 → fr + k ≤ 8 * s.size → ((E k == 0) == !SM t k) = true))
    (c0 : Hid (∀ w, Calls Try.prog 11 #[.string c] w fun e w' => e = .returned (.tuple #[.string s, .int .i64 0]) ∧ Below w.heap.size w w'))
    (c1 : Hid (∀ w, Calls Try.prog 15 #[.int .i64 turn, .int .i64 16777215] w fun e w' => e = .returned (.int .i64 t) ∧ w = w'))
    (c2 : Hid (∀ w, Calls Try.prog 15 #[.int .i64 at_, .int .i64 (8 * (s.size : Int))] w fun e w' => e = .returned (.int .i64 (fr : Int)) ∧ w = w'))
    (c3 : Hid (∀ k w, Calls Try.prog 13 #[.string (strOfNums ((List.range s.size).map (GG s t fr k)))] w fun e w' => e = .returned (.tuple #[.string (X k), .int .i64 (E k)]) ∧ Below w.heap.size w w')) :
    Calls Try.prog 7 #[.string p, .int .i64 at_, .int .i64 turn] w fun e w' => e = .returned (.bool true) ∧ Below w.heap.size w w' := by
  go_enter Try.func7, Try.ntmps7
  go_upto_region 2 with (go_at_call 10; refine (awake_any _).mono ?_; rintro e w0 ⟨rfl, hb0⟩)
  go_cut [8, 9] (fun s6 s7 wx => s6 = .string s ∧ s7 = .int .i64 0 ∧ Below w.heap.size w wx)
  case first =>
    by_cases h : p.size ≤ 800
    · have e : p.extract 0 p.size = c := by rw [hc.out, Nat.min_eq_left h]
      go_wp2_with fail
      refine (c0.out _).mono ?_; rintro e w1 ⟨rfl, hb1⟩
      go_wp2_with fail
      go_meet
      exact ⟨rfl, rfl, below_then hb0 hb1⟩
    · have e : p.extract 0 800 = c := by rw [hc.out, Nat.min_eq_right (by omega)]
      go_wp2_with fail
      refine (c0.out _).mono ?_; rintro e w1 ⟨rfl, hb1⟩
      go_wp2_with fail
      go_meet
      exact ⟨rfl, rfl, below_then hb0 hb1⟩
  case rest =>
    obtain ⟨rfl, rfl, hb1⟩ := hcut
    clear hb0
    go_wp2_with fail
    refine (c1.out _).mono ?_; rintro e w' ⟨rfl, rfl⟩
    obtain ⟨W, cap, hconv, hrow, hbel, _⟩ := BRow.made (P := Try.prog) wc 9 27 5 s Try.underlying9 Try.underlying27 Try.underlying5
    have hrow0 : BRow.Row W wc.heap.size s.size (GG s t fr 0) := by rw [GG_start]; exact hrow
    have hB1 := below_then hb1 hbel
    clear hrow hbel
    go_wp2_with fail
    refine (c2.out _).mono ?_; rintro e w' ⟨rfl, rfl⟩
    have hlow := hb1.size
    clear hconv hb1
    go_wp2_with fail
    go_loopw [13, 14, 15] (fun sm i _ wr => ∃ k : Nat, k ≤ 24 ∧ fr + k ≤ 8 * s.size ∧ i = .int .i64 k ∧ sm = .bool (SM t k) ∧ BRow.Row wr wc.heap.size s.size (GG s t fr k) ∧ Below w.heap.size w wr) (fun _ i _ _ => 24 - (intOf i).toNat)
    case atStart => exact ⟨0, by omega, by omega, rfl, rfl, hrow0, hB1⟩
    case round =>
      obtain ⟨k, hk, hk8, rfl, rfl, hr, hb⟩ := hrel
      clear hrow0 hB1
      by_cases hlt : k < 24
      · by_cases hlt2 : fr + k < 8 * s.size
        · have hl3 : (fr : Int) + k < 8 * s.size := by omega
          have hidx : (fr + k) / 8 < s.size := by omega
          obtain ⟨hcc, hf⟩ := hr _ hidx
          cases hT : (((1 + t) / 2 ^ (23 - k)).tmod 2 == 1)
          · have Hr := Lib.hid hr
            have Hg := Lib.hid (GG_no s t fr k hT)
            have Hm : Hid (SM t (k + 1) = SM t k) := by show (if TB t k then true else SM t k) = _; rw [show TB t k = false from hT]; rfl
            clear hr
            go_wp2_with fail
            go_roundw
            case rel => exact ⟨k + 1, by omega, by omega, by go_num, by rw [Hm.out], by rw [Hg.out]; exact Hr.out, hb⟩
            case measure => simp [intOf]; omega
          · have Hr := Lib.hid (hr.step ((fr + k) / 8) hidx (bits .xor .u8 (GG s t fr k ((fr + k) / 8)) (128 / 2 ^ ((fr + k) % 8))) (GG s t fr (k + 1)) (fun j _ => GG_yes s t fr k hT j))
            have Hm : Hid (SM t (k + 1) = true) := by show (if TB t k then true else SM t k) = _; rw [show TB t k = true from hT]; rfl
            have Hb := Lib.hid (hb.setCell (p := ⟨wc.heap.size, (fr + k) / 8, none⟩) hlow (.int .u8 (bits .xor .u8 (GG s t fr k ((fr + k) / 8)) (128 / 2 ^ ((fr + k) % 8)))))
            clear hr hb
            go_wp2_with fail
            go_region
            go_wp2_with fail
            go_roundw
            case rel => exact ⟨k + 1, by omega, by omega, by go_num, by rw [Hm.out], Hr.out, Hb.out.drew⟩
            case measure => simp [intOf]; omega
        · have hl3 : 8 * (s.size : Int) ≤ (fr : Int) + k := by omega
          have hback := hr.back (P := Try.prog) 27 5 9 cap Try.underlying27 Try.underlying5 Try.underlying9
          have HA := Lib.hid (hA.out k hk hk8)
          clear hr
          go_wp2_with fail
          refine (c3.out _ _).mono ?_; rintro e w1 ⟨rfl, hb2⟩
          go_wp2
          go_ret
          exact ⟨ret_true HA.out, below_then hb hb2⟩
      · have hback := hr.back (P := Try.prog) 27 5 9 cap Try.underlying27 Try.underlying5 Try.underlying9
        have HA := Lib.hid (hA.out k hk hk8)
        clear hr
        go_wp2_with fail
        refine (c3.out _ _).mono ?_; rintro e w1 ⟨rfl, hb2⟩
        go_wp2
        go_ret
        exact ⟨ret_true HA.out, below_then hb hb2⟩

theorem frameTurned_walk (p : ByteArray) (at_ turn : Int) (w : World) (hp : p.size ≤ 140737488351232) (hat : -9223372036854775808 ≤ at_ ∧ at_ ≤ 9223372036854775807) (htu : -9223372036854775808 ≤ turn ∧ turn ≤ 9223372036854775807) :
    Calls Try.prog 7 #[.string p, .int .i64 at_, .int .i64 turn] w fun e w' => e = .returned (.bool true) ∧ Below w.heap.size w w' := by
  have hc : (p.extract 0 (min p.size 800)).size ≤ 800 := by rw [ByteArray.size_extract]; omega
  generalize ec : p.extract 0 (min p.size 800) = c at hc
  have hF := frame_size c
  obtain ⟨t, ht, hp1⟩ := pick_any turn 16777215 htu (by omega) (by omega)
  obtain ⟨fr, hfr, hp2⟩ := pick_any at_ (8 * (frameStr c).size) hat (by omega) (by omega)
  have hp2' : ∀ w, Calls Try.prog 15 #[.int .i64 at_, .int .i64 (8 * ((frameStr c).size : Int))] w fun e w' => e = .returned (.int .i64 (fr : Int)) ∧ w = w' := fun w => by
    have h := hp2 w
    rw [show ((8 * (frameStr c).size : Nat) : Int) = 8 * ((frameStr c).size : Int) from by omega] at h
    exact h
  refine turned_core p c (frameStr c) at_ turn fr (t : Int)
    (fun k => if openOK (strOfNums ((List.range (frameStr c).size).map (GG (frameStr c) t fr k))) then (strOfNums ((List.range (frameStr c).size).map (GG (frameStr c) t fr k))).extract 4 ((strOfNums ((List.range (frameStr c).size).map (GG (frameStr c) t fr k))).size - 3) else ⟨#[]⟩)
    (fun k => if openOK (strOfNums ((List.range (frameStr c).size).map (GG (frameStr c) t fr k))) then 0 else 40) w hp ec.symm (by omega) (by omega) (by omega) (by omega) hfr
    (Lib.hid fun k hk hn => ?_) (Lib.hid (lay_any c hc)) (Lib.hid hp1) (Lib.hid hp2') (Lib.hid fun k w => ?_)
  · have h := turned_open c hc (t : Int) fr k hk hn
    simp only [h]
    cases SM (t : Int) k <;> rfl
  · have hz : (strOfNums ((List.range (frameStr c).size).map (GG (frameStr c) t fr k))).size ≤ maxLen := by rw [BRow.str_size, hF]; unfold maxLen; omega
    cases ho : openOK (strOfNums ((List.range (frameStr c).size).map (GG (frameStr c) t fr k))) with
    | false => simp only [ho, Bool.false_eq_true, if_false]; exact open_no _ hz ho w
    | true => simp only [ho, if_true]; exact open_yes _ hz ho w
end Go.Proofs.Ytkedelcknkhcnaa
