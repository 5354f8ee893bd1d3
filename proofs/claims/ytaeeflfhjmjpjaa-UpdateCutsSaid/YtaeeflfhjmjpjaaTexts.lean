/- The walks of law15.pick and of law01.Texts at one text of sixteen bytes. -/
import Derived.Test.YtaeeflfhjmjpjaaAwake
import Derived.Test.YtaeeflfhjmjpjaaCopyStr
namespace Go.Proofs.Ytaeeflfhjmjpjaa
open Go.RowKit SlRd
set_option linter.unusedVariables false

theorem pick_pos (c n : Int) (hc : 0 ≤ c) (hc2 : c ≤ 9223372036854775807) (hn : 0 < n) (hn2 : n ≤ 9223372036854775807) (w : World) :
    Calls Try.prog 19 #[.int .i64 c, .int .i64 n] w fun e w' => e = .returned (.int .i64 (c % n)) ∧ w = w' := by
  go_enter Try.func19, Try.ntmps19
  go_wp2
  go_ret
  exact ⟨rfl, rfl⟩
theorem pick_neg (c n : Int) (hc : c < 0) (hc2 : -9223372036854775808 ≤ c) (hn : 0 < n) (hn2 : n ≤ 9223372036854775807) (w : World) :
    Calls Try.prog 19 #[.int .i64 c, .int .i64 n] w fun e w' => e = .returned (.int .i64 ((-(c + 1)) % n)) ∧ w = w' := by
  go_enter Try.func19, Try.ntmps19
  have e : -(c + 1).tmod n = (-(c + 1)) % n := by
    rw [← Int.neg_tmod, Int.tmod_eq_emod_of_nonneg (by omega)]
  have E := Lib.hid e
  clear e
  go_wp2
  go_ret
  exact ⟨by rw [← E.out]; rfl, rfl⟩

/-- which of n things a raw number speaks of -/
def pk (c n : Int) : Int := if 0 ≤ c then c % n else (-(c + 1)) % n
theorem pk_bd (c n : Int) (hn : 0 < n) : 0 ≤ pk c n ∧ pk c n < n := by
  unfold pk
  split
  · exact ⟨Int.emod_nonneg _ (by omega), Int.emod_lt_of_pos _ hn⟩
  · exact ⟨Int.emod_nonneg _ (by omega), Int.emod_lt_of_pos _ hn⟩
theorem pick_any (c n : Int) (hc : -9223372036854775808 ≤ c ∧ c ≤ 9223372036854775807) (hn : 0 < n) (hn2 : n ≤ 9223372036854775807) (w : World) :
    Calls Try.prog 19 #[.int .i64 c, .int .i64 n] w fun e w' => e = .returned (.int .i64 (pk c n)) ∧ w = w' := by
  unfold pk
  split
  · exact pick_pos c n (by assumption) hc.2 hn hn2 w
  · exact pick_neg c n (by omega) hc.1 hn hn2 w

/-- a text, made sixteen bytes long -/
def pad (x : ByteArray) : ByteArray := strOfNums ((List.range 16).map fun j => if j < x.size then BRow.byteAt x j else 0)
theorem pad_size (x : ByteArray) : (pad x).size = 16 := BRow.str_size _ _

theorem info5 : (Try.prog.info? 5).map (fun i => (i.zero, i.size, i.bytes)) = some (some (.int .u8 0), 1, 1) := by kernel_rfl
theorem info9 : (Try.prog.info? 9).map (fun i => (i.zero, i.size, i.bytes)) = some (some (.string ⟨#[]⟩), 1, 16) := by kernel_rfl
theorem size5 (W : World) : (sizeOf 5).run Try.prog W = .ok 1 W := by kernel_rfl

set_option maxRecDepth 100000 in
theorem texts_any (x : ByteArray) (b o : Nat) (w : World) (hb0 : b < w.heap.size) (hc : w.cell? ⟨b, o, none⟩ = some (.string x)) :
    Calls Try.prog 39 #[.slice (some ⟨b, o, none⟩) 1 1, .int .i64 1, .int .i64 16] w fun e w' => ∃ v, e = .returned v ∧ w'.ownsRow w.heap.size 9 1 v 1 [.string (pad x)] ∧ Below w.heap.size w w' := by
  obtain ⟨i0, hi, hz0, hz1, hz2⟩ := info_parts info9
  go_enter Try.func39, Try.ntmps39
  go_wp2_with fail
  go_loopw [7, 8] (fun v i wr => ∃ k : Nat, k ≤ 1 ∧ i = .int .i64 k ∧ wr.ownsRow w.heap.size 9 1 v k (List.replicate k (.string (pad x))) ∧ Below w.heap.size w wr) (fun _ i _ => 1 - (intOf i).toNat)
  case atStart => exact ⟨0, by omega, rfl, World.ownsRow_nil _ _ _ _, Below.refl _ _⟩
  case round =>
    obtain ⟨k, hk, rfl, hown, hb⟩ := hrel
    by_cases hlt : k < 1
    · obtain rfl : k = 0 := by omega
      have hcr : wr.cell? ⟨b, o, none⟩ = some (.string x) := by rw [hb.cell (p := ⟨b, o, none⟩) hb0]; exact hc
      obtain ⟨W, hmk, hrow, hbel, hsz⟩ := BRow.zeros (P := Try.prog) wr 95 5 16 Try.underlying95 info5 (by omega)
      have hcW : W.cell? ⟨b, o, none⟩ = some (.string x) := by rw [hbel.cell (p := ⟨b, o, none⟩) (Nat.lt_of_lt_of_le hb0 hb.size)]; exact hcr
      obtain ⟨W2, hcp, hrow2, hsz2, hb2⟩ := BRow.copyStr (P := Try.prog) W (cap := 16) hrow 95 9 3 5 x Try.underlying95 size5
      have hback := BRow.Row.back (P := Try.prog) hrow2 95 5 9 16 Try.underlying95 Try.underlying5 Try.underlying9
      have hB := hb2 w w.heap.size hb.size (hb.trans (hbel.mono hb.size))
      have hown2 : W2.ownsRow w.heap.size 9 1 u7 0 [] := by
        have := owns_below hown (hb2 wr wr.heap.size (Nat.le_refl _) hbel)
        exact this
      have hmk' : (Instr.makeSlice 95 (.int .i64 16) (.int .i64 16)).run Try.prog wr = .ok (.slice (some ⟨wr.heap.size, 0, none⟩) 16 16) W := hmk
      have hback' : (convert 95 9 (.slice (some ⟨wr.heap.size, 0, none⟩) 16 16)).run Try.prog W2 = .ok (.string (pad x)) W2 := hback
      clear hrow hrow2 hbel hb2 hcr hown hb hmk hback hsz2
      go_wp2_with (at_builtin; refine wpList_append_own _ rfl _ _ 51 rfl w.heap.size 9 i0 (.string ⟨#[]⟩) 1 16 Try.underlying51 hi hz0 hz1 hz2 rfl (by decide) _ _ _ rfl (hown2.alloc _) ⟨W2.heap.size, 0, none⟩ 1 1 [.string (pad x)] rfl rfl ?c1 ?c2 ?c3 ?c4 ?c5 ?_)
      case c1 =>
        intro j u hj
        match j, hj with
        | 0, hj => simp at hj; subst hj; simp [Addr.add]
      case c2 => intro u hu; simp at hu; subst hu; rfl
      case c3 => unfold maxLen; omega
      case c4 => omega
      case c5 => have := hB.size; simp; omega
      · intro v' w3 hown' hgrow _
        have HO : Hid (w3.ownsRow w.heap.size 9 1 v' 1 [.string (pad x)]) := hown'
        have HB := Lib.hid ((hB.alloc hB.size _).grown hgrow (by have := hB.size; simp; omega) (fun q hq => (owns_lt hown2 q hq).1))
        clear hown' hgrow hown2 hB
        go_wp2_with fail
        go_roundw
        case rel => exact ⟨1, by omega, by go_num, HO.out, HB.out⟩
        case measure => simp [intOf]
    · obtain rfl : k = 1 := by omega
      go_wp2_with fail
      go_ret
      exact ⟨_, rfl, hown, hb⟩
end Go.Proofs.Ytaeeflfhjmjpjaa
