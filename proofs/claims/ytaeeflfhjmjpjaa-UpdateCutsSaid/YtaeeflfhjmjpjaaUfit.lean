/- law01.Texts at any texts of sixteen bytes; law16.Fit. -/
import Derived.Test.YtaeeflfhjmjpjaaUnew
import Derived.Test.YtaeeflfhjmjpjaaTexts
namespace Go.Proofs.Ytaeeflfhjmjpjaa
open Go.RowKit SlRd
set_option linter.unusedVariables false

theorem ap51 : Ap Try.prog 51 9 1 16 := Ap.of Try.underlying51 info9 rfl (by decide)
def txts (raw : List ByteArray) (m : Nat) : List ByteArray := (List.range m).map fun i => pad (raw.getD i ⟨#[]⟩)
theorem txts_len (raw : List ByteArray) (m : Nat) : (txts raw m).length = m := by simp [txts]
theorem txts_succ (raw : List ByteArray) (m : Nat) : txts raw (m + 1) = txts raw m ++ [pad (raw.getD m ⟨#[]⟩)] := by
  unfold txts
  rw [List.range_succ, List.map_append]
  rfl
theorem txts_size (raw : List ByteArray) (m : Nat) : ∀ b ∈ txts raw m, b.size = 16 := by
  intro b hb
  obtain ⟨i, _, rfl⟩ := List.mem_map.1 hb
  exact pad_size _

set_option maxRecDepth 100000 in
set_option maxHeartbeats 1600000 in
theorem texts_gen (raw : List ByteArray) (vr : Value) (m : Nat) (hm : m ≤ 100) (w : World) (hr : Rd w 1 vr raw.length (raw.map Value.string)) (hrl : raw.length ≤ 140737488351232) :
    Calls Try.prog 39 #[vr, .int .i64 m, .int .i64 16] w fun e w' => ∃ v, e = .returned v ∧ w'.ownsRow w.heap.size 9 1 v m ((txts raw m).map Value.string) ∧ Below w.heap.size w w' := by
  obtain ⟨ar, cr, rfl⟩ : ∃ a c, vr = .slice a raw.length c := by obtain ⟨_, a, c, rfl, _⟩ := hr; exact ⟨_, _, rfl⟩
  go_enter Try.func39, Try.ntmps39
  go_wp2_with fail
  go_loopw [7, 8] (fun v i wr => ∃ k : Nat, k ≤ m ∧ i = .int .i64 k ∧ wr.ownsRow w.heap.size 9 1 v k ((txts raw k).map Value.string) ∧ Below w.heap.size w wr) (fun _ i _ => m - (intOf i).toNat)
  case atStart => exact ⟨0, by omega, rfl, World.ownsRow_nil _ _ _ _, Below.refl _ _⟩
  case round =>
    obtain ⟨k, hk, rfl, hown, hb⟩ := hrel
    by_cases hlt : k < m
    · have HS := Lib.hid (txts_succ raw k)
      by_cases hlr : k < raw.length
      · obtain ⟨b, o, rfl, hb0, hcr⟩ := (hr.below hb).at1 k hlr
        rw [List.getElem?_map, List.getElem?_eq_getElem hlr] at hcr
        have hx : raw.getD k ⟨#[]⟩ = raw[k] := by rw [List.getD_eq_getElem?_getD, List.getElem?_eq_getElem hlr]; rfl
        rw [hx] at HS
        generalize raw[k] = x at hcr HS
        simp only [Option.map_some] at hcr
        obtain ⟨W, hmk, hrow, hbel, hsz⟩ := BRow.zeros (P := Try.prog) wr 95 5 16 Try.underlying95 info5 (by omega)
        have hcW : W.cell? ⟨b, o + k, none⟩ = some (.string x) := by rw [hbel.cell (p := ⟨b, o + k, none⟩) hb0]; exact hcr
        obtain ⟨W2, hcp, hrow2, hsz2, hb2⟩ := BRow.copyStr (P := Try.prog) W (cap := 16) hrow 95 9 3 5 x Try.underlying95 size5
        have hback := BRow.Row.back (P := Try.prog) hrow2 95 5 9 16 Try.underlying95 Try.underlying5 Try.underlying9
        have hB := hb2 w w.heap.size hb.size (hb.trans (hbel.mono hb.size))
        have hown2 := owns_below hown (hb2 wr wr.heap.size (Nat.le_refl _) hbel)
        have hmk' : (Instr.makeSlice 95 (.int .i64 16) (.int .i64 16)).run Try.prog wr = .ok (.slice (some ⟨wr.heap.size, 0, none⟩) 16 16) W := hmk
        have hback' : (convert 95 9 (.slice (some ⟨wr.heap.size, 0, none⟩) 16 16)).run Try.prog W2 = .ok (.string (pad x)) W2 := hback
        have i1 : (0 : Int) ≤ (k : Int) := by omega
        have i2 : (k : Int) < (raw.length : Int) := by omega
        clear hrow hrow2 hbel hb2 hcr hown hb hmk hback hsz2 hx
        go_wp2_with (at_builtin; refine wpList_app ap51 (by rfl) _ _ rfl w (below_al hB _) _ _ ((txts raw k).map Value.string) rfl (hown2.alloc _) _ 1 1 [.string (pad x)] rfl (Rd.list W2 [.string (pad x)] 9 1 1 rfl) (fun u hu => by simp at hu; subst hu; rfl) (by unfold maxLen; omega) (by omega) ?_)
        intro v' w3 hown' _ hb3
        have HO : Hid (w3.ownsRow w.heap.size 9 1 v' (k + 1) ((txts raw (k + 1)).map Value.string)) := by
          show World.ownsRow _ _ _ _ _ _ _
          rw [HS.out, List.map_append]
          exact hown'
        have HB := Lib.hid hb3
        clear hown' hown2 hB hb3
        go_wp2_with fail
        go_roundw
        case rel => exact ⟨k + 1, by omega, by go_num, HO.out, HB.out⟩
        case measure => simp [intOf]; omega
      · have hx : raw.getD k ⟨#[]⟩ = ⟨#[]⟩ := by rw [List.getD_eq_getElem?_getD, List.getElem?_eq_none (by omega)]; rfl
        rw [hx] at HS
        obtain ⟨W, hmk, hrow, hbel, hsz⟩ := BRow.zeros (P := Try.prog) wr 95 5 16 Try.underlying95 info5 (by omega)
        have hback := BRow.Row.back (P := Try.prog) hrow 95 5 9 16 Try.underlying95 Try.underlying5 Try.underlying9
        have hB := hb.trans (hbel.mono hb.size)
        have hown2 := owns_below hown hbel
        have hmk' : (Instr.makeSlice 95 (.int .i64 16) (.int .i64 16)).run Try.prog wr = .ok (.slice (some ⟨wr.heap.size, 0, none⟩) 16 16) W := hmk
        have hback' : (convert 95 9 (.slice (some ⟨wr.heap.size, 0, none⟩) 16 16)).run Try.prog W = .ok (.string (pad ⟨#[]⟩)) W := hback
        have hn : ¬ (k : Int) < (raw.length : Int) := by omega
        clear hrow hbel hown hb hmk hback hx
        go_wp2_with (at_builtin; refine wpList_app ap51 (by rfl) _ _ rfl w (below_al hB _) _ _ ((txts raw k).map Value.string) rfl (hown2.alloc _) _ 1 1 [.string (pad ⟨#[]⟩)] rfl (Rd.list W [.string (pad ⟨#[]⟩)] 9 1 1 rfl) (fun u hu => by simp at hu; subst hu; rfl) (by unfold maxLen; omega) (by omega) ?_)
        intro v' w3 hown' _ hb3
        have HO : Hid (w3.ownsRow w.heap.size 9 1 v' (k + 1) ((txts raw (k + 1)).map Value.string)) := by
          show World.ownsRow _ _ _ _ _ _ _
          rw [HS.out, List.map_append]
          exact hown'
        have HB := Lib.hid hb3
        clear hown' hown2 hB hb3
        go_wp2_with fail
        go_roundw
        case rel => exact ⟨k + 1, by omega, by go_num, HO.out, HB.out⟩
        case measure => simp [intOf]; omega
    · obtain rfl : k = m := by omega
      go_wp2_with fail
      go_ret
      exact ⟨_, rfl, hown, hb⟩
end Go.Proofs.Ytaeeflfhjmjpjaa
