/- What Lay makes and Open takes, as plain facts on texts. -/
import Derived.Test.YtkedelcknkhcnaaOpen
namespace Go.Proofs.Ytkedelcknkhcnaa
open Go.RowKit
set_option linter.unusedVariables false

def openOK (s : ByteArray) : Bool := decide (7 ≤ s.size) && decide (s.size ≤ 807) && headOK s && tailOK s

theorem open_any (s : ByteArray) (hs : s.size ≤ maxLen) (w : World) :
    Calls Try.prog 13 #[.string s] w fun e w' => e = .returned (openVal s (openOK s)) ∧ Below w.heap.size w w' := by
  by_cases h : 7 ≤ s.size ∧ s.size ≤ 807
  · have hz : (s.extract 0 4).size = 4 := by rw [ByteArray.size_extract]; omega
    have e : openOK s = (headOK s && tailOK s) := by
      unfold openOK
      rw [decide_eq_true h.1, decide_eq_true h.2]
      rfl
    rw [e]
    exact open_core s (s.extract 0 4) (headOK s) (tailOK s) _ _ _ _ h.1 h.2 w rfl hz rfl rfl (fun c => row_at _ c 0 (by omega)) (fun c => row_at _ c 1 (by omega)) (fun c => row_at _ c 2 (by omega)) (fun c => row_at _ c 3 (by omega))
  · have e : openOK s = false := by
      unfold openOK
      by_cases h1 : 7 ≤ s.size
      · rw [decide_eq_false (p := s.size ≤ 807) (by omega)]; simp
      · rw [decide_eq_false h1]; rfl
    rw [e]
    refine (open_short s (by omega) hs w).mono ?_
    rintro e w' ⟨rfl, rfl⟩
    exact ⟨rfl, Below.refl _ _⟩

/-- a text's letters -/
def LL (s : ByteArray) : List UInt8 := s.data.toList
theorem LL_inj {s t : ByteArray} (h : LL s = LL t) : s = t := by
  obtain ⟨⟨a⟩⟩ := s
  obtain ⟨⟨b⟩⟩ := t
  unfold LL at h
  simpa using h
theorem LL_append (s t : ByteArray) : LL (s ++ t) = LL s ++ LL t := by unfold LL; rw [ByteArray.data_append, Array.toList_append]
theorem LL_extract (s : ByteArray) (a b : Nat) : LL (s.extract a b) = (LL s).extract a b := by
  unfold LL
  rw [ByteArray.data_extract, Array.toList_extract]
theorem LL_length (s : ByteArray) : (LL s).length = s.size := by unfold LL; rw [Array.length_toList]; rfl
theorem LL_toList (s : ByteArray) : s.toList = LL s := Go.ByteArray.toList_eq s
theorem LL_nums (l : List Int) : LL (strOfNums l) = l.map fun n => UInt8.ofNat n.toNat := rfl
theorem byteAt_LL (s : ByteArray) (j : Nat) : BRow.byteAt s j = (((LL s).getD j 0).toNat : Int) := rfl

theorem LL_four (t : ByteArray) (h : t.size = 4) : ∃ a b c d, LL t = [a, b, c, d] := by
  have hl := LL_length t
  rw [h] at hl
  match hh : LL t, hl with
  | [a, b, c, d], _ => exact ⟨a, b, c, d, rfl⟩

/-- the head is right just if it is the head of the right length -/
theorem headOK_iff (s : ByteArray) (hs : 7 ≤ s.size) (hs2 : s.size ≤ 807) : headOK s = true ↔ s.extract 0 4 = headStr ((s.size : Int) - 4 - 3) := by
  obtain ⟨a, b, c, d, hl⟩ := LL_four (s.extract 0 4) (by rw [ByteArray.size_extract]; omega)
  unfold headOK
  rw [byteAt_LL, byteAt_LL, byteAt_LL, byteAt_LL, hl]
  simp only [List.getD_cons_zero, List.getD_cons_succ, Bool.and_eq_true, beq_iff_eq]
  generalize hn : (s.size : Int) - 4 - 3 = n
  have h0 : 0 ≤ n := by omega
  have h1 : n ≤ 800 := by omega
  have key : ∀ (x : UInt8) (m : Int), 0 ≤ m → m ≤ 255 → (m = (x.toNat : Int) ↔ x = UInt8.ofNat m.toNat) := by
    intro x m hm hm2
    constructor
    · intro h
      have e : m.toNat = x.toNat := by omega
      rw [e]
      simp
    · intro h
      rw [h, UInt8.toNat_ofNat']
      omega
  rw [key a 87 (by omega) (by omega), key b 76 (by omega) (by omega), key c (n % 256) (by omega) (by omega), key d (n / 256) (by omega) (by omega)]
  constructor
  · rintro ⟨rfl, rfl, rfl, rfl⟩
    exact LL_inj (by rw [hl]; rfl)
  · intro h
    rw [h] at hl
    unfold headStr at hl
    rw [LL_nums] at hl
    simp only [List.map_cons, List.map_nil, List.cons.injEq, and_true] at hl
    exact ⟨hl.1.symm, hl.2.1.symm, hl.2.2.1.symm, hl.2.2.2.symm⟩

theorem tailOK_iff (s : ByteArray) : tailOK s = true ↔ s.extract (s.size - 3) s.size = tailStr (s.extract 0 (s.size - 3)) := by
  unfold tailOK
  rw [beq_iff_eq, LL_toList, LL_toList]
  exact ⟨fun h => (LL_inj h).symm, fun h => by rw [h]⟩

theorem cut_two (s : ByteArray) (a b c : Nat) (h1 : a ≤ b) (h2 : b ≤ c) : s.extract a b ++ s.extract b c = s.extract a c := by
  apply LL_inj
  rw [LL_append, LL_extract, LL_extract, LL_extract]
  simp only [List.extract_eq_take_drop]
  have e : c - a = (b - a) + (c - b) := by omega
  rw [e, List.take_add]
  congr 1
  rw [List.drop_drop, show a + (b - a) = b from by omega]
theorem cut_whole (s : ByteArray) : s.extract 0 s.size = s := by
  apply LL_inj
  rw [LL_extract, ← LL_length, List.extract_eq_take_drop]
  simp

/-- what Open takes is the frame of what it bears -/
theorem open_frame (s : ByteArray) (h : openOK s = true) : s = frameStr (s.extract 4 (s.size - 3)) ∧ (s.extract 4 (s.size - 3)).size ≤ 800 := by
  unfold openOK at h
  simp only [Bool.and_eq_true, decide_eq_true_eq] at h
  obtain ⟨⟨⟨h1, h2⟩, h3⟩, h4⟩ := h
  rw [headOK_iff s h1 h2] at h3
  rw [tailOK_iff] at h4
  have hz : (s.extract 4 (s.size - 3)).size = s.size - 7 := by rw [ByteArray.size_extract]; omega
  refine ⟨?_, by omega⟩
  have hb : bodyStr (s.extract 4 (s.size - 3)) = s.extract 0 (s.size - 3) := by
    unfold bodyStr
    rw [hz, show (((s.size - 7 : Nat)) : Int) = (s.size : Int) - 4 - 3 from by omega, ← h3, cut_two s 0 4 _ (by omega) (by omega)]
  unfold frameStr
  rw [hb, ← h4, cut_two s 0 _ _ (by omega) (by omega), cut_whole]

theorem extract_left (s t : ByteArray) (n : Nat) (h : s.size = n) : (s ++ t).extract 0 n = s := by
  apply LL_inj
  rw [LL_extract, LL_append, ← h, ← LL_length, List.extract_eq_take_drop]
  simp
theorem extract_right (s t : ByteArray) (n m : Nat) (h : s.size = n) (h2 : s.size + t.size = m) : (s ++ t).extract n m = t := by
  apply LL_inj
  rw [LL_extract, LL_append, ← h, ← h2, ← LL_length, ← LL_length, List.extract_eq_take_drop]
  simp

theorem frame_body (p : ByteArray) : (frameStr p).extract 4 ((frameStr p).size - 3) = p := by
  rw [frame_size, show p.size + 7 - 3 = 4 + p.size from by omega]
  have e : (frameStr p).extract 4 (4 + p.size) = ((frameStr p).extract 0 (4 + p.size)).extract 4 (4 + p.size) := by
    apply LL_inj
    rw [LL_extract, LL_extract, LL_extract]
    simp only [List.extract_eq_take_drop, List.drop_zero, Nat.sub_zero]
    rw [List.drop_take, List.take_take]
    simp
  rw [e]
  unfold frameStr
  rw [extract_left _ _ _ (body_size p)]
  unfold bodyStr
  exact extract_right _ _ _ _ (head_size _) (by rw [head_size])

/-- a frame opens -/
theorem frame_opens (p : ByteArray) (hp : p.size ≤ 800) : openOK (frameStr p) = true := by
  unfold openOK
  have hz := frame_size p
  simp only [Bool.and_eq_true, decide_eq_true_eq]
  refine ⟨⟨⟨by omega, by omega⟩, ?_⟩, ?_⟩
  · rw [headOK_iff _ (by omega) (by omega), hz, show (((p.size + 7 : Nat)) : Int) - 4 - 3 = (p.size : Int) from by omega]
    unfold frameStr bodyStr
    rw [ByteArray.append_assoc]
    exact extract_left _ _ _ (head_size _)
  · rw [tailOK_iff, hz, show p.size + 7 - 3 = 4 + p.size from by omega]
    have e : (frameStr p).extract 0 (4 + p.size) = bodyStr p := extract_left _ _ _ (body_size p)
    rw [e]
    exact extract_right _ _ _ _ (body_size p) (by rw [body_size]; unfold tailStr; rw [own_size]; omega)

theorem frame_inj {p q : ByteArray} (h : frameStr p = frameStr q) : p = q := by
  have := frame_body p
  rw [h, frame_body] at this
  exact this.symm
end Go.Proofs.Ytkedelcknkhcnaa
