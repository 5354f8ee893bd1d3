/- '==' of asks and of records, as the program has it. -/
import Derived.Test.YtaeeflfhjmjpjaaAsks
namespace Go.Proofs.Ytaeeflfhjmjpjaa
open Go.RowKit SlRd
set_option linter.unusedVariables false

deriving instance DecidableEq for Ak
deriving instance DecidableEq for Rc

theorem toList_inj {s t : ByteArray} (h : s.toList = t.toList) : s = t := by
  rw [ByteArray.toList_eq, ByteArray.toList_eq] at h
  obtain ⟨⟨a⟩⟩ := s
  obtain ⟨⟨b⟩⟩ := t
  simpa using h

theorem eqAsk (W : World) (p q : Ak) : (Op.equalIn 10000 43 p.v q.v).run Try.prog W = .ok (decide (p = q)) W := by
  obtain ⟨a1, a2, a3, a4, a5, a6, ⟨a7, a8⟩, a9⟩ := p
  obtain ⟨b1, b2, b3, b4, b5, b6, ⟨b7, b8⟩, b9⟩ := q
  by_cases h1 : a1 = b1
  · by_cases h2 : a2 = b2
    · by_cases h3 : a3 = b3
      · by_cases h4 : a4 = b4
        · by_cases h5 : a5 = b5
          · by_cases h6 : a6 = b6
            · by_cases h7 : a7 = b7 ∧ a8 = b8
              · by_cases h9 : a9 = b9
                · simp [go_sem, Try.underlying43, h1, h2, h3, h4, h5, h6, h7, h9]
                · have h9' : ¬ a9.toList = b9.toList := fun e => h9 (toList_inj e)
                  simp [go_sem, Try.underlying43, h1, h2, h3, h4, h5, h6, h7, h9, h9']
              · simp [go_sem, Try.underlying43, h1, h2, h3, h4, h5, h6, h7]
                intro e1 e2
                exact absurd ⟨e1, e2⟩ h7
            · simp [go_sem, Try.underlying43, h1, h2, h3, h4, h5, h6]
          · simp [go_sem, Try.underlying43, h1, h2, h3, h4, h5]
        · simp [go_sem, Try.underlying43, h1, h2, h3, h4]
      · simp [go_sem, Try.underlying43, h1, h2, h3]
    · simp [go_sem, Try.underlying43, h1, h2]
  · simp [go_sem, Try.underlying43, h1]

theorem eqRec (W : World) (p q : Rc) : (Op.equalIn 10000 37 p.v q.v).run Try.prog W = .ok (decide (p = q)) W := by
  obtain ⟨a1, a2, ⟨a3, a4⟩, a5, a6, ⟨a7, a8⟩, a9, a0⟩ := p
  obtain ⟨b1, b2, ⟨b3, b4⟩, b5, b6, ⟨b7, b8⟩, b9, b0⟩ := q
  by_cases h1 : a1 = b1
  · by_cases h2 : a2 = b2
    · by_cases h3 : a3 = b3 ∧ a4 = b4
      · by_cases h5 : a5 = b5
        · by_cases h6 : a6 = b6
          · by_cases h7 : a7 = b7 ∧ a8 = b8
            · by_cases h9 : a9 = b9
              · by_cases h0 : a0 = b0
                · simp [go_sem, Try.underlying37, h1, h2, h3, h5, h6, h7, h9, h0]
                · have h0' : ¬ a0.toList = b0.toList := fun e => h0 (toList_inj e)
                  simp [go_sem, Try.underlying37, h1, h2, h3, h5, h6, h7, h9, h0, h0']
              · simp [go_sem, Try.underlying37, h1, h2, h3, h5, h6, h7, h9]
            · simp [go_sem, Try.underlying37, h1, h2, h3, h5, h6, h7]
              try (intro e1 e2; exact absurd ⟨e1, e2⟩ h7)
          · simp [go_sem, Try.underlying37, h1, h2, h3, h5, h6]
        · have h5' : ¬ a5.toList = b5.toList := fun e => h5 (toList_inj e)
          simp [go_sem, Try.underlying37, h1, h2, h3, h5, h5']
      · simp [go_sem, Try.underlying37, h1, h2, h3]
        try (intro e1 e2; exact absurd ⟨e1, e2⟩ h3)
    · simp [go_sem, Try.underlying37, h1, h2]
  · simp [go_sem, Try.underlying37, h1]
end Go.Proofs.Ytaeeflfhjmjpjaa
