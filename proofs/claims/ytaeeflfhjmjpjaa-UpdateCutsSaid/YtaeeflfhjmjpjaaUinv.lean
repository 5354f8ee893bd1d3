/- NO WALK. What becomes of an update's value: Said and Asks, one behind the other. -/
import Derived.Test.YtaeeflfhjmjpjaaUownP
namespace Go.Proofs.Ytaeeflfhjmjpjaa
open Go.RowKit SlRd
set_option linter.unusedVariables false

structure Iv (S E Q : Int) (C : List Int) (L : List ByteArray) (u : Up) : Prop where
  st : u.stripe = S
  m : u.mask = (maskOf C : Nat)
  e : u.e = E
  s : u.s = Q
  f : u.failed = false
  c : u.parts.map Pt.col = C
  b : u.parts.map Pt.block = L
theorem Iv.new {S E Q : Int} {C : List Int} {L : List ByteArray} (h : Fits S E Q C L) : Iv S E Q C L (newU S E Q C L) := by
  refine ⟨rfl, rfl, rfl, rfl, rfl, ?_, ?_⟩
  · show (partsOf C L).map Pt.col = C
    unfold partsOf
    rw [List.map_map]
    exact List.map_fst_zip (by rw [h.n]; exact Nat.le_refl _)
  · show (partsOf C L).map Pt.block = L
    unfold partsOf
    rw [List.map_map]
    exact List.map_snd_zip (by rw [h.n]; exact Nat.le_refl _)
section
variable {S E Q : Int} {C : List Int} {L : List ByteArray} {u : Up}
theorem Iv.len (h : Iv S E Q C L u) : u.parts.length = C.length := by rw [← h.c, List.length_map]
theorem Iv.begun (h : Iv S E Q C L u) : Iv S E Q C L (begun u) := ⟨h.st, h.m, h.e, h.s, h.f, h.c, h.b⟩
theorem sayP_col (st c k s : Int) (p : Pt) : (sayP st c k s p).col = p.col := by
  unfold sayP
  repeat' split
  all_goals rfl
theorem sayP_block (st c k s : Int) (p : Pt) : (sayP st c k s p).block = p.block := by
  unfold sayP
  repeat' split
  all_goals rfl
theorem sayF_ok (c k : Int) (hk : k = 4 ∨ k = 5) (l : List Pt) (f : Bool) : l.foldl (sayF c k 1) f = f := by
  induction l generalizing f with
  | nil => rfl
  | cons p l ih =>
    rw [List.foldl_cons, ih]
    unfold sayF
    rcases hk with rfl | rfl
    · simp
    · simp
theorem Iv.said (h : Iv S E Q C L u) (c k : Int) (hk : k = 4 ∨ k = 5) : Iv S E Q C L (saidU u c k 1) := by
  unfold saidU
  rw [h.f]
  refine ⟨h.st, h.m, h.e, h.s, sayF_ok c k hk _ _, ?_, ?_⟩
  · show (u.parts.map _).map Pt.col = C
    rw [List.map_map, ← h.c]
    apply List.map_congr_left
    intro p _
    exact sayP_col _ _ _ _ _
  · show (u.parts.map _).map Pt.block = L
    rw [List.map_map, ← h.b]
    apply List.map_congr_left
    intro p _
    exact sayP_block _ _ _ _ _
/-- its states -/
theorem st_cases (h : u.failed = false) : stU u = 0 ∨ stU u = 1 ∨ stU u = 2 := by
  unfold stU stP
  rw [h]
  simp only [Bool.false_eq_true, if_false]
  repeat' split
  all_goals simp
theorem st_none (h : u.failed = false) (ht : (toAsk u).length = 0) : stU u = 2 := by
  have hnil : toAsk u = [] := List.eq_nil_of_length_eq_zero ht
  unfold toAsk at hnil
  rw [List.filter_eq_nil_iff] at hnil
  rcases st_cases h with h0 | h1 | h2
  · exfalso
    rw [h0] at hnil
    unfold stU stP at h0
    rw [h] at h0
    simp only [Bool.false_eq_true, if_false] at h0
    split at h0
    · rename_i ha
      obtain ⟨p, hp, hq⟩ := List.any_eq_true.1 ha
      exact hnil p hp (by unfold wants; rw [hq]; rfl)
    · split at h0 <;> omega
  · exfalso
    rw [h1] at hnil
    unfold stU stP at h1
    rw [h] at h1
    simp only [Bool.false_eq_true, if_false] at h1
    split at h1
    · omega
    · split at h1
      · rename_i ha
        obtain ⟨p, hp, hq⟩ := List.any_eq_true.1 ha
        exact hnil p hp (by unfold wants; rw [hq]; rfl)
      · omega
  · exact h2
theorem ask_kind (u : Up) (p : Pt) (st : Int) : (askU u p st).kind = 4 ∨ (askU u p st).kind = 5 := by
  unfold askU
  split
  · exact .inl rfl
  · exact .inr rfl
theorem toAsk_in {p : Pt} (hp : p ∈ toAsk u) : p ∈ u.parts ∧ wants (stU u) p = true := List.mem_filter.1 hp
/-- an answer that is none of those that should come -/
theorem said_fails (h : Iv S E Q C L u) (hC : C.Pairwise (· < ·)) {p : Pt} (hp : p ∈ toAsk u) (s : Int) (hs : s ≠ 1) : (saidU u p.col (askU u p (stU u)).kind s).failed = true := by
  obtain ⟨hm, hw⟩ := toAsk_in hp
  have hcond : ∀ f, sayF p.col (askU u p (stU u)).kind s f p = true := by
    intro f
    unfold askU
    unfold wants at hw
    by_cases h0 : stU u = 0
    · rw [if_pos h0]
      rw [h0] at hw
      have hop : p.op = false := by simpa using hw
      simp [sayF, hs, hop]
    · rw [if_neg h0]
      have hdn : p.dn = false := by
        have e0 : (stU u == 0) = false := by simpa using h0
        rw [e0] at hw
        simp at hw
        exact hw.2
      simp [sayF, hs, hdn]
  have hnd : u.parts.Pairwise fun a b => a.col ≠ b.col := by
    have : (u.parts.map Pt.col).Pairwise (· < ·) := by rw [h.c]; exact hC
    rw [List.pairwise_map] at this
    exact this.imp fun hab => by omega
  generalize (askU u p (stU u)).kind = k at hcond ⊢
  unfold saidU
  rw [h.f]
  show u.parts.foldl _ false = true
  have : ∀ (l : List Pt) (f : Bool), l.Pairwise (fun a b => a.col ≠ b.col) → (p ∈ l ∨ (f = true ∧ ∀ q ∈ l, q.col ≠ p.col)) → l.foldl (sayF p.col k s) f = true := by
    intro l
    induction l with
    | nil =>
      intro f _ h
      rcases h with h | h
      · cases h
      · exact h.1
    | cons a l ih =>
      intro f hpw h
      obtain ⟨h1, h2⟩ := List.pairwise_cons.1 hpw
      rw [List.foldl_cons]
      rcases h with h | ⟨h3, h4⟩
      · rcases List.mem_cons.1 h with rfl | h
        · exact ih _ h2 (.inr ⟨hcond f, fun q hq e => h1 q hq e.symm⟩)
        · exact ih _ h2 (.inl h)
      · refine ih _ h2 (.inr ⟨?_, fun q hq => h4 q (List.mem_cons_of_mem _ hq)⟩)
        unfold sayF
        rw [if_pos (h4 a (by simp))]
        exact h3
  exact this _ _ hnd (.inl hm)
theorem said_stays (h : u.failed = true) (c k s : Int) : saidU u c k s = u := by unfold saidU; rw [h]; rfl
theorem ask_failed (h : u.failed = true) : stU u = 3 ∧ toAsk u = [] := by
  have h3 : stU u = 3 := by unfold stU; rw [h]; rfl
  refine ⟨h3, ?_⟩
  unfold toAsk
  rw [h3, List.filter_eq_nil_iff]
  intro p _
  simp [wants]
theorem said_began (u : Up) (c k s : Int) : (saidU u c k s).began = u.began := by
  unfold saidU
  split <;> rfl
theorem begun_began (h : 0 < (toAsk u).length) : (begun u).began = true := by
  unfold begun
  simp [h]
theorem begun_st (u : Up) : stU (begun u) = stU u := rfl
theorem begun_ask (u : Up) : toAsk (begun u) = toAsk u := rfl
end
/-- the cells of what is to be asked -/
theorem asked_cells {W : World} {b1 b2 g1 g2 c1 c2 n : Nat} {T : List Pt} {f : Pt → Ak} (q1 : W.ownsRow b1 3 1 (.slice (some ⟨g1, 0, none⟩) n c1) n (colsOf T)) (q2 : W.ownsRow b2 43 9 (.slice (some ⟨g2, 0, none⟩) n c2) n ((T.map f).flatMap Ak.cs)) (hn : n = T.length) (j : Nat) (hj : j < T.length) :
    W.cell? ⟨g1, j, none⟩ = some (.int .i64 T[j].col) ∧ ∀ i, i < 9 → W.cell? ⟨g2, j * 9 + i, none⟩ = (f T[j]).cs[i]? := by
  subst hn
  refine ⟨?_, fun i hi => ?_⟩
  · rw [q1.cellAt j (by omega)]
    unfold colsOf
    rw [List.getElem?_map, List.getElem?_eq_getElem hj]
    rfl
  · rw [q2.cellAt (j * 9 + i) (by omega), flat_get Ak.cs 9 (fun _ => rfl) (T.map f) j i (by simpa using hj) hi, List.getElem_map]
end Go.Proofs.Ytaeeflfhjmjpjaa
