/- NO WALK. UpdateEnds, UpdateCuts: what columns hold while an update goes on. -/
import Derived.Test.YtaeeflfhjmjpjaaUstp
import Derived.Test.YtaeeflfhjmjpjaaUcols
namespace Go.Proofs.Ytaeeflfhjmjpjaa
open Go.RowKit SlRd
set_option linter.unusedVariables false

/-- a column that takes part: its flags, its record -/
def okP (E Q m : Int) (p : Pt) (r : Rc) : Prop :=
  (p.op = false ∧ p.dn = false ∧ (r = baseR E s16 ∨ r = openR E E Q m p.block s16)) ∨ (p.op = true ∧ p.dn = false ∧ (r = openR E E Q m p.block s16 ∨ r = doneR E E Q p.block)) ∨ (p.op = true ∧ p.dn = true ∧ r = doneR E E Q p.block)
structure EI (E Q m : Int) (u : Up) (R : List Rc) : Prop where
  len : R.length = 6
  part : ∀ p ∈ u.parts, ∀ r, R[p.col.toNat]? = some r → okP E Q m p r
  rest : ∀ i : Nat, i < 6 → (∀ p ∈ u.parts, p.col ≠ (i : Int)) → R[i]? = some (baseR E s16)
  dn : ∀ p ∈ u.parts, R[p.col.toNat]? = some (doneR E E Q p.block) → allO u.parts = true
section
variable {S E Q m : Int} {C : List Int} {L : List ByteArray} {u : Up} {R : List Rc}
theorem part_inj (hF : Fits S E Q C L) (hi : Iv S E Q C L u) {p q : Pt} (hp : p ∈ u.parts) (hq : q ∈ u.parts) (e : q.col = p.col) : q = p := by
  have hpw : (u.parts.map Pt.col).Pairwise (· < ·) := by rw [hi.c]; exact hF.rise
  rw [List.pairwise_map] at hpw
  obtain ⟨i, hi1, rfl⟩ := List.getElem_of_mem hp
  obtain ⟨j, hj1, rfl⟩ := List.getElem_of_mem hq
  rcases Nat.lt_trichotomy i j with h | h | h
  · have := List.pairwise_iff_getElem.1 hpw i j hi1 hj1 h
    omega
  · subst h; rfl
  · have := List.pairwise_iff_getElem.1 hpw j i hj1 hi1 h
    omega
theorem EI.new (hF : Fits S E Q C L) : EI E Q m (newU S E Q C L) (List.replicate 6 (baseR E s16)) := by
  have hp : ∀ p ∈ (newU S E Q C L).parts, p.op = false ∧ p.dn = false := by
    intro p hp
    obtain ⟨q, _, rfl⟩ := List.mem_map.1 hp
    exact ⟨rfl, rfl⟩
  refine ⟨rfl, fun p h1 r hr => ?_, fun i hi _ => by rw [List.getElem?_replicate, if_pos hi], fun p h1 hr => ?_⟩
  · rw [List.getElem?_replicate] at hr
    split at hr
    · cases hr
      exact .inl ⟨(hp p h1).1, (hp p h1).2, .inl rfl⟩
    · cases hr
  · rw [List.getElem?_replicate] at hr
    split at hr
    · have h2 := hF.e0
      have := Option.some.inj hr
      have h3 : (0 : Int) = E := congrArg (fun r : Rc => r.done.e) this
      omega
    · cases hr
theorem EI.begun (h : EI E Q m u R) : EI E Q m (begun u) R := ⟨h.len, h.part, h.rest, h.dn⟩
theorem said_parts (hi : Iv S E Q C L u) (c k s : Int) : (saidU u c k s).parts = u.parts.map (sayP (stU u) c k s) := by
  unfold saidU
  rw [hi.f]
  rfl
theorem open_ne_done (f e s m : Int) (b b0 c : ByteArray) : openR f e s m b b0 ≠ doneR f e s c := fun h => by
  have : true = false := congrArg (fun r : Rc => r.op) h
  cases this
/-- a column does what it is asked: what it answers is OK; the records, whether the answer is lost or not -/
theorem round_law (hF : Fits S E Q C L) (hi : Iv S E Q C L u) (hm : m = (maskOf C : Nat)) (hm1 : 1 ≤ m) (hm2 : m ≤ 63) (h : EI E Q m u R) {p : Pt} (hp : p ∈ toAsk u) :
    ∃ r r' : Rc, R[p.col.toNat]? = some r ∧ (∀ W, Calls Try.prog 36 #[r.v, (askU u p (stU u)).v] W fun e w' => e = .returned (.tuple #[r'.v, sayV 1 E nilRc]) ∧ Below W.heap.size W w') ∧
      EI E Q m (begun u) (R.set p.col.toNat r') ∧ EI E Q m (saidU (begun u) p.col (askU u p (stU u)).kind 1) (R.set p.col.toNat r') := by
  obtain ⟨hpm, _⟩ := toAsk_in hp
  have hpb := cols_bd hF hi hpm
  have hsz := hF.sz p.block (by rw [← hi.b]; exact List.mem_map.2 ⟨p, hpm, rfl⟩)
  have hc : p.col.toNat < R.length := by rw [h.len]; omega
  have hr : R[p.col.toNat]? = some R[p.col.toNat] := List.getElem?_eq_getElem hc
  have hok := h.part p hpm _ hr
  have hcol : ∀ q ∈ u.parts, q.col.toNat = p.col.toNat → q = p := fun q hq e => part_inj hF hi hpm hq (by have := cols_bd hF hi hq; omega)
  have h1 := hF.e0; have h2 := hF.e1; have h3 := hF.q0; have h4 := hF.q1; have h5 := hF.s0; have h6 := hF.s1
  have sg : ∀ (r' : Rc) (q : Pt), q ∈ u.parts → q ≠ p → (R.set p.col.toNat r')[q.col.toNat]? = R[q.col.toNat]? := fun r' q hq hn => List.getElem?_set_ne (fun e => hn (hcol q hq e.symm))
  have ss : ∀ r' : Rc, (R.set p.col.toNat r')[p.col.toNat]? = some r' := fun r' => List.getElem?_set_self hc
  have rs : ∀ (r' : Rc) (i : Nat), i < 6 → (∀ q ∈ u.parts, q.col ≠ (i : Int)) → (R.set p.col.toNat r')[i]? = some (baseR E s16) := fun r' i hi6 hn => by
    rw [List.getElem?_set_ne (fun e => hn p hpm (by omega))]
    exact h.rest i hi6 hn
  have hpc : ∀ (st k s : Int) (q : Pt), (sayP st p.col k s q).col = q.col := fun st k s q => sayP_col _ _ _ _ _
  rcases asked_op hi.f hp with ⟨hk, h0, ho, hpo⟩ | ⟨hk, h0, ho, hpd⟩
  · rw [hk, h0, askU_0 hi]
    have hr' : R[p.col.toNat] = baseR E s16 ∨ R[p.col.toNat] = openR E E Q m p.block s16 := by
      rcases hok with ⟨_, _, h⟩ | ⟨h, _⟩ | ⟨h, _⟩
      · exact h
      · rw [hpo] at h; cases h
      · rw [hpo] at h; cases h
    have hdn : p.dn = false := by
      rcases hok with ⟨_, h, _⟩ | ⟨h, _⟩ | ⟨h, _⟩
      · exact h
      · rw [hpo] at h; cases h
      · rw [hpo] at h; cases h
    have hnd : ∀ q ∈ u.parts, (R.set p.col.toNat (openR E E Q m p.block s16))[q.col.toNat]? ≠ some (doneR E E Q q.block) := by
      intro q hq he
      by_cases e : q = p
      · subst e
        rw [ss] at he
        exact open_ne_done _ _ _ _ _ _ _ (Option.some.inj he)
      · rw [sg _ q hq e] at he
        rw [h.dn q hq he] at ho
        cases ho
    refine ⟨R[p.col.toNat], openR E E Q m p.block s16, hr, fun W => ?_, ⟨by rw [List.length_set]; exact h.len, fun q hq r hqr => ?_, rs _, fun q hq he => absurd he (hnd q hq)⟩, ⟨by rw [List.length_set]; exact h.len, fun q hq r hqr => ?_, fun i hi6 hn => ?_, fun q hq he => ?_⟩⟩
    · rw [← hm]
      rcases hr' with e | e <;> rw [e]
      · exact apply4_base S E Q m p.block s16 h5 h6 h1 h2 h3 h4 hm1 hm2 hsz rfl W
      · exact apply4_open S E Q m p.block s16 h5 h6 h1 h2 h3 h4 hm1 hm2 hsz rfl W
    · by_cases e : q = p
      · subst e
        rw [ss] at hqr
        cases hqr
        exact .inl ⟨hpo, hdn, .inr rfl⟩
      · rw [sg _ q hq e] at hqr
        exact h.part q hq r hqr
    · rw [said_parts hi.begun] at hq
      obtain ⟨q0, hq0, rfl⟩ := List.mem_map.1 hq
      rw [hpc] at hqr
      by_cases e : q0 = p
      · subst e
        rw [ss] at hqr
        cases hqr
        refine .inr (.inl ⟨?_, ?_, .inl ?_⟩)
        · simp [sayP]
        · simp [sayP, hdn]
        · rw [sayP_block]
      · rw [sg _ q0 hq0 e] at hqr
        have hne : q0.col ≠ p.col := fun e' => e (part_inj hF hi hpm hq0 e')
        have := h.part q0 hq0 r hqr
        rw [show sayP (stU (begun u)) p.col 4 1 q0 = q0 from by unfold sayP; rw [if_pos hne]]
        exact this
    · refine rs _ i hi6 fun q hq => ?_
      have := hn (sayP (stU (begun u)) p.col 4 1 q) (by rw [said_parts hi.begun]; exact List.mem_map.2 ⟨q, hq, rfl⟩)
      rwa [hpc] at this
    · rw [said_parts hi.begun] at hq
      obtain ⟨q0, hq0, rfl⟩ := List.mem_map.1 hq
      rw [hpc, sayP_block] at he
      exact absurd he (hnd q0 hq0)
  · rw [hk, h0, askU_1 hi]
    have hpo : p.op = true := by
      unfold allO at ho
      exact List.all_eq_true.1 ho p hpm
    have hr' : R[p.col.toNat] = openR E E Q m p.block s16 ∨ R[p.col.toNat] = doneR E E Q p.block := by
      rcases hok with ⟨h, _⟩ | ⟨_, _, h⟩ | ⟨_, h, _⟩
      · rw [hpo] at h; cases h
      · exact h
      · rw [hpd] at h; cases h
    have hall : allO (saidU (begun u) p.col 5 1).parts = true := by
      unfold allO at ho ⊢
      rw [said_parts hi.begun, List.all_eq_true]
      intro q hq
      obtain ⟨q0, hq0, rfl⟩ := List.mem_map.1 hq
      have := List.all_eq_true.1 ho q0 hq0
      unfold sayP
      by_cases e : q0.col = p.col
      · rw [if_neg (by simpa using e), if_neg (by omega), if_pos rfl, if_neg (by omega)]
        split <;> exact this
      · rw [if_pos e]; exact this
    refine ⟨R[p.col.toNat], doneR E E Q p.block, hr, fun W => ?_, ⟨by rw [List.length_set]; exact h.len, fun q hq r hqr => ?_, rs _, fun q hq he => ho⟩, ⟨by rw [List.length_set]; exact h.len, fun q hq r hqr => ?_, fun i hi6 hn => ?_, fun q hq he => hall⟩⟩
    · rcases hr' with e | e <;> rw [e]
      · exact apply5_open S E Q m p.block s16 h5 h6 h1 h2 h3 h4 hm1 hm2 hsz rfl W
      · exact apply5_done S E Q m p.block s16 h5 h6 h1 h2 h3 h4 hm1 hm2 hsz rfl W
    · by_cases e : q = p
      · subst e
        rw [ss] at hqr
        cases hqr
        exact .inr (.inl ⟨hpo, hpd, .inr rfl⟩)
      · rw [sg _ q hq e] at hqr
        exact h.part q hq r hqr
    · rw [said_parts hi.begun] at hq
      obtain ⟨q0, hq0, rfl⟩ := List.mem_map.1 hq
      rw [hpc] at hqr
      by_cases e : q0 = p
      · subst e
        rw [ss] at hqr
        cases hqr
        have hst : stU (begun u) ≠ 0 := by rw [begun_st, h0]; omega
        refine .inr (.inr ⟨?_, ?_, ?_⟩)
        · simp [sayP, hst, hpo]
        · simp [sayP, hst]
        · rw [sayP_block]
      · rw [sg _ q0 hq0 e] at hqr
        have hne : q0.col ≠ p.col := fun e' => e (part_inj hF hi hpm hq0 e')
        have := h.part q0 hq0 r hqr
        rw [show sayP (stU (begun u)) p.col 5 1 q0 = q0 from by unfold sayP; rw [if_pos hne]]
        exact this
    · refine rs _ i hi6 fun q hq => ?_
      have := hn (sayP (stU (begun u)) p.col 5 1 q) (by rw [said_parts hi.begun]; exact List.mem_map.2 ⟨q, hq, rfl⟩)
      rwa [hpc] at this
/-- how many answers are wanting -/
def mu1 (p : Pt) : Nat := (if p.op then 0 else 1) + (if p.dn then 0 else 1)
def mu (u : Up) : Nat := (u.parts.map mu1).sum
theorem sum_le {α : Type} (f g : α → Nat) (l : List α) (h : ∀ q ∈ l, g q ≤ f q) : (l.map g).sum ≤ (l.map f).sum := by
  induction l with
  | nil => exact Nat.le_refl _
  | cons a l ih =>
    have h1 := h a (by simp)
    have h2 := ih fun q hq => h q (by simp [hq])
    simp only [List.map_cons, List.sum_cons]
    omega
theorem sum_lt {α : Type} (f g : α → Nat) (l : List α) (h : ∀ q ∈ l, g q ≤ f q) {p : α} (hp : p ∈ l) (hl : g p < f p) : (l.map g).sum < (l.map f).sum := by
  induction l with
  | nil => cases hp
  | cons a l ih =>
    have h1 := h a (by simp)
    have h2 := sum_le f g l fun q hq => h q (by simp [hq])
    simp only [List.map_cons, List.sum_cons]
    rcases List.mem_cons.1 hp with rfl | hp
    · omega
    · have := ih (fun q hq => h q (by simp [hq])) hp
      omega
theorem mu_new (hF : Fits S E Q C L) : mu (newU S E Q C L) ≤ 12 := by
  have h6 := hF.len
  have hl := parts_len hF
  have h1 := sum_le (fun _ => 2) mu1 (newU S E Q C L).parts (fun q _ => by unfold mu1; split <;> split <;> omega)
  have h2 : ∀ l : List Pt, (l.map fun _ => 2).sum = 2 * l.length := by
    intro l
    induction l with
    | nil => rfl
    | cons a l ih => simp only [List.map_cons, List.sum_cons, List.length_cons, ih]; omega
  rw [h2] at h1
  unfold mu
  omega
theorem mu_said (hi : Iv S E Q C L u) {p : Pt} (hp : p ∈ toAsk u) : mu (saidU (begun u) p.col (askU u p (stU u)).kind 1) + 1 ≤ mu u := by
  have hpm := (toAsk_in hp).1
  unfold mu
  rw [said_parts hi.begun, List.map_map]
  refine sum_lt mu1 _ u.parts (fun q _ => ?_) hpm ?_
  · show mu1 (sayP _ _ _ _ q) ≤ mu1 q
    unfold sayP mu1
    repeat' split
    all_goals simp_all
  · show mu1 (sayP _ _ _ _ p) < mu1 p
    rcases asked_op hi.f hp with ⟨hk, h0, ho, hpo⟩ | ⟨hk, h0, ho, hpd⟩
    · rw [hk]
      simp [sayP, mu1, hpo]
    · rw [hk]
      have hst : stU (begun u) ≠ 0 := by rw [begun_st, h0]; omega
      simp [sayP, mu1, hpd, hst]
/-- at the end -/
def wantR (E Q : Int) (C : List Int) (L : List ByteArray) (i k : Nat) : Rc := (List.range k).foldl (fun r j => if C.getD j 0 = (i : Int) then ⟨r.used, r.fence, ⟨E, Q⟩, L.getD j ⟨#[]⟩, r.op, r.intent, r.mask, r.staged⟩ else r) (baseR E s16)
theorem wantR_succ (i k : Nat) : wantR E Q C L i (k + 1) = if C.getD k 0 = (i : Int) then ⟨(wantR E Q C L i k).used, (wantR E Q C L i k).fence, ⟨E, Q⟩, L.getD k ⟨#[]⟩, (wantR E Q C L i k).op, (wantR E Q C L i k).intent, (wantR E Q C L i k).mask, (wantR E Q C L i k).staged⟩ else wantR E Q C L i k := by
  unfold wantR
  rw [List.range_succ, List.foldl_append]
  rfl
theorem wantR_shape (i : Nat) : ∀ k, (∃ j, j < k ∧ C.getD j 0 = (i : Int)) → ∃ j, j < k ∧ C.getD j 0 = (i : Int) ∧ wantR E Q C L i k = doneR E E Q (L.getD j ⟨#[]⟩)
  | 0, ⟨j, hj, _⟩ => absurd hj (by omega)
  | k + 1, ⟨j, hj, e⟩ => by
    have hsh : ∀ k, (wantR E Q C L i k).used = true ∧ (wantR E Q C L i k).fence = E ∧ (wantR E Q C L i k).op = false ∧ (wantR E Q C L i k).intent = ⟨0, 0⟩ ∧ (wantR E Q C L i k).mask = 0 ∧ (wantR E Q C L i k).staged = ⟨#[]⟩ := by
      intro k
      induction k with
      | zero => exact ⟨rfl, rfl, rfl, rfl, rfl, rfl⟩
      | succ k ih =>
        rw [wantR_succ]
        split
        · exact ih
        · exact ih
    rw [wantR_succ]
    obtain ⟨a1, a2, a3, a4, a5, a6⟩ := hsh k
    by_cases hk : C.getD k 0 = (i : Int)
    · rw [if_pos hk, a1, a2, a3, a4, a5, a6]
      exact ⟨k, by omega, hk, rfl⟩
    · rw [if_neg hk]
      obtain ⟨j', h1, h2, h3⟩ := wantR_shape i k ⟨j, by have : j ≠ k := fun h => hk (h ▸ e); omega, e⟩
      exact ⟨j', by omega, h2, h3⟩
theorem wantR_none (i : Nat) : ∀ k, (∀ j, j < k → C.getD j 0 ≠ (i : Int)) → wantR E Q C L i k = baseR E s16
  | 0, _ => rfl
  | k + 1, h => by
    rw [wantR_succ, if_neg (h k (by omega))]
    exact wantR_none i k fun j hj => h j (by omega)
theorem ends_law (hF : Fits S E Q C L) (hi : Iv S E Q C L u) (h : EI E Q m u R) (h2 : stU u = 2) (i : Nat) (hi6 : i < 6) : R[i]? = some (wantR E Q C L i C.length) := by
  have hv := st_val hi.f
  have hlen := hi.len
  have hd : allD u.parts = true := by
    cases hd : allD u.parts
    · rw [hd, h2] at hv
      split at hv <;> simp at hv
    · rfl
  by_cases hex : ∃ j, j < C.length ∧ C.getD j 0 = (i : Int)
  · obtain ⟨j, hj, e, hw⟩ := wantR_shape (E := E) (Q := Q) (L := L) i C.length hex
    rw [hw]
    have hpm : u.parts[j]'(by omega) ∈ u.parts := List.getElem_mem _
    have hc : (u.parts[j]'(by omega)).col = (i : Int) := by
      have h1 : (u.parts.map Pt.col)[j]? = C[j]? := by rw [hi.c]
      rw [List.getElem?_map, List.getElem?_eq_getElem (by omega), List.getElem?_eq_getElem hj] at h1
      have h3 := Option.some.inj h1
      rw [h3, ← e, List.getD_eq_getElem?_getD, List.getElem?_eq_getElem hj]
      rfl
    have hb : (u.parts[j]'(by omega)).block = L.getD j ⟨#[]⟩ := by
      have hjl : j < L.length := by rw [hF.n]; exact hj
      have h1 : (u.parts.map Pt.block)[j]? = L[j]? := by rw [hi.b]
      rw [List.getElem?_map, List.getElem?_eq_getElem (by omega), List.getElem?_eq_getElem hjl] at h1
      rw [List.getD_eq_getElem?_getD, List.getElem?_eq_getElem hjl]
      exact Option.some.inj h1
    have hi' : i < R.length := by rw [h.len]; exact hi6
    have hok := h.part _ hpm R[i] (by rw [hc]; exact List.getElem?_eq_getElem hi')
    have hdn := List.all_eq_true.1 hd _ hpm
    rw [List.getElem?_eq_getElem hi']
    rcases hok with ⟨_, h, _⟩ | ⟨_, h, _⟩ | ⟨_, _, h⟩
    · rw [hdn] at h; cases h
    · rw [hdn] at h; cases h
    · rw [h, hb]
  · rw [wantR_none i C.length fun j hj e => hex ⟨j, hj, e⟩]
    refine h.rest i hi6 fun p hp e => hex ?_
    obtain ⟨j, hj, rfl⟩ := List.getElem_of_mem hp
    refine ⟨j, by omega, ?_⟩
    have h1 : (u.parts.map Pt.col)[j]? = C[j]? := by rw [hi.c]
    rw [List.getElem?_map, List.getElem?_eq_getElem hj, List.getElem?_eq_getElem (by omega)] at h1
    rw [List.getD_eq_getElem?_getD, List.getElem?_eq_getElem (by omega), ← e]
    exact (Option.some.inj h1).symm
end
end Go.Proofs.Ytaeeflfhjmjpjaa
