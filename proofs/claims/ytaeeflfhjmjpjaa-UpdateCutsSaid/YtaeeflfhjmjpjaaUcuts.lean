/- NO WALK. UpdateCuts: what becomes of columns when an update was cut off; the columns while they are fenced and while they are settled; what is counted at its end; the columns' records and what is known of them, in the world. -/
import Derived.Test.YtaeeflfhjmjpjaaUste
import Derived.Test.YtaeeflfhjmjpjaaEndsP
namespace Go.Proofs.Ytaeeflfhjmjpjaa
open Go.RowKit SlRd
set_option linter.unusedVariables false

theorem mask_bit {C : List Int} (h : ∀ c ∈ C, 0 ≤ c ∧ c < 6) (i : Nat) : bitAt ((maskOf C : Nat) : Int) i = true ↔ (i : Int) ∈ C := by
  have key : ∀ (l : List Int) (m : Nat), (∀ c ∈ l, 0 ≤ c ∧ c < 6) → (((l.foldl (fun m c => m ||| 2 ^ c.toNat) m).testBit i = true) ↔ (m.testBit i = true ∨ (i : Int) ∈ l)) := by
    intro l
    induction l with
    | nil => intro m _; simp
    | cons a l ih =>
      intro m hl
      have ha := hl a (by simp)
      rw [List.foldl_cons, ih _ fun c hc => hl c (by simp [hc]), Nat.testBit_or, Bool.or_eq_true, Nat.testBit_two_pow, List.mem_cons, decide_eq_true_iff]
      constructor
      · rintro ((h1 | h1) | h1)
        · exact .inl h1
        · exact .inr (.inl (by omega))
        · exact .inr (.inr h1)
      · rintro (h1 | h1 | h1)
        · exact .inl (.inl h1)
        · exact .inl (.inr (by omega))
        · exact .inr h1
  have h2 := key C 0 h
  rw [Nat.zero_testBit] at h2
  have h3 : bitAt ((maskOf C : Nat) : Int) i = (maskOf C).testBit i := by
    rw [Nat.testBit_eq_decide_div_mod_eq]
    unfold bitAt
    have e : ((maskOf C : Nat) : Int) / 2 ^ i % 2 = ((maskOf C / 2 ^ i % 2 : Nat) : Int) := by simp
    rw [e]
    by_cases h : maskOf C / 2 ^ i % 2 = 1
    · rw [h]; rfl
    · rw [decide_eq_false h, beq_eq_false_iff_ne]
      omega
  rw [h3]
  unfold maskOf
  rw [h2]
  simp
theorem mem_cols {kn : List Bool} {l : List Rc} {mask : Int} (h1 : kn.length = 6) (h2 : l.length = 6) (i : Nat) : i ∈ cols kn l mask ↔ i < 6 ∧ kn.getD i false = true ∧ bitAt mask i = true := by
  unfold cols TK many
  rw [List.mem_filter, List.mem_range, Bool.and_eq_true, h1, h2]
  rfl
theorem FW_iff {kn : List Bool} {l : List Rc} {t : Tg} {mask : Int} : FW kn l t mask = true ↔ (∃ i ∈ cols kn l mask, doneP t (l.getD i default) = true) ∨ ((∃ i, i ∈ cols kn l mask) ∧ ∀ i ∈ cols kn l mask, openP t (l.getD i default) = true) := by
  unfold FW yes
  rw [Bool.or_eq_true, Bool.and_eq_true, decide_eq_true_iff, decide_eq_true_iff, beq_iff_eq, List.length_pos_iff_exists_mem, List.length_pos_iff_exists_mem]
  constructor
  · rintro (⟨i, hi⟩ | ⟨h1, h2⟩)
    · obtain ⟨a, b⟩ := List.mem_filter.1 hi
      exact .inl ⟨i, a, b⟩
    · exact .inr ⟨h1, List.length_filter_eq_length_iff.1 h2⟩
  · rintro (⟨i, a, b⟩ | ⟨h1, h2⟩)
    · exact .inl ⟨i, List.mem_filter.2 ⟨a, b⟩⟩
    · exact .inr ⟨h1, List.length_filter_eq_length_iff.2 h2⟩
/-- the columns behind a higher epoch -/
def upR (E : Int) (R : List Rc) : List Rc := R.map fun r => fenceR r (E + 1)
/-- the columns behind the asks to settle -/
def setR (S E : Int) (kn : List Bool) (l : List Rc) (k : Nat) : List Rc := foldS l (asked kn l) ((asked kn l).map (askOf kn l S (E + 1))) k
section
variable {S E Q m : Int} {C : List Int} {L : List ByteArray} {u : Up} {R : List Rc} {kn : List Bool}
theorem up_len (h : EI E Q m u R) : (upR E R).length = 6 := by unfold upR; rw [List.length_map]; exact h.len
theorem up_at {i : Nat} {r : Rc} (h : R[i]? = some r) : (upR E R).getD i default = fenceR r (E + 1) := by
  unfold upR
  rw [List.getD_eq_getElem?_getD, List.getElem?_map, h]
  rfl
theorem set_at (h1 : kn.length = 6) (h : EI E Q m u R) (c : Nat) (hc : c < 6) :
    (setR S E kn (upR E R) (asked kn (upR E R)).length).getD c default = if (kn.getD c false && ((upR E R).getD c default).op) = true then sS (FW kn (upR E R) ((upR E R).getD c default).intent ((upR E R).getD c default).mask) ((upR E R).getD c default) else (upR E R).getD c default := by
  have hl := up_len h
  have e : kn.length = (upR E R).length := by rw [h1, hl]
  have e6 : (upR E R).length ≤ 6 := by omega
  unfold setR
  rw [fold_at _ _ _ (asked_nodup kn _) _ (Nat.le_refl _) c (by rw [hl]; exact hc), List.take_length]
  have hm := mem_asked e e6 c
  by_cases ha : c ∈ asked kn (upR E R)
  · obtain ⟨_, h2, h3⟩ := hm.1 ha
    rw [if_pos ha, if_pos (by rw [h2, h3]; rfl), settle_asked S (E + 1) h3]
  · rw [if_neg ha, if_neg (by
      intro hh
      rw [Bool.and_eq_true] at hh
      exact ha (hm.2 ⟨by rw [hl]; exact hc, hh.1, hh.2⟩))]
theorem allO_said {u : Up} {S E Q : Int} {C : List Int} {L : List ByteArray} (hi : Iv S E Q C L u) (h : allO u.parts = true) (c k s : Int) : allO (saidU u c k s).parts = true := by
  unfold allO at h ⊢
  rw [said_parts hi, List.all_eq_true]
  intro q hq
  obtain ⟨q0, hq0, rfl⟩ := List.mem_map.1 hq
  have := List.all_eq_true.1 h q0 hq0
  unfold sayP
  repeat' split
  all_goals first | exact this | rfl
/-- a column's part, and what it holds -/
theorem part_at (hF : Fits S E Q C L) (hi : Iv S E Q C L u) (h : EI E Q m u R) {p : Pt} (hp : p ∈ u.parts) : ∃ r, R[p.col.toNat]? = some r ∧ okP E Q m p r ∧ p.col.toNat < 6 ∧ (p.col.toNat : Int) = p.col := by
  have hb := cols_bd hF hi hp
  have hl : p.col.toNat < R.length := by rw [h.len]; omega
  exact ⟨_, List.getElem?_eq_getElem hl, h.part p hp _ (List.getElem?_eq_getElem hl), by omega, by omega⟩
theorem col_part (hi : Iv S E Q C L u) {i : Nat} (h : (i : Int) ∈ C) : ∃ p ∈ u.parts, p.col = (i : Int) := by
  rw [← hi.c] at h
  obtain ⟨p, hp, e⟩ := List.mem_map.1 h
  exact ⟨p, hp, e⟩
theorem cuts_law (hF : Fits S E Q C L) (hi : Iv S E Q C L u) (hm : m = (maskOf C : Nat)) (h : EI E Q m u R) (h1 : kn.length = 6) :
    (∀ p ∈ u.parts, kn.getD p.col.toNat false = true → (setR S E kn (upR E R) (asked kn (upR E R)).length).getD p.col.toNat default = if FW kn (upR E R) ⟨E, Q⟩ m then doneR (E + 1) E Q p.block else baseR (E + 1) s16) ∧
    (allO u.parts = true → (∃ p ∈ u.parts, kn.getD p.col.toNat false = true) → FW kn (upR E R) ⟨E, Q⟩ m = true) := by
  have hl := up_len h
  have hin : ∀ p ∈ u.parts, kn.getD p.col.toNat false = true → p.col.toNat ∈ cols kn (upR E R) m := fun p hp hk => by
    have hb := cols_bd hF hi hp
    rw [mem_cols h1 hl]
    refine ⟨by omega, hk, ?_⟩
    rw [hm, mask_bit hF.bd, ← hi.c]
    exact List.mem_map.2 ⟨p, hp, by omega⟩
  have hout : ∀ i ∈ cols kn (upR E R) m, ∃ p ∈ u.parts, p.col = (i : Int) := fun i hi' => by
    obtain ⟨_, _, hb⟩ := (mem_cols h1 hl i).1 hi'
    rw [hm, mask_bit hF.bd] at hb
    exact col_part hi hb
  have hE := hF.e0
  have nd : ∀ b, doneP ⟨E, Q⟩ (fenceR (baseR E b) (E + 1)) = false := fun b => by
    show (((0 : Int) == E) && _) = false
    rw [show ((0 : Int) == E) = false from by rw [beq_eq_false_iff_ne]; omega]
    rfl
  refine ⟨fun p hp hk => ?_, fun ha ⟨p, hp, hk⟩ => ?_⟩
  · obtain ⟨r, hr, hok, hc6, hcc⟩ := part_at hF hi h hp
    rw [set_at h1 h _ hc6, up_at hr, hk]
    have hc := hin p hp hk
    have cb : p.op = false → r = baseR E s16 → FW kn (upR E R) ⟨E, Q⟩ m = false := by
      intro ho e
      cases hf : FW kn (upR E R) ⟨E, Q⟩ m
      · rfl
      · exfalso
        rcases FW_iff.1 hf with ⟨i, hic, hd⟩ | ⟨_, ha⟩
        · obtain ⟨p', hp', e'⟩ := hout i hic
          obtain ⟨r', hr', hok', _, hcc'⟩ := part_at hF hi h hp'
          have ei : p'.col.toNat = i := by omega
          rw [ei] at hr'
          rw [up_at hr'] at hd
          have hall : allO u.parts = true := by
            rcases hok' with ⟨_, _, e1 | e1⟩ | ⟨_, _, e1 | e1⟩ | ⟨_, _, e1⟩
            · rw [e1, nd] at hd; cases hd
            · rw [e1] at hd
              have : doneP ⟨E, Q⟩ (fenceR (openR E E Q m p'.block s16) (E + 1)) = doneP ⟨E, Q⟩ (fenceR (baseR E s16) (E + 1)) := rfl
              rw [this, nd] at hd; cases hd
            · rw [e1] at hd
              have : doneP ⟨E, Q⟩ (fenceR (openR E E Q m p'.block s16) (E + 1)) = doneP ⟨E, Q⟩ (fenceR (baseR E s16) (E + 1)) := rfl
              rw [this, nd] at hd; cases hd
            · exact h.dn p' hp' (by rw [ei, hr', e1])
            · exact h.dn p' hp' (by rw [ei, hr', e1])
          have := List.all_eq_true.1 hall p hp
          rw [ho] at this
          cases this
        · have := ha _ hc
          rw [up_at hr, e] at this
          cases this
    have cd : r = doneR E E Q p.block → FW kn (upR E R) ⟨E, Q⟩ m = true := fun e => FW_iff.2 (.inl ⟨_, hc, by
      rw [up_at hr, e]
      show ((E == E) && (Q == Q)) = true
      simp⟩)
    have co : r = openR E E Q m p.block s16 → (if (true && (fenceR r (E + 1)).op) = true then sS (FW kn (upR E R) (fenceR r (E + 1)).intent (fenceR r (E + 1)).mask) (fenceR r (E + 1)) else fenceR r (E + 1)) = if FW kn (upR E R) ⟨E, Q⟩ m then doneR (E + 1) E Q p.block else baseR (E + 1) s16 := fun e => by
      rw [e]
      show (if true = true then sS (FW kn (upR E R) ⟨E, Q⟩ m) _ else _) = _
      rw [if_pos rfl]
      unfold sS
      cases FW kn (upR E R) ⟨E, Q⟩ m <;> rfl
    rcases hok with ⟨ho, _, e | e⟩ | ⟨_, _, e | e⟩ | ⟨_, _, e⟩
    · rw [cb ho e, e]; rfl
    · exact co e
    · exact co e
    · rw [cd e, e]; rfl
    · rw [cd e, e]; rfl
  · cases hf : FW kn (upR E R) ⟨E, Q⟩ m
    · exfalso
      have hn : ¬ _ := fun hh => by rw [FW_iff.2 hh] at hf; cases hf
      refine hn (.inr ⟨⟨_, hin p hp hk⟩, fun i hic => ?_⟩)
      obtain ⟨p', hp', e'⟩ := hout i hic
      obtain ⟨r', hr', hok', _, hcc'⟩ := part_at hF hi h hp'
      have ei : p'.col.toNat = i := by omega
      rw [ei] at hr'
      have hop := List.all_eq_true.1 ha p' hp'
      have dn : r' = doneR E E Q p'.block → False := fun e => hn (.inl ⟨i, hic, by
        rw [up_at hr', e]
        show ((E == E) && (Q == Q)) = true
        simp⟩)
      rcases hok' with ⟨ho, _⟩ | ⟨_, _, e | e⟩ | ⟨_, _, e⟩
      · rw [hop] at ho; cases ho
      · rw [up_at hr', e]
        show (true && ((E == E) && (Q == Q))) = true
        simp
      · exact (dn e).elim
      · exact (dn e).elim
    · rfl
end

/-- the first k columns fenced -/
def upK (E : Int) (R : List Rc) (k : Nat) : List Rc := (R.take k).map (fun r => fenceR r (E + 1)) ++ R.drop k
theorem upK_0 (E : Int) (R : List Rc) : upK E R 0 = R := rfl
theorem upK_len (E : Int) (R : List Rc) (k : Nat) : (upK E R k).length = R.length := by
  unfold upK
  rw [List.length_append, List.length_map, ← List.length_append, List.take_append_drop]
theorem upK_all (E : Int) (R : List Rc) : upK E R R.length = upR E R := by
  unfold upK upR
  rw [List.take_length, List.drop_length, List.append_nil]
theorem upK_at (E : Int) (R : List Rc) (k : Nat) (hk : k < R.length) : (upK E R k)[k]'(by rw [upK_len]; exact hk) = R[k] := by
  apply Option.some.inj
  rw [← List.getElem?_eq_getElem, ← List.getElem?_eq_getElem]
  unfold upK
  rw [List.getElem?_append_right (by rw [List.length_map, List.length_take]; omega), List.length_map, List.length_take, List.getElem?_drop]
  congr 1
  omega
theorem upK_succ (E : Int) (R : List Rc) (k : Nat) (hk : k < R.length) : upK E R (k + 1) = (upK E R k).set k (fenceR R[k] (E + 1)) := by
  apply List.ext_getElem?
  intro i
  rw [List.getElem?_set]
  unfold upK
  have l1 : ((R.take (k + 1)).map fun r => fenceR r (E + 1)).length = k + 1 := by rw [List.length_map, List.length_take]; omega
  have l0 : ((R.take k).map fun r => fenceR r (E + 1)).length = k := by rw [List.length_map, List.length_take]; omega
  by_cases e : k = i
  · subst e
    rw [if_pos rfl, if_pos (by rw [List.length_append, l0, List.length_drop]; omega), List.getElem?_append_left (by omega), List.getElem?_map, List.getElem?_take_of_lt (by omega), List.getElem?_eq_getElem hk]
    rfl
  · rw [if_neg e]
    by_cases hi : i < k
    · rw [List.getElem?_append_left (by omega), List.getElem?_append_left (by omega), List.getElem?_map, List.getElem?_map, List.getElem?_take_of_lt (by omega), List.getElem?_take_of_lt hi]
    · rw [List.getElem?_append_right (by omega), List.getElem?_append_right (by omega), l1, l0, List.getElem?_drop, List.getElem?_drop]
      congr 1
      omega
/-- what a column's record is good for -/
structure RF (f E Q : Int) (r : Rc) : Prop where
  right : r.right
  fence : r.fence = f
  op : r.op = true → r.intent = ⟨E, Q⟩
theorem RF.fenced {E Q : Int} {r : Rc} (h : RF E E Q r) (h1 : 1 ≤ E) (h2 : E ≤ 9) : RF (E + 1) E Q (fenceR r (E + 1)) :=
  ⟨⟨h.right.used, h.right.done, h.right.intent, ⟨by show (0 : Int) ≤ E + 1; omega, by show E + 1 ≤ 16777215; omega⟩, h.right.mask, h.right.block, h.right.opened, h.right.shut⟩, rfl, h.op⟩
theorem RF.settled {f E Q : Int} {r : Rc} (h : RF f E Q r) (mask : Int) (old : Tg) : RF f E Q (settleR r mask old) := by
  obtain ⟨hr, hf, ho⟩ := h
  have z : Tg.ok ⟨0, 0⟩ := ⟨by show (0 : Int) ≤ 0; omega, by show (0 : Int) ≤ 16777215; omega, by show (0 : Int) ≤ 0; omega, by show (0 : Int) ≤ 16777215; omega⟩
  unfold settleR
  split
  · rename_i hc
    rw [Bool.and_eq_true] at hc
    split
    · exact ⟨⟨rfl, hr.intent, z, hr.fence, ⟨by show (0 : Int) ≤ 0; omega, by show (0 : Int) ≤ 63; omega⟩, hr.opened hc.1, (fun h => by cases h), fun _ => ⟨rfl, rfl, rfl⟩⟩, hf, fun h => by cases h⟩
    · exact ⟨⟨rfl, hr.done, z, hr.fence, ⟨by show (0 : Int) ≤ 0; omega, by show (0 : Int) ≤ 63; omega⟩, hr.block, (fun h => by cases h), fun _ => ⟨rfl, rfl, rfl⟩⟩, hf, fun h => by cases h⟩
  · exact ⟨hr, hf, ho⟩
section
variable {S E Q m : Int} {C : List Int} {L : List ByteArray} {u : Up} {R : List Rc} {kn : List Bool}
theorem cut_rec (hF : Fits S E Q C L) (hi : Iv S E Q C L u) (hm1 : 1 ≤ m) (hm2 : m ≤ 63) (h : EI E Q m u R) : ∀ r ∈ R, RF E E Q r := by
  intro r hr
  obtain ⟨i, hi1, rfl⟩ := List.getElem_of_mem hr
  have h1 := hF.e0; have h2 := hF.e1; have h3 := hF.q0; have h4 := hF.q1
  have hi6 : i < 6 := by rw [← h.len]; exact hi1
  have hb : RF E E Q (baseR E s16) := ⟨base_right (by omega) (by omega) rfl, rfl, fun h => by cases h⟩
  by_cases hex : ∃ p ∈ u.parts, p.col = (i : Int)
  · obtain ⟨p, hp, e⟩ := hex
    have hsz := hF.sz p.block (by rw [← hi.b]; exact List.mem_map.2 ⟨p, hp, rfl⟩)
    have ho : RF E E Q (openR E E Q m p.block s16) := ⟨open_right (by omega) (by omega) (by omega) (by omega) (by omega) (by omega) (by omega) (by omega) hsz rfl, rfl, fun _ => rfl⟩
    have hd : RF E E Q (doneR E E Q p.block) := ⟨done_right (by omega) (by omega) (by omega) (by omega) (by omega) (by omega) hsz, rfl, fun h => by cases h⟩
    have hok := h.part p hp R[i] (by rw [e, Int.toNat_natCast]; exact List.getElem?_eq_getElem hi1)
    rcases hok with ⟨_, _, e | e⟩ | ⟨_, _, e | e⟩ | ⟨_, _, e⟩ <;> rw [e] <;> assumption
  · have := h.rest i hi6 fun p hp e => hex ⟨p, hp, e⟩
    rw [List.getElem?_eq_getElem hi1] at this
    rw [Option.some.inj this]
    exact hb
theorem cut_up (hF : Fits S E Q C L) (hE : E ≤ 9) (h : ∀ r ∈ R, RF E E Q r) : ∀ r ∈ upR E R, RF (E + 1) E Q r := by
  intro r hr
  obtain ⟨r0, h0, rfl⟩ := List.mem_map.1 hr
  exact (h r0 h0).fenced hF.e0 hE
/-- the columns behind the first k asks to settle -/
def stK (S E : Int) (kn : List Bool) (l : List Rc) (k : Nat) : List Rc := foldS l (asked kn l) ((asked kn l).map (askOf kn l S (E + 1))) k
theorem stK_0 (kn : List Bool) (l : List Rc) : stK S E kn l 0 = l := rfl
theorem stK_len (kn : List Bool) (l : List Rc) (k : Nat) : (stK S E kn l k).length = l.length := foldS_len _ _ _ _
theorem stK_succ (kn : List Bool) (l : List Rc) (k : Nat) (hk : k < (asked kn l).length) : stK S E kn l (k + 1) = (stK S E kn l k).set (asked kn l)[k] (settleR ((stK S E kn l k).getD (asked kn l)[k] default) (askOf kn l S (E + 1) (asked kn l)[k]).mask (askOf kn l S (E + 1) (asked kn l)[k]).old) := by
  unfold stK
  rw [foldS_succ]
  unfold stepS
  have e1 : (asked kn l).getD k 0 = (asked kn l)[k] := by rw [List.getD_eq_getElem?_getD, List.getElem?_eq_getElem hk]; rfl
  have e2 : ((asked kn l).map (askOf kn l S (E + 1))).getD k default = askOf kn l S (E + 1) (asked kn l)[k] := by rw [List.getD_eq_getElem?_getD, List.getElem?_map, List.getElem?_eq_getElem hk]; rfl
  rw [e1, e2]
theorem stK_ok {f : Int} (kn : List Bool) {l : List Rc} (h : ∀ r ∈ l, RF f E Q r) : ∀ k, k ≤ (asked kn l).length → ∀ r ∈ stK S E kn l k, RF f E Q r
  | 0, _ => h
  | k + 1, hk => by
    have ih := stK_ok kn h k (by omega)
    rw [stK_succ kn l k hk]
    have hc := asked_in kn l _ (List.getElem_mem hk)
    generalize (asked kn l)[k] = c at hc
    intro r hr
    rcases List.mem_or_eq_of_mem_set hr with h1 | rfl
    · exact ih r h1
    · have hc' : c < (stK S E kn l k).length := by rw [stK_len]; exact hc
      rw [List.getD_eq_getElem?_getD, List.getElem?_eq_getElem hc']
      exact (ih _ (List.getElem_mem hc')).settled _ _
theorem st_round {l : List Rc} (hF : Fits S E Q C L) (hE : E ≤ 9) (hl : l.length = 6) (h1 : kn.length = 6) (h : ∀ r ∈ l, RF (E + 1) E Q r) (k : Nat) (hk : k < (asked kn l).length) :
    ∃ (ci : Nat) (r : Rc) (q : Ak), ci < 6 ∧ (asked kn l)[k] = ci ∧ ((asked kn l).map (askOf kn l S (E + 1)))[k]? = some q ∧ (stK S E kn l k)[ci]? = some r ∧ stK S E kn l (k + 1) = (stK S E kn l k).set ci (settleR r q.mask q.old) ∧
      (∀ W, Calls Try.prog 36 #[r.v, q.v] W fun e w' => e = .returned (.tuple #[(settleR r q.mask q.old).v, sayV 1 (E + 1) nilRc]) ∧ Below W.heap.size W w') := by
  have hin := List.getElem_mem hk
  obtain ⟨c1, c2, c3⟩ := (mem_asked (by rw [h1, hl]) (by omega) _).1 hin
  have hs := stK_succ (S := S) (E := E) kn l k hk
  have hq : ((asked kn l).map (askOf kn l S (E + 1)))[k]? = some (askOf kn l S (E + 1) (asked kn l)[k]) := by rw [List.getElem?_map, List.getElem?_eq_getElem hk]; rfl
  generalize (asked kn l)[k] = c at c1 c2 c3 hs hq
  have hc' : c < (stK S E kn l k).length := by rw [stK_len]; exact c1
  rw [List.getD_eq_getElem?_getD, List.getElem?_eq_getElem hc'] at hs
  have hr := stK_ok (S := S) kn h k (by omega) _ (List.getElem_mem hc')
  have hold : (askOf kn l S (E + 1) c).old = ⟨E, Q⟩ := by
    rw [List.getD_eq_getElem?_getD, List.getElem?_eq_getElem c1] at c3
    have := (h _ (List.getElem_mem c1)).op c3
    unfold askOf
    rw [List.getD_eq_getElem?_getD, List.getElem?_eq_getElem c1]
    exact this
  have h1 := hF.e0; have h2 := hF.q0; have h3 := hF.q1
  refine ⟨c, _, _, by omega, rfl, hq, List.getElem?_eq_getElem hc', hs, fun W => ?_⟩
  have hm : (askOf kn l S (E + 1) c).mask = 0 ∨ (askOf kn l S (E + 1) c).mask = 1 := by
    unfold askOf
    cases FW kn l (l.getD c default).intent (l.getD c default).mask
    · exact .inl rfl
    · exact .inr rfl
  exact apply6 _ hr.right S (E + 1) _ (askOf kn l S (E + 1) c).old hF.s0 hF.s1 (by omega) (by omega) hm (by rw [hold]; show 0 ≤ E; omega) (by rw [hold]; show E < E + 1; omega) (by rw [hold]; show 0 ≤ Q; omega) (by rw [hold]; exact h3) hr.fence W
theorem set_eq (kn : List Bool) (R : List Rc) : setR S E kn (upR E R) (asked kn (upR E R)).length = stK S E kn (upR E R) (asked kn (upR E R)).length := rfl
/-- at the end, column by column -/
theorem cut_at (hF : Fits S E Q C L) (hi : Iv S E Q C L u) (hm : m = (maskOf C : Nat)) (h : EI E Q m u R) (h1 : kn.length = 6) (k : Nat) (hk : k < C.length) :
    ∃ ci : Nat, ci < 6 ∧ C[k] = (ci : Int) ∧ (kn.getD ci false = true → (stK S E kn (upR E R) (asked kn (upR E R)).length)[ci]? = some (if FW kn (upR E R) ⟨E, Q⟩ m then doneR (E + 1) E Q (L.getD k ⟨#[]⟩) else baseR (E + 1) s16)) ∧
      (kn.getD ci false = true → allO u.parts = true → FW kn (upR E R) ⟨E, Q⟩ m = true) := by
  obtain ⟨b1, b2⟩ := hF.bd _ (List.getElem_mem hk)
  have hlen := hi.len
  have hpm : u.parts[k]'(by omega) ∈ u.parts := List.getElem_mem _
  have hc : (u.parts[k]'(by omega)).col = C[k] := by
    have h1 : (u.parts.map Pt.col)[k]? = C[k]? := by rw [hi.c]
    rw [List.getElem?_map, List.getElem?_eq_getElem (by omega), List.getElem?_eq_getElem hk] at h1
    exact Option.some.inj h1
  have hb : (u.parts[k]'(by omega)).block = L.getD k ⟨#[]⟩ := by
    have hjl : k < L.length := by rw [hF.n]; exact hk
    have h1 : (u.parts.map Pt.block)[k]? = L[k]? := by rw [hi.b]
    rw [List.getElem?_map, List.getElem?_eq_getElem (by omega), List.getElem?_eq_getElem hjl] at h1
    rw [List.getD_eq_getElem?_getD, List.getElem?_eq_getElem hjl]
    exact Option.some.inj h1
  obtain ⟨l1, l2⟩ := cuts_law (kn := kn) hF hi hm h h1
  have hl6 : (stK S E kn (upR E R) (asked kn (upR E R)).length).length = 6 := by rw [stK_len, up_len h]
  refine ⟨C[k].toNat, by omega, by omega, fun hkn => ?_, fun hkn ha => ?_⟩
  · have := l1 _ hpm (by rw [hc]; exact hkn)
    rw [hc, hb, set_eq, List.getD_eq_getElem?_getD, List.getElem?_eq_getElem (by omega)] at this
    rw [List.getElem?_eq_getElem (by omega)]
    exact congrArg some this
  · exact l2 ha ⟨_, hpm, by rw [hc]; exact hkn⟩
end

@[reducible] def B1 (b : Bool) : List Value := [.bool b]
theorem flat_B1 (l : List Bool) : l.flatMap B1 = l.map Value.bool := by
  induction l with
  | nil => rfl
  | cons a l ih => rw [List.flatMap_cons, ih]; rfl
structure CtB (w3 W : World) (g kb : Nat) (kn : List Bool) (R : List Rc) : Prop where
  w : Below w3.heap.size w3 W
  r : RowsOf Rc.cs 10 W g R
  k : RowsOf B1 1 W kb kn
  l6 : R.length = 6
  k6 : kn.length = 6
  gs : g < W.heap.size
  gw : w3.heap.size ≤ g
  ks : kb < W.heap.size
  kw : w3.heap.size ≤ kb
  kg : kb ≠ g
section
variable {w3 W W' : World} {g kb : Nat} {kn : List Bool} {R : List Rc}
theorem CtB.below (h : CtB w3 W g kb kn R) (hb : Below W.heap.size W W') : CtB w3 W' g kb kn R :=
  ⟨below_then h.w hb, h.r.below hb h.gs, h.k.below hb h.ks, h.l6, h.k6, Nat.lt_of_lt_of_le h.gs hb.size, h.gw, Nat.lt_of_lt_of_le h.ks hb.size, h.kw, h.kg⟩
theorem CtB.store (h : CtB w3 W g kb kn R) {c : Nat} (hc : c < 6) (r' : Rc) : CtB w3 (W.setCells g (c * 10) r'.cs) g kb kn (R.set c r') :=
  ⟨BRow.setCells_below g h.gw _ _ _ h.w, h.r.set (fun _ => rfl) c (by rw [h.l6]; exact hc) r', fun k hk j hj => by
    obtain ⟨h1, h2⟩ := h.k k hk j hj
    exact ⟨(far_cell h.kg).trans h1, by rw [BRow.setCells_frozen]; exact h2⟩, by rw [List.length_set]; exact h.l6, h.k6, by rw [BRow.setCells_size]; exact h.gs, h.gw, by rw [BRow.setCells_size]; exact h.ks, h.kw, h.kg⟩
theorem CtB.there (h : CtB w3 W g kb kn R) {c : Nat} (hc : c < 6) : W.there g (c * 10) 10 := h.r.there (fun _ => rfl) c (by rw [h.l6]; exact hc)
theorem CtB.cells (h : CtB w3 W g kb kn R) {c : Nat} {r : Rc} (hr : R[c]? = some r) : ∀ j, j < 10 → W.cell? ⟨g, c * 10 + j, none⟩ = r.cs[j]? := fun j hj => by
  obtain ⟨hl, e⟩ := List.getElem?_eq_some_iff.1 hr
  have := (h.r c hl j hj).1
  rw [e] at this
  exact this
theorem CtB.bool (h : CtB w3 W g kb kn R) {c : Nat} (hc : c < 6) : W.cell? ⟨kb, c, none⟩ = some (.bool (kn.getD c false)) ∧ W.frozen? ⟨kb, c, none⟩ = false := by
  have hl : c < kn.length := by rw [h.k6]; exact hc
  obtain ⟨h1, h2⟩ := h.k c hl 0 (by omega)
  rw [Nat.mul_one, Nat.add_zero] at h1 h2
  refine ⟨?_, h2⟩
  rw [h1, List.getD_eq_getElem?_getD, List.getElem?_eq_getElem hl]
  rfl
theorem CtB.off (h : CtB w3 W g kb kn R) {c : Nat} (hc : c < 6) : CtB w3 (W.setCell ⟨kb, c, none⟩ (.bool false)) g kb (kn.set c false) R := by
  have hl : c < kn.length := by rw [h.k6]; exact hc
  have hk := h.k.set (fun _ => rfl) c hl false
  have e : W.setCells kb (c * 1) (B1 false) = W.setCell ⟨kb, c, none⟩ (.bool false) := by rw [Nat.mul_one]; rfl
  rw [e] at hk
  exact ⟨h.w.setCell h.kw _, fun k hk j hj => by
    obtain ⟨h1, h2⟩ := h.r k hk j hj
    refine ⟨?_, by rw [World.frozen?_setCell]; exact h2⟩
    have := far_cell (W := W) (g := kb) (b := g) (o := c) (j := k * 10 + j) (vs := [.bool false]) (Ne.symm h.kg)
    exact this.trans h1, hk, h.l6, by rw [List.length_set]; exact h.k6, by rw [BRow.size_setCell]; exact h.gs, h.gw, by rw [BRow.size_setCell]; exact h.ks, h.kw, h.kg⟩
theorem CtB.given (h : CtB w3 W g kb kn R) (hm : ∀ r ∈ R, 0 ≤ r.mask ∧ r.mask ≤ 63) (c1 c2 : Nat) : Given W kn R (.slice (some ⟨kb, 0, none⟩) 6 c1) (.slice (some ⟨g, 0, none⟩) 6 c2) := by
  have r1 := h.k.rd (fun _ => rfl) (by omega) h.ks c1
  have r2 := h.r.rd (fun _ => rfl) (by omega) h.gs c2
  have l6 := h.l6
  have k6 := h.k6
  rw [flat_B1, h.k6] at r1
  rw [h.l6] at r2
  exact ⟨by rw [h.k6]; exact r1, by rw [h.l6]; exact r2, by omega, by omega, fun r hr => by have := hm r hr; omega⟩
theorem CtB.start {E Q m : Int} {B : Nat} {v : Value} {u : Up} (h : StE w3 E Q m B v g u R W) :
    CtB w3 (W.alloc (.cells #[.bool true, .bool true, .bool true, .bool true, .bool true, .bool true] 4)) g W.heap.size (List.replicate 6 true) R := by
  have hb := (Below.refl W.heap.size W).alloc (Nat.le_refl _) (.cells #[.bool true, .bool true, .bool true, .bool true, .bool true, .bool true] 4)
  have h' := h.below hb
  have bK := Blk.new W 4 #[.bool true, .bool true, .bool true, .bool true, .bool true, .bool true]
  have hw := h.w.w.size
  refine ⟨h'.w.w, h'.r, fun k hk j hj => ?_, h.e.len, rfl, h'.gs, h'.gw, bK.lt, hw, by have := h.gs; omega⟩
  have hj0 : j = 0 := by omega
  subst hj0
  rw [List.length_replicate] at hk
  refine ⟨(bK.cell _).trans ?_, bK.frozen _⟩
  rw [List.getElem_replicate]
  rcases k with _ | _ | _ | _ | _ | _ | k
  all_goals first | rfl | omega
/-- only the block g has turned, of those that were there -/
structure Kp (g : Nat) (W W' : World) : Prop where
  s : W.heap.size ≤ W'.heap.size
  c : ∀ b j, b < W.heap.size → b ≠ g → W'.cell? ⟨b, j, none⟩ = W.cell? ⟨b, j, none⟩
theorem Kp.refl (g : Nat) (W : World) : Kp g W W := ⟨Nat.le_refl _, fun _ _ _ _ => rfl⟩
theorem Kp.below {W'' : World} (h : Kp g W W') (hb : Below W'.heap.size W' W'') : Kp g W W'' :=
  ⟨Nat.le_trans h.s hb.size, fun b j hl hn => (hb.cell (p := ⟨b, j, none⟩) (Nat.lt_of_lt_of_le hl h.s)).trans (h.c b j hl hn)⟩
theorem Kp.store (h : Kp g W W') (o : Nat) (vs : List Value) : Kp g W (W'.setCells g o vs) :=
  ⟨by rw [BRow.setCells_size]; exact h.s, fun b j hl hn => (far_cell hn).trans (h.c b j hl hn)⟩
theorem owns_at {base n size : Nat} {e : TypeId} {v : Value} {xs : List Value} (h : W.ownsRow base e size v n xs) (hn : 0 < n) :
    ∃ b cap, v = .slice (some ⟨b, 0, none⟩) n cap ∧ base ≤ b ∧ b < W.heap.size ∧ ∀ j, j < n * size → W.cell? ⟨b, j, none⟩ = xs[j]? := by
  obtain ⟨b, cap, rfl, h1, h2⟩ := h.form hn
  exact ⟨b, cap, rfl, h1, h2, fun j hj => h.cellAt j hj⟩
/-- the cells of the k-th ask, and of its column -/
theorem ask_at {base1 base2 n : Nat} {v1 v2 : Value} {A : List Nat} {Qs : List Ak} (h1 : W.ownsRow base1 3 1 v1 n (NV A)) (h2 : W.ownsRow base2 43 9 v2 n (Qs.flatMap Ak.cs)) (hn : n = A.length) (hq : n = Qs.length) (g : Nat) (hg1 : g < base1) (hg2 : g < base2)
    (k : Nat) (hk : k < n) : ∃ b1 c1 b2 c2, v1 = .slice (some ⟨b1, 0, none⟩) n c1 ∧ v2 = .slice (some ⟨b2, 0, none⟩) n c2 ∧ b1 ≠ g ∧ b2 ≠ g ∧ b1 < W.heap.size ∧ b2 < W.heap.size ∧
      (∀ W', Kp g W W' → W'.cell? ⟨b1, k, none⟩ = some (.int .i64 (A.getD k 0 : Nat)) ∧ ∀ j, j < 9 → W'.cell? ⟨b2, k * 9 + j, none⟩ = (Qs.getD k default).cs[j]?) := by
  obtain ⟨b1, c1, rfl, x1, x2, x3⟩ := owns_at h1 (by omega)
  obtain ⟨b2, c2, rfl, y1, y2, y3⟩ := owns_at h2 (by omega)
  refine ⟨b1, c1, b2, c2, rfl, rfl, by omega, by omega, x2, y2, fun W' hW => ⟨?_, fun j hj => ?_⟩⟩
  · rw [hW.c _ _ x2 (by omega), x3 k (by omega)]
    unfold NV
    rw [List.getElem?_map, List.getD_eq_getElem?_getD, List.getElem?_eq_getElem (by omega)]
    rfl
  · have hlt : k * 9 + j < n * 9 := by
      have : (k + 1) * 9 ≤ n * 9 := Nat.mul_le_mul_right _ hk
      omega
    have e : Qs.getD k default = Qs[k]'(by omega) := by rw [List.getD_eq_getElem?_getD, List.getElem?_eq_getElem (by omega)]; rfl
    rw [e, hW.c _ _ y2 (by omega), y3 _ hlt, flat_get Ak.cs 9 (fun _ => rfl) Qs k j (by omega) hj]
/-- a round of the asks to settle -/
theorem set_cells {S E Q : Int} {C : List Int} {L : List ByteArray} {l : List Rc} {base1 base2 n : Nat} {v1 v2 : Value} (hF : Fits S E Q C L) (hE : E ≤ 9) (hl : l.length = 6) (hk6 : kn.length = 6) (h : ∀ r ∈ l, RF (E + 1) E Q r)
    (h1 : W.ownsRow base1 3 1 v1 n (NV (asked kn l))) (h2 : W.ownsRow base2 43 9 v2 n (((asked kn l).map (askOf kn l S (E + 1))).flatMap Ak.cs)) (hn : n = (asked kn l).length) (hg1 : g < base1) (hg2 : g < base2) (k : Nat) (hk : k < n) :
    ∃ (ci : Nat) (r r' : Rc) (q : Ak) (b1 c1 b2 c2 : Nat), ci < 6 ∧ v1 = .slice (some ⟨b1, 0, none⟩) n c1 ∧ v2 = .slice (some ⟨b2, 0, none⟩) n c2 ∧ b1 < W.heap.size ∧ b2 < W.heap.size ∧
      (stK S E kn l k)[ci]? = some r ∧ stK S E kn l (k + 1) = (stK S E kn l k).set ci r' ∧
      (∀ W', Kp g W W' → W'.cell? ⟨b1, k, none⟩ = some (.int .i64 (ci : Nat)) ∧ ∀ j, j < 9 → W'.cell? ⟨b2, k * 9 + j, none⟩ = q.cs[j]?) ∧
      (∀ W, Calls Try.prog 36 #[r.v, q.v] W fun e w' => e = .returned (.tuple #[r'.v, sayV 1 (E + 1) nilRc]) ∧ Below W.heap.size W w') := by
  obtain ⟨ci, r, q, a1, a2, a3, a4, a5, a6⟩ := st_round (S := S) hF hE hl hk6 h k (by omega)
  obtain ⟨b1, c1, b2, c2, e1, e2, x1, x2, x3, x4, x5⟩ := ask_at h1 h2 hn (by rw [List.length_map]; exact hn) g hg1 hg2 k hk
  have eA : (asked kn l).getD k 0 = ci := by rw [List.getD_eq_getElem?_getD, List.getElem?_eq_getElem (by omega)]; exact a2
  have eQ : ((asked kn l).map (askOf kn l S (E + 1))).getD k default = q := by rw [List.getD_eq_getElem?_getD, a3]; rfl
  rw [eA, eQ] at x5
  exact ⟨ci, r, _, q, b1, c1, b2, c2, a1, e1, e2, x3, x4, a4, a5, x5, a6⟩
end
end Go.Proofs.Ytaeeflfhjmjpjaa
