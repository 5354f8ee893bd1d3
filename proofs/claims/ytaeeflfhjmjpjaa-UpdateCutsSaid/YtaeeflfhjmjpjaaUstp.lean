/- NO WALK. UpdateSteps: which columns have it open, which have it done. -/
import Derived.Test.YtaeeflfhjmjpjaaUinv
import Derived.BigQuiet
namespace Go.Proofs.Ytaeeflfhjmjpjaa
open Go.RowKit SlRd
set_option linter.unusedVariables false

/-- A region that draws its order, whose operations read alone, and whose calls may make memory: one walk, in a class of worlds f n. -/
theorem wp_region_cls {P : Program} {id : Nat} {Q : Exit → Act → World → Prop} {a : Act} {w : World} {l : List Oper} {N : Type} (f : N → World) (n0 : N) (h0 : ({ w with drawn := w.drawn + 1 } : World) = f n0) (hm : P.follows .mixedOrders = true) (hB : Region.lexB .any l.toArray = true)
    (h : wpQuiet P l.toArray (fun w' => ∃ n, w' = f n) (fun a' => ∀ w', (∃ n, w' = f n) → Q .normal a' w') l a) : (Code.region id l.toArray true).wp P Q a w :=
  wp_region_quiet (C := fun w' => ∃ n, w' = f n) hm hB ⟨n0, h0⟩ (by simpa using h)
/-- all worlds behind w that have made memory alone -/
theorem cls_of (w : World) : ∃ (N : Type) (f : N → World) (n0 : N), ({ w with drawn := w.drawn + 1 } : World) = f n0 ∧ (∀ n, Below w.heap.size w (f n)) ∧ ∀ n w', Below (f n).heap.size (f n) w' → ∃ m, w' = f m :=
  ⟨{ x : World // Below w.heap.size w x }, Subtype.val, ⟨w.drew, (Below.refl _ _).drew⟩, rfl, fun n => n.2, fun n w' h => ⟨⟨w', n.2.trans (h.mono n.2.size)⟩, rfl⟩⟩

def allO (l : List Pt) : Bool := l.all fun p => p.op
def allD (l : List Pt) : Bool := l.all fun p => p.dn
theorem allO_succ (l : List Pt) (j : Nat) (h : j < l.length) : allO (l.take (j + 1)) = (allO (l.take j) && l[j].op) := by
  unfold allO
  rw [List.take_succ_eq_append_getElem h, List.all_append]
  simp
theorem allD_succ (l : List Pt) (j : Nat) (h : j < l.length) : allD (l.take (j + 1)) = (allD (l.take j) && l[j].dn) := by
  unfold allD
  rw [List.take_succ_eq_append_getElem h, List.all_append]
  simp
/-- done somewhere only where it is open everywhere -/
def Mono (u : Up) : Prop := allO u.parts = true ∨ ∀ p ∈ u.parts, p.dn = false
theorem st_val {u : Up} (h : u.failed = false) : stU u = if allO u.parts then (if allD u.parts then 2 else 1) else 0 := by
  have e1 : (u.parts.any fun p => !p.op) = !allO u.parts := by unfold allO; rw [List.all_eq_not_any_not]; simp
  have e2 : (u.parts.any fun p => !p.dn) = !allD u.parts := by unfold allD; rw [List.all_eq_not_any_not]; simp
  unfold stU stP
  rw [h, e1, e2]
  cases allO u.parts <;> cases allD u.parts <;> rfl
theorem mono_do {u : Up} (h : Mono u) (hn : 0 < u.parts.length) (hd : allD u.parts = true) : allO u.parts = true := by
  rcases h with h | h
  · exact h
  · exfalso
    have h0 := h _ (List.getElem_mem hn)
    have h1 := List.all_eq_true.1 hd _ (List.getElem_mem hn)
    rw [h0] at h1
    cases h1
theorem toAsk_zero {u : Up} (h : u.failed = false) (hm : Mono u) (hn : 0 < u.parts.length) : (toAsk u).length = 0 ↔ allD u.parts = true := by
  constructor
  · intro h0
    have h2 := st_none h h0
    rw [st_val h] at h2
    cases ho : allO u.parts
    · rw [ho] at h2; simp at h2
    · cases hd : allD u.parts
      · rw [ho, hd] at h2; simp at h2
      · rfl
  · intro hd
    have ho := mono_do hm hn hd
    have h2 : stU u = 2 := by rw [st_val h, ho, hd]; rfl
    unfold toAsk
    rw [h2]
    rw [List.length_eq_zero_iff, List.filter_eq_nil_iff]
    intro p _
    simp [wants]
/-- what is asked, and of whom -/
theorem asked_op {u : Up} (h : u.failed = false) {p : Pt} (hp : p ∈ toAsk u) : ((askU u p (stU u)).kind = 4 ∧ stU u = 0 ∧ allO u.parts = false ∧ p.op = false) ∨ ((askU u p (stU u)).kind = 5 ∧ stU u = 1 ∧ allO u.parts = true ∧ p.dn = false) := by
  obtain ⟨hm, hw⟩ := toAsk_in hp
  have hv := st_val h
  unfold wants at hw
  cases ho : allO u.parts
  · rw [ho] at hv
    have h0 : stU u = 0 := by simpa using hv
    rw [h0] at hw ⊢
    exact .inl ⟨rfl, rfl, rfl, by simpa using hw⟩
  · rw [ho] at hv
    cases hd : allD u.parts
    · rw [hd] at hv
      have h1 : stU u = 1 := by simpa using hv
      rw [h1] at hw ⊢
      exact .inr ⟨rfl, rfl, rfl, by simpa using hw⟩
    · rw [hd] at hv
      have h1 : stU u = 2 := by simpa using hv
      rw [h1] at hw
      simp at hw
/-- the two rows of flags tell what the parts do -/
structure Fl (u : Up) (ob db : List Bool) : Prop where
  n1 : ob.length = 6
  n2 : db.length = 6
  o : ∀ p ∈ u.parts, ob[p.col.toNat]? = some p.op
  d : ∀ p ∈ u.parts, db[p.col.toNat]? = some p.dn
theorem Fl.start {S E Q : Int} {C : List Int} {L : List ByteArray} (h : Fits S E Q C L) : Fl (newU S E Q C L) (List.replicate 6 false) (List.replicate 6 false) ∧ Mono (newU S E Q C L) := by
  have hp : ∀ p ∈ (newU S E Q C L).parts, p.op = false ∧ p.dn = false ∧ 0 ≤ p.col ∧ p.col < 6 := by
    intro p hp
    have hb := h.bd p.col (by rw [← (Iv.new h).c]; exact List.mem_map.2 ⟨p, hp, rfl⟩)
    obtain ⟨q, _, rfl⟩ := List.mem_map.1 hp
    exact ⟨rfl, rfl, hb⟩
  refine ⟨⟨rfl, rfl, fun p h1 => ?_, fun p h1 => ?_⟩, .inr fun p h1 => (hp p h1).2.1⟩
  · obtain ⟨a, b, c, d⟩ := hp p h1
    rw [List.getElem?_replicate, if_pos (by omega), a]
  · obtain ⟨a, b, c, d⟩ := hp p h1
    rw [List.getElem?_replicate, if_pos (by omega), b]
section
variable {S E Q : Int} {C : List Int} {L : List ByteArray} {u : Up} {ob db : List Bool}
theorem cols_bd (hF : Fits S E Q C L) (h : Iv S E Q C L u) {p : Pt} (hp : p ∈ u.parts) : 0 ≤ p.col ∧ p.col < 6 := hF.bd p.col (by rw [← h.c]; exact List.mem_map.2 ⟨p, hp, rfl⟩)
/-- an answer that should come -/
theorem Fl.said (hF : Fits S E Q C L) (hi : Iv S E Q C L u) (hm : Mono u) (hf : Fl u ob db) {p : Pt} (hp : p ∈ toAsk u) :
    (((askU u p (stU u)).kind = 4 ∧ Fl (saidU u p.col 4 1) (ob.set p.col.toNat true) db) ∨ ((askU u p (stU u)).kind = 5 ∧ Fl (saidU u p.col 5 1) ob (db.set p.col.toNat true))) ∧ Mono (saidU u p.col (askU u p (stU u)).kind 1) := by
  have hpm := (toAsk_in hp).1
  have hpb := cols_bd hF hi hpm
  have hparts : ∀ k, (saidU u p.col k 1).parts = u.parts.map (sayP (stU u) p.col k 1) := fun k => by
    unfold saidU
    rw [hi.f]
    rfl
  rcases asked_op hi.f hp with ⟨hk, h0, ho, hpo⟩ | ⟨hk, h1, ho, hpd⟩
  · rw [hk]
    have hdn : ∀ q ∈ u.parts, q.dn = false := by
      rcases hm with h | h
      · rw [ho] at h; cases h
      · exact h
    refine ⟨.inl ⟨rfl, ⟨by rw [List.length_set]; exact hf.n1, hf.n2, fun q hq => ?_, fun q hq => ?_⟩⟩, .inr fun q hq => ?_⟩
    · rw [hparts] at hq
      obtain ⟨r, hr, rfl⟩ := List.mem_map.1 hq
      have hrb := cols_bd hF hi hr
      rw [sayP_col]
      by_cases e : r.col = p.col
      · rw [e, List.getElem?_set_self (by rw [hf.n1]; omega)]
        simp [sayP, e]
      · rw [List.getElem?_set_ne (by omega), hf.o r hr]
        simp [sayP, e]
    · rw [hparts] at hq
      obtain ⟨r, hr, rfl⟩ := List.mem_map.1 hq
      rw [sayP_col, hf.d r hr]
      unfold sayP
      by_cases e : r.col = p.col <;> simp [e]
    · rw [hparts] at hq
      obtain ⟨r, hr, rfl⟩ := List.mem_map.1 hq
      have := hdn r hr
      unfold sayP
      by_cases e : r.col = p.col <;> simp [e, this]
  · rw [hk]
    refine ⟨.inr ⟨rfl, ⟨hf.n1, by rw [List.length_set]; exact hf.n2, fun q hq => ?_, fun q hq => ?_⟩⟩, .inl ?_⟩
    · rw [hparts] at hq
      obtain ⟨r, hr, rfl⟩ := List.mem_map.1 hq
      rw [sayP_col, hf.o r hr]
      unfold sayP
      by_cases e : r.col = p.col <;> simp [e, h1]
    · rw [hparts] at hq
      obtain ⟨r, hr, rfl⟩ := List.mem_map.1 hq
      have hrb := cols_bd hF hi hr
      rw [sayP_col]
      by_cases e : r.col = p.col
      · rw [e, List.getElem?_set_self (by rw [hf.n2]; omega)]
        simp [sayP, e, h1]
      · rw [List.getElem?_set_ne (by omega), hf.d r hr]
        simp [sayP, e]
    · unfold allO
      rw [hparts, List.all_eq_true]
      intro q hq
      obtain ⟨r, hr, rfl⟩ := List.mem_map.1 hq
      have := List.all_eq_true.1 ho r hr
      unfold sayP
      by_cases e : r.col = p.col <;> simp [e, h1, this]
/-- said twice, and otherwise -/
theorem said_again (hi : Iv S E Q C L u) {p : Pt} (hp : p ∈ toAsk u) (s : Int) : saidU (saidU u p.col (askU u p (stU u)).kind 1) p.col (askU u p (stU u)).kind s = saidU u p.col (askU u p (stU u)).kind 1 := by
  have hparts : ∀ k, (saidU u p.col k 1).parts = u.parts.map (sayP (stU u) p.col k 1) := fun k => by
    unfold saidU
    rw [hi.f]
    rfl
  have key : ∀ k, (k = 4 ∨ k = 5) → (∀ q ∈ (saidU u p.col k 1).parts, q.col = p.col → (k = 4 → q.op = true) ∧ (k = 5 → q.dn = true)) → saidU (saidU u p.col k 1) p.col k s = saidU u p.col k 1 := by
    intro k hk hq
    have hi1 := hi.said p.col k hk
    generalize saidU u p.col k 1 = u1 at hq hi1
    have hP : u1.parts.map (sayP (stU u1) p.col k s) = u1.parts := by
      conv => rhs; rw [← List.map_id u1.parts]
      apply List.map_congr_left
      intro q hm
      obtain ⟨qc, qb, qo, qd⟩ := q
      have := hq _ hm
      unfold sayP
      simp only at this ⊢
      by_cases e : qc = p.col
      · obtain ⟨a, b⟩ := this e
        rw [if_neg (by simpa using e)]
        rcases hk with rfl | rfl
        · have := a rfl
          subst this
          rw [if_pos rfl]
          split <;> rfl
        · have := b rfl
          subst this
          rw [if_neg (by omega), if_pos rfl]
          split
          · rfl
          · split <;> rfl
      · rw [if_pos e]
        rfl
    have hFf : ∀ (l : List Pt), (∀ q ∈ l, q ∈ u1.parts) → l.foldl (sayF p.col k s) false = false := by
      intro l
      induction l with
      | nil => intro _; rfl
      | cons q l ih =>
        intro hl
        have hstep : sayF p.col k s false q = false := by
          have := hq q (hl q (by simp))
          unfold sayF
          by_cases e : q.col = p.col
          · obtain ⟨a, b⟩ := this e
            rw [if_neg (by simpa using e)]
            rcases hk with rfl | rfl
            · rw [if_pos rfl, a rfl]
              split <;> rfl
            · rw [if_neg (by omega), if_pos rfl, b rfl]
              split <;> rfl
          · rw [if_pos e]
        rw [List.foldl_cons, hstep]
        exact ih fun q' h' => hl q' (List.mem_cons_of_mem _ h')
    unfold saidU
    rw [hi1.f]
    simp only [Bool.false_eq_true, if_false]
    rw [hP, hFf u1.parts fun _ h => h]
    obtain ⟨a1, a2, a3, a4, a5, a6, a7⟩ := u1
    have := hi1.f
    simp only at this
    subst this
    rfl
  rcases asked_op hi.f hp with ⟨hk, h0, _, _⟩ | ⟨hk, h1, _, _⟩
  · rw [hk]
    refine key 4 (.inl rfl) fun q hq hc => ⟨fun _ => ?_, fun h => by omega⟩
    rw [hparts] at hq
    obtain ⟨r, hr, rfl⟩ := List.mem_map.1 hq
    rw [sayP_col] at hc
    simp [sayP, hc]
  · rw [hk]
    refine key 5 (.inr rfl) fun q hq hc => ⟨fun h => by omega, fun _ => ?_⟩
    rw [hparts] at hq
    obtain ⟨r, hr, rfl⟩ := List.mem_map.1 hq
    rw [sayP_col] at hc
    simp [sayP, hc, h1]
theorem begun_mono (h : Mono u) : Mono (begun u) := h
theorem begun_fl (h : Fl u ob db) : Fl (begun u) ob db := ⟨h.n1, h.n2, h.o, h.d⟩
end
/-- an object's own block and rows are apart from a block of another type -/
theorem UO.apart_blk {W : World} {B g : Nat} {v : Value} {u : Up} {t : TypeId} {cs : Array Value} (h : UO W B v u) (hb : Blk W g t cs) (h1 : t ≠ 86) (h2 : t ≠ 88) : ¬ US B v g := by
  rintro (rfl | hv)
  · exact Blk.ne_ hb h.h h1 rfl
  · exact own_blk_ne h.own hb (Ne.symm h2) hv
/-- what holds at a round's head -/
structure StR (w3 : World) (S E Q : Int) (C : List Int) (L : List ByteArray) (B : Nat) (v : Value) (O D : Nat) (u : Up) (ob db : List Bool) (W : World) : Prop where
  w : UW w3 W B v u
  i : Iv S E Q C L u
  m : Mono u
  f : Fl u ob db
  o : Blk W O 60 (ob.map Value.bool).toArray
  d : Blk W D 60 (db.map Value.bool).toArray
section
variable {w3 : World} {S E Q : Int} {C : List Int} {L : List ByteArray} {B : Nat} {v : Value} {O D : Nat} {u u' : Up} {ob db : List Bool} {W W' : World}
theorem StR.touched (h : StR w3 S E Q C L B v O D u ob db W) (ht : SlRd.Touch (US B v) W W') (hu : UW w3 W' B v u') (hi : Iv S E Q C L u') (hm : Mono u') (hf : Fl u' ob db) : StR w3 S E Q C L B v O D u' ob db W' :=
  ⟨hu, hi, hm, hf, ht.blk h.o (h.w.o.apart_blk h.o (by decide) (by decide)), ht.blk h.d (h.w.o.apart_blk h.d (by decide) (by decide))⟩
theorem StR.below (h : StR w3 S E Q C L B v O D u ob db W) (hb : Below W.heap.size W W') : StR w3 S E Q C L B v O D u ob db W' :=
  ⟨h.w.below hb, h.i, h.m, h.f, (hb.block O h.o.lt).trans h.o, (hb.block D h.d.lt).trans h.d⟩
/-- the j-th column's number and flags -/
theorem StR.flags (h : StR w3 S E Q C L B v O D u ob db W) (hF : Fits S E Q C L) (j : Nat) (hj : j < u.parts.length) (hC : j < C.length) : ∃ ci : Nat, ci < 6 ∧ C[j] = (ci : Int) ∧ u.parts[j].col = (ci : Int) ∧ W.cell? ⟨O, ci, none⟩ = some (.bool u.parts[j].op) ∧ W.cell? ⟨D, ci, none⟩ = some (.bool u.parts[j].dn) := by
  have hm : u.parts[j] ∈ u.parts := List.getElem_mem hj
  have hb := cols_bd hF h.i hm
  have hc : C[j] = u.parts[j].col := by
    have h1 : (u.parts.map Pt.col)[j]? = C[j]? := by rw [h.i.c]
    rw [List.getElem?_map, List.getElem?_eq_getElem hj, List.getElem?_eq_getElem hC] at h1
    exact (Option.some.inj h1).symm
  refine ⟨u.parts[j].col.toNat, by omega, by omega, by omega, ?_, ?_⟩
  · rw [h.o.cell, List.getElem?_toArray, List.getElem?_map, h.f.o _ hm]
    rfl
  · rw [h.d.cell, List.getElem?_toArray, List.getElem?_map, h.f.d _ hm]
    rfl
theorem StR.flagp (h : StR w3 S E Q C L B v O D u ob db W) (hF : Fits S E Q C L) {p : Pt} (hm : p ∈ u.parts) : ∃ ci : Nat, ci < 6 ∧ p.col = (ci : Int) ∧ p.block.size = 16 ∧ W.cell? ⟨O, ci, none⟩ = some (.bool p.op) ∧ W.cell? ⟨D, ci, none⟩ = some (.bool p.dn) := by
  have hb := cols_bd hF h.i hm
  refine ⟨p.col.toNat, by omega, by omega, hF.sz p.block (by rw [← h.i.b]; exact List.mem_map.2 ⟨p, hm, rfl⟩), ?_, ?_⟩
  · rw [h.o.cell, List.getElem?_toArray, List.getElem?_map, h.f.o _ hm]
    rfl
  · rw [h.d.cell, List.getElem?_toArray, List.getElem?_map, h.f.d _ hm]
    rfl
theorem askU_0 (h : Iv S E Q C L u) (p : Pt) : askU u p 0 = ⟨4, S, E, Q, (maskOf C : Nat), 0, ⟨0, 0⟩, p.block⟩ := by
  unfold askU
  rw [if_pos rfl, h.st, h.e, h.s, h.m]
theorem askU_1 (h : Iv S E Q C L u) (p : Pt) : askU u p 1 = ⟨5, S, E, Q, 0, 0, ⟨0, 0⟩, ⟨#[]⟩⟩ := by
  unfold askU
  rw [if_neg (by omega), h.st, h.e, h.s]
theorem maskOf_pos {C : List Int} (h : 0 < C.length) : 1 ≤ maskOf C := by
  have : ∀ (l : List Int) (m : Nat), m ≤ l.foldl (fun m c => m ||| 2 ^ c.toNat) m := by
    intro l
    induction l with
    | nil => intro m; exact Nat.le_refl _
    | cons a l ih => intro m; exact Nat.le_trans Nat.left_le_or (ih _)
  cases C with
  | nil => cases h
  | cons a l =>
    unfold maskOf
    rw [List.foldl_cons]
    refine Nat.le_trans ?_ (this l _)
    rw [Nat.zero_or]
    exact Nat.one_le_two_pow
end
end Go.Proofs.Ytaeeflfhjmjpjaa
