/- Plain law of layer 19: which events can have happened one behind the other. No program in sight. -/
import Derived.WalkKit
set_option linter.unusedVariables false
namespace Lin
open Go

structure Op where
  kind : Int
  at_ : Int
  data : ByteArray
deriving DecidableEq
structure Ev where
  pilot : Int
  begin_ : Int
  end_ : Int
  op : Op
  err : Int
  data : ByteArray
deriving DecidableEq
instance : Inhabited Op := ⟨⟨0, 0, ⟨#[]⟩⟩⟩
instance : Inhabited Ev := ⟨⟨0, 0, 0, ⟨0, 0, ⟨#[]⟩⟩, 0, ⟨#[]⟩⟩⟩
def sure (x : Ev) : Bool := x.end_ != 0 && x.err == 0
def cnt (x : Ev) : Bool := if x.op.kind = 1 then sure x else x.op.kind == 2 && (x.end_ == 0 || (x.err == 0 || x.err == 171))
/-- what the block bears behind an event -/
def next (now : ByteArray) (x : Ev) : ByteArray := if x.op.kind = 2 then x.op.data else now

/-- the rest can be gone on with to its end -/
inductive Plays : ByteArray → List Ev → Prop
  | done {now : ByteArray} {rest : List Ev} (h : ∀ y ∈ rest, sure y = false) : Plays now rest
  | step {now : ByteArray} {rest less : List Ev} (x : Ev) (hp : rest.Perm (x :: less)) (hf : ∀ y ∈ less, sure y = true → ¬ y.end_ < x.begin_) (ho : x.op.kind = 2 ∨ x.data = now) (h : Plays (next now x) less) : Plays now rest

theorem Plays.perm {now : ByteArray} {rest rest' : List Ev} (h : Plays now rest) (hp : rest'.Perm rest) : Plays now rest' := by
  cases h with
  | done h => exact .done fun y hy => h y (hp.mem_iff.1 hy)
  | step x hq hf ho h => exact .step x (hp.trans hq) hf ho h
theorem Plays.perm_iff {now : ByteArray} {rest rest' : List Ev} (hp : rest'.Perm rest) : Plays now rest' ↔ Plays now rest := ⟨fun h => h.perm hp.symm, fun h => h.perm hp⟩
/-- one step more -/
theorem Plays.inv {now : ByteArray} {rest : List Ev} (h : Plays now rest) : (∀ y ∈ rest, sure y = false) ∨
    ∃ x less, rest.Perm (x :: less) ∧ (∀ y ∈ less, sure y = true → ¬ y.end_ < x.begin_) ∧ (x.op.kind = 2 ∨ x.data = now) ∧ Plays (next now x) less := by
  cases h with
  | done h => exact .inl h
  | step x hq hf ho h => exact .inr ⟨x, _, hq, hf, ho, h⟩

/-! the order of the list does not matter: 'Plays.perm' -/

/-- a first event that all others, sure or not, must wait for -/
theorem plays_first {now : ByteArray} {x : Ev} {xs : List Ev} (hs : sure x = true) (hb : ∀ y ∈ xs, x.end_ < y.begin_) (hx : ∀ y ∈ xs, sure y = true → ¬ y.end_ < x.begin_) :
    Plays now (x :: xs) ↔ (x.op.kind = 2 ∨ x.data = now) ∧ Plays (next now x) xs := by
  constructor
  · intro h
    rcases h.inv with h0 | ⟨y, less, hp, hf, ho, h1⟩
    · have := h0 x (by simp)
      rw [hs] at this
      cases this
    · have hy : y ∈ x :: xs := hp.mem_iff.2 (by simp)
      by_cases e : y = x
      · subst e
        exact ⟨ho, h1.perm hp.cons_inv⟩
      · have hy2 : y ∈ xs := by simpa [e] using hy
        have hxl : x ∈ less := by
          have := hp.mem_iff.1 (show x ∈ x :: xs by simp)
          rcases List.mem_cons.1 this with h | h
          · exact absurd h.symm e
          · exact h
        exact absurd (hb y hy2) (hf x hxl hs)
  · rintro ⟨ho, h⟩
    exact .step x (List.Perm.refl _) hx ho h

/-- events that are sure, ended behind their beginning: some one may come first -/
theorem least_sure : ∀ (l : List Ev), (∃ y ∈ l, sure y = true) → ∃ x ∈ l, sure x = true ∧ ∀ y ∈ l, sure y = true → x.end_ ≤ y.end_
  | [], h => by simp at h
  | a :: l, h => by
    by_cases hl : ∃ y ∈ l, sure y = true
    · obtain ⟨x, hx, hs, hm⟩ := least_sure l hl
      by_cases ha : sure a = true ∧ a.end_ < x.end_
      · refine ⟨a, by simp, ha.1, fun y hy hys => ?_⟩
        rcases List.mem_cons.1 hy with rfl | hy
        · exact Int.le_refl _
        · have := hm y hy hys; omega
      · refine ⟨x, by simp [hx], hs, fun y hy hys => ?_⟩
        rcases List.mem_cons.1 hy with rfl | hy
        · have : ¬ y.end_ < x.end_ := fun h => ha ⟨hys, h⟩
          omega
        · exact hm y hy hys
    · obtain ⟨y, hy, hys⟩ := h
      have : y = a := by
        rcases List.mem_cons.1 hy with h | h
        · exact h
        · exact absurd ⟨y, h, hys⟩ hl
      subst this
      refine ⟨y, by simp, hys, fun z hz hzs => ?_⟩
      rcases List.mem_cons.1 hz with rfl | hz
      · exact Int.le_refl _
      · exact absurd ⟨z, hz, hzs⟩ hl
/-- events each of which may be placed whatever the block bears: writes, or reads of what it bears while nobody that must be placed writes -/
theorem plays_all (now : ByteArray) : ∀ (n : Nat) (l : List Ev), l.length = n → (∀ y ∈ l, sure y = true → y.begin_ ≤ y.end_) → (∀ y ∈ l, sure y = true → (y.op.kind ≠ 2 ∧ y.data = now)) → Plays now l
  | 0, l, hn, _, _ => .done (by
      intro y hy
      have : l = [] := List.eq_nil_of_length_eq_zero hn
      subst this
      cases hy)
  | n + 1, l, hn, hb, ho => by
    by_cases hs : ∃ y ∈ l, sure y = true
    · obtain ⟨x, hx, hxs, hm⟩ := least_sure l hs
      obtain ⟨A, B, rfl⟩ := List.append_of_mem hx
      have hp : (A ++ x :: B).Perm (x :: (A ++ B)) := List.perm_middle
      have hsub : ∀ y, y ∈ A ++ B → y ∈ A ++ x :: B := fun y hy => hp.mem_iff.2 (List.mem_cons_of_mem _ hy)
      refine .step x hp (fun y hy hys => ?_) (.inr (ho x hx hxs).2) ?_
      · have := hm y (hsub y hy) hys
        have := hb x hx hxs
        omega
      · unfold next
        rw [if_neg (ho x hx hxs).1]
        refine plays_all now n (A ++ B) (by simp at hn ⊢; omega) (fun y hy => hb y (hsub y hy)) (fun y hy => ho y (hsub y hy))
    · exact .done fun y hy => by
        cases h : sure y
        · rfl
        · exact absurd ⟨y, hy, h⟩ hs
theorem plays_writes : ∀ (n : Nat) (now : ByteArray) (l : List Ev), l.length = n → (∀ y ∈ l, sure y = true → y.begin_ ≤ y.end_) → (∀ y ∈ l, y.op.kind = 2) → Plays now l
  | 0, now, l, hn, _, _ => .done (by
      intro y hy
      have : l = [] := List.eq_nil_of_length_eq_zero hn
      subst this
      cases hy)
  | n + 1, now, l, hn, hb, ho => by
    by_cases hs : ∃ y ∈ l, sure y = true
    · obtain ⟨x, hx, hxs, hm⟩ := least_sure l hs
      obtain ⟨A, B, rfl⟩ := List.append_of_mem hx
      have hp : (A ++ x :: B).Perm (x :: (A ++ B)) := List.perm_middle
      have hsub : ∀ y, y ∈ A ++ B → y ∈ A ++ x :: B := fun y hy => hp.mem_iff.2 (List.mem_cons_of_mem _ hy)
      refine .step x hp (fun y hy hys => ?_) (.inl (ho x hx)) ?_
      · have := hm y (hsub y hy) hys
        have := hb x hx hxs
        omega
      · exact plays_writes n _ (A ++ B) (by simp at hn ⊢; omega) (fun y hy => hb y (hsub y hy)) (fun y hy => ho y (hsub y hy))
    · exact .done fun y hy => by
        cases h : sure y
        · rfl
        · exact absurd ⟨y, hy, h⟩ hs

/-- a read, sure, of what nobody has written: never; nor if that is written behind its end -/
theorem never (z : ByteArray) (r : Ev) (hr : sure r = true) (hk : r.op.kind ≠ 2) (hd : r.data = z) :
    ∀ (n : Nat) (now : ByteArray) (l : List Ev), l.length = n → now ≠ z → r ∈ l → (∀ y ∈ l, y.op.kind = 2 → y.op.data = z → r.end_ < y.begin_) → ¬ Plays now l := by
  intro n
  induction n with
  | zero =>
    intro now l hn _ hm _ _
    have : l = [] := List.eq_nil_of_length_eq_zero hn
    subst this
    cases hm
  | succ n ih =>
    intro now l hn hz hm hw h
    rcases h.inv with h | ⟨x, less, hp, hf, ho, h⟩
    · have := h r hm
      rw [hr] at this
      cases this
    · have hlen : less.length = n := by have := hp.length_eq; simp at this; omega
      have hsub : ∀ y ∈ less, y ∈ l := fun y hy => hp.mem_iff.2 (List.mem_cons_of_mem _ hy)
      have hxl : x ∈ l := hp.mem_iff.2 (by simp)
      by_cases e : x = r
      · subst e
        rcases ho with ho | ho
        · exact hk ho
        · exact hz (ho.symm.trans hd)
      · have hrl : r ∈ less := by
          rcases List.mem_cons.1 (hp.mem_iff.1 hm) with h | h
          · exact absurd h.symm e
          · exact h
        refine ih (next now x) less hlen ?_ hrl (fun y hy => hw y (hsub y hy)) h
        unfold next
        split
        · rename_i hx2
          intro hxz
          exact hf r hrl hr (hw x hxl hx2 hxz)
        · exact hz

/-- what is asked of an event in the place of another one -/
structure Wider (x y : Ev) : Prop where
  s : sure y = sure x
  k : y.op = x.op
  d : y.data = x.data
  b : y.begin_ ≤ x.begin_
  e : sure x = true → x.end_ ≤ y.end_
theorem wider (f : Ev → Ev) : ∀ (n : Nat) (now : ByteArray) (l : List Ev), l.length = n → (∀ y ∈ l, Wider y (f y)) → Plays now l → Plays now (l.map f) := by
  intro n
  induction n with
  | zero =>
    intro now l hn _ h
    have : l = [] := List.eq_nil_of_length_eq_zero hn
    subst this
    exact h
  | succ n ih =>
    intro now l hn hw h
    rcases h.inv with h | ⟨x, less, hp, hf, ho, h⟩
    · refine .done fun y hy => ?_
      obtain ⟨z, hz, rfl⟩ := List.mem_map.1 hy
      rw [(hw z hz).s]
      exact h z hz
    · have hlen : less.length = n := by have := hp.length_eq; simp at this; omega
      have hsub : ∀ y ∈ less, y ∈ l := fun y hy => hp.mem_iff.2 (List.mem_cons_of_mem _ hy)
      have hx := hw x (hp.mem_iff.2 (by simp))
      refine .step (f x) (hp.map f) (fun y hy hys => ?_) (by rw [hx.k, hx.d]; exact ho) ?_
      · obtain ⟨z, hz, rfl⟩ := List.mem_map.1 hy
        have hwz := hw z (hsub z hz)
        rw [hwz.s] at hys
        have h1 := hf z hz hys
        have h2 := hwz.e hys
        have h3 := hx.b
        omega
      · have e : next now (f x) = next now x := by unfold next; rw [hx.k]
        rw [e]
        exact ih _ less hlen (fun y hy => hw y (hsub y hy)) h
/-- an event more that need not be -/
theorem one_more (e : Ev) (he : sure e = false) : ∀ (n : Nat) (now : ByteArray) (l : List Ev), l.length = n → Plays now l → Plays now (l ++ [e]) := by
  intro n
  induction n with
  | zero =>
    intro now l hn h
    have : l = [] := List.eq_nil_of_length_eq_zero hn
    subst this
    exact .done fun y hy => by simp at hy; subst hy; exact he
  | succ n ih =>
    intro now l hn h
    rcases h.inv with h | ⟨x, less, hp, hf, ho, h⟩
    · refine .done fun y hy => ?_
      rcases List.mem_append.1 hy with hy | hy
      · exact h y hy
      · simp at hy; subst hy; exact he
    · have hlen : less.length = n := by have := hp.length_eq; simp at this; omega
      refine .step x (less := less ++ [e]) (hp.append_right [e]) (fun y hy hys => ?_) ho (ih _ less hlen h)
      rcases List.mem_append.1 hy with hy | hy
      · exact hf y hy hys
      · simp at hy; subst hy; rw [he] at hys; cases hys

/-- other texts in the place of all texts, unlike ones for unlike ones -/
theorem names (g : ByteArray → ByteArray) (hg : ∀ a b, g a = g b → a = b) (f : Ev → Ev) :
    ∀ (n : Nat) (now : ByteArray) (l : List Ev), l.length = n → (∀ y ∈ l, sure (f y) = sure y ∧ (f y).op.kind = y.op.kind ∧ (f y).begin_ = y.begin_ ∧ (f y).end_ = y.end_ ∧ (y.op.kind = 2 → (f y).op.data = g y.op.data) ∧ (y.op.kind ≠ 2 → (f y).data = g y.data)) →
      (Plays (g now) (l.map f) ↔ Plays now l) := by
  intro n
  induction n with
  | zero =>
    intro now l hn _
    have : l = [] := List.eq_nil_of_length_eq_zero hn
    subst this
    exact ⟨fun _ => .done (by simp), fun _ => .done (by simp)⟩
  | succ n ih =>
    intro now l hn hw
    have hnx : ∀ x ∈ l, (x.op.kind = 2 ∨ x.data = now ↔ (f x).op.kind = 2 ∨ (f x).data = g now) ∧ next (g now) (f x) = g (next now x) := fun x hx => by
      obtain ⟨_, h2, _, _, h5, h6⟩ := hw x hx
      unfold next
      rw [h2]
      by_cases hk : x.op.kind = 2
      · rw [if_pos hk, if_pos hk]
        exact ⟨⟨fun _ => .inl hk, fun _ => .inl hk⟩, h5 hk⟩
      · rw [if_neg hk, if_neg hk, h6 hk]
        exact ⟨⟨fun h => .inr (by rcases h with h | h; exact absurd h hk; rw [h]), fun h => .inr (by rcases h with h | h; exact absurd h hk; exact hg _ _ h)⟩, rfl⟩
    constructor
    · intro h
      rcases h.inv with h0 | ⟨x', less', hp, hf, ho, hh1⟩
      · refine .done fun y hy => ?_
        rw [← (hw y hy).1]
        exact h0 _ (List.mem_map_of_mem hy)
      · have hx' : x' ∈ l.map f := hp.mem_iff.2 (by simp)
        obtain ⟨x, hx, rfl⟩ := List.mem_map.1 hx'
        obtain ⟨A, B, rfl⟩ := List.append_of_mem hx
        have hq : (A ++ x :: B).Perm (x :: (A ++ B)) := List.perm_middle
        have hsub : ∀ y ∈ A ++ B, y ∈ A ++ x :: B := fun y hy => hq.mem_iff.2 (List.mem_cons_of_mem _ hy)
        have hless : less'.Perm ((A ++ B).map f) := ((hp.symm.trans (hq.map f))).cons_inv
        obtain ⟨h1, h2⟩ := hnx x hx
        refine .step x hq (fun y hy hys => ?_) (h1.2 ho) ?_
        · have hy' := hw y (hsub y hy)
          have := hf (f y) (hless.mem_iff.2 (List.mem_map_of_mem hy)) (by rw [hy'.1]; exact hys)
          rw [hy'.2.2.2.1, (hw x hx).2.2.1] at this
          exact this
        · have h3 := hh1.perm hless.symm
          rw [h2] at h3
          exact (ih _ (A ++ B) (by simp at hn ⊢; omega) (fun y hy => hw y (hsub y hy))).1 h3
    · intro h
      rcases h.inv with h | ⟨x, less, hp, hf, ho, h⟩
      · refine .done fun y hy => ?_
        obtain ⟨z, hz, rfl⟩ := List.mem_map.1 hy
        rw [(hw z hz).1]
        exact h z hz
      · have hx : x ∈ l := hp.mem_iff.2 (by simp)
        have hlen : less.length = n := by have := hp.length_eq; simp at this; omega
        have hsub : ∀ y ∈ less, y ∈ l := fun y hy => hp.mem_iff.2 (List.mem_cons_of_mem _ hy)
        obtain ⟨h1, h2⟩ := hnx x hx
        refine .step (f x) (hp.map f) (fun y hy hys => ?_) (h1.1 ho) ?_
        · obtain ⟨z, hz, rfl⟩ := List.mem_map.1 hy
          have hz' := hw z (hsub z hz)
          rw [hz'.1] at hys
          rw [hz'.2.2.2.1, (hw x hx).2.2.1]
          exact hf z hz hys
        · rw [h2]
          exact (ih _ less hlen fun y hy => hw y (hsub y hy)).2 h

/-- two lists, all of the second one behind all of the first one, which ends with a read -/
theorem parts (r : Ev) (hr : sure r = true) (hrk : r.op.kind ≠ 2) : ∀ (n : Nat) (now : ByteArray) (A B : List Ev), A.length = n →
    (∀ y ∈ A, sure y = true ∧ y.end_ < r.begin_) → r.begin_ ≤ r.end_ → (∀ x ∈ B, r.end_ < x.begin_ ∧ (sure x = true → x.begin_ ≤ x.end_)) →
    (Plays now (r :: A ++ B) ↔ Plays now (r :: A) ∧ Plays r.data B) := by
  intro n
  induction n with
  | zero =>
    intro now A B hn _ hre hB
    have : A = [] := List.eq_nil_of_length_eq_zero hn
    subst this
    rw [List.singleton_append, plays_first hr (fun y hy => (hB y hy).1) (fun y hy hys => by have := hB y hy; have := this.2 hys; omega), plays_first (xs := []) hr (by simp) (by simp)]
    unfold next
    rw [if_neg hrk]
    constructor
    · rintro ⟨ho, h⟩
      rcases ho with ho | ho
      · exact absurd ho hrk
      · exact ⟨⟨.inr ho, .done (by simp)⟩, by rw [ho]; exact h⟩
    · rintro ⟨⟨ho, _⟩, h⟩
      rcases ho with ho | ho
      · exact absurd ho hrk
      · exact ⟨.inr ho, by rw [← ho]; exact h⟩
  | succ n ih =>
    intro now A B hn hA hre hB
    have hne : A ≠ [] := by intro e; subst e; cases hn
    have key : ∀ x less, (r :: A ++ B).Perm (x :: less) → (∀ y ∈ less, sure y = true → ¬ y.end_ < x.begin_) → ∃ P Q, A = P ++ x :: Q ∧ less.Perm (r :: (P ++ Q) ++ B) := fun x less hp hf => by
      have hx : x ∈ r :: A ++ B := hp.mem_iff.2 (by simp)
      have hxr : x ≠ r := by
        rintro rfl
        obtain ⟨a, A', rfl⟩ := List.exists_cons_of_ne_nil hne
        have ha := hA a (by simp)
        have hal : a ∈ less := by
          have : a ∈ x :: less := hp.mem_iff.1 (by simp)
          rcases List.mem_cons.1 this with h | h
          · have := ha.2; rw [h] at this; omega
          · exact h
        exact hf a hal ha.1 ha.2
      have hrl : r ∈ less := by
        have : r ∈ x :: less := hp.mem_iff.1 (by simp)
        rcases List.mem_cons.1 this with h | h
        · exact absurd h.symm hxr
        · exact h
      have hxA : x ∈ A := by
        rcases List.mem_append.1 hx with h | h
        · rcases List.mem_cons.1 h with h | h
          · exact absurd h hxr
          · exact h
        · exact absurd (hB x h).1 (hf r hrl hr)
      obtain ⟨P, Q, rfl⟩ := List.append_of_mem hxA
      refine ⟨P, Q, rfl, ?_⟩
      have h1 : (r :: (P ++ x :: Q) ++ B).Perm (x :: (r :: (P ++ Q) ++ B)) := by
        have a1 : (P ++ x :: Q).Perm (x :: (P ++ Q)) := List.perm_middle
        have a2 : (r :: (P ++ x :: Q)).Perm (r :: x :: (P ++ Q)) := a1.cons r
        have a3 : (r :: x :: (P ++ Q)).Perm (x :: r :: (P ++ Q)) := List.Perm.swap _ _ _
        exact (a2.trans a3).append_right B
      exact (hp.symm.trans h1).cons_inv
    have hxr2 : ∀ P x Q, A = P ++ x :: Q → (∀ y ∈ P ++ Q, sure y = true ∧ y.end_ < r.begin_) ∧ (P ++ Q).length = n := fun P x Q e => by
      subst e
      refine ⟨fun y hy => hA y ?_, by simp at hn ⊢; omega⟩
      rcases List.mem_append.1 hy with h | h <;> simp [h]
    constructor
    · intro h
      rcases h.inv with h | ⟨x, less, hp, hf, ho, h⟩
      · have := h r (by simp)
        rw [hr] at this
        cases this
      · obtain ⟨P, Q, e, hl⟩ := key x less hp hf
        obtain ⟨c1, c2⟩ := hxr2 P x Q e
        obtain ⟨k1, k2⟩ := (ih _ (P ++ Q) B c2 c1 hre hB).1 (h.perm hl.symm)
        subst e
        refine ⟨.step x (less := r :: (P ++ Q)) ?_ (fun y hy hys => hf y (hl.mem_iff.2 (List.mem_append_left _ hy)) hys) ho k1, k2⟩
        have a1 : (P ++ x :: Q).Perm (x :: (P ++ Q)) := List.perm_middle
        exact (a1.cons r).trans (List.Perm.swap _ _ _)
    · rintro ⟨h, hb⟩
      rcases h.inv with h | ⟨x, less, hp, hf, ho, h⟩
      · have := h r (by simp)
        rw [hr] at this
        cases this
      · have hp' : (r :: A ++ B).Perm (x :: (less ++ B)) := hp.append_right B
        have hrl : r ∈ less := by
          have : r ∈ x :: less := hp.mem_iff.1 (by simp)
          rcases List.mem_cons.1 this with h | h
          · subst h
            obtain ⟨a, A', rfl⟩ := List.exists_cons_of_ne_nil hne
            have ha := hA a (by simp)
            have hal : a ∈ less := by
              have : a ∈ r :: less := hp.mem_iff.1 (by simp)
              rcases List.mem_cons.1 this with h | h
              · have := ha.2; rw [h] at this; omega
              · exact h
            exact absurd ha.2 (hf a hal ha.1)
          · exact h
        have hxA : x.begin_ ≤ r.end_ := by
          have := hf r hrl hr
          omega
        have hf' : ∀ y ∈ less ++ B, sure y = true → ¬ y.end_ < x.begin_ := fun y hy hys => by
          rcases List.mem_append.1 hy with hy | hy
          · exact hf y hy hys
          · have := hB y hy
            have := this.2 hys
            omega
        obtain ⟨P, Q, e, hl⟩ := key x (less ++ B) hp' hf'
        obtain ⟨c1, c2⟩ := hxr2 P x Q e
        refine .step x hp' hf' ho ?_
        have hl2 : less.Perm (r :: (P ++ Q)) := (List.perm_append_right_iff B).1 hl
        exact ((ih _ (P ++ Q) B c2 c1 hre hB).2 ⟨h.perm hl2.symm, hb⟩).perm hl
end Lin
