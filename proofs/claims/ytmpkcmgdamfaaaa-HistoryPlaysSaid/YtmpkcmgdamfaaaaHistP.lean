/- Plain law of histories: what a script leaves; moments. -/
import Derived.Test.YtmpkcmgdamfaaaaRefBegin
import Derived.Test.YtmpkcmgdamfaaaaBegin
namespace Go.Proofs.Ytmpkcmgdamfaaaa
open Go.RowKit SlRd
set_option linter.unusedVariables false

/-- a raw act -/
structure Ac where
  what : Int
  pilot : Int
  n : Int
  near : Bool
  op : Op
  err : Int
  data : ByteArray
instance : Inhabited Ac := ⟨⟨0, 0, 0, false, default, 0, ⟨#[]⟩⟩⟩
@[reducible] def Ac.cs (x : Ac) : List Value := [.int .i64 x.what, .int .i64 x.pilot, .int .i64 x.n, .bool x.near, .int .i64 x.op.kind, .int .i64 x.op.at_, .string x.op.data, .int .i64 x.err, .string x.data]
def Ac.ok (x : Ac) : Prop := (-9223372036854775808 ≤ x.what ∧ x.what ≤ 9223372036854775807) ∧ (-9223372036854775808 ≤ x.n ∧ x.n ≤ 9223372036854775807)

/-- what Begin and End leave -/
def bgE (s : List Ev × Int) (p : Int) (o : Op) : List Ev × Int := if s.1.length < 200 then (s.1 ++ [newEv p o (s.2 + 1)], s.2 + 1) else s
def bgR (s : List Ev × Int) : Int := if s.1.length < 200 then s.1.length else -1
def enE (s : List Ev × Int) (n er : Int) (da : ByteArray) : List Ev × Int := if ends s.1 n then (endAt s.1 n.toNat (s.2 + 1) er da, s.2 + 1) else s
theorem bgE_len (s : List Ev × Int) (p : Int) (o : Op) (h : s.1.length ≤ 200) : (bgE s p o).1.length ≤ 200 := by
  unfold bgE
  split
  · simp; omega
  · exact h
theorem enE_len (s : List Ev × Int) (n er : Int) (da : ByteArray) : (enE s n er da).1.length = s.1.length := by
  unfold enE
  split
  · exact endAt_length _ _ _ _ _
  · rfl
theorem bgE_t (s : List Ev × Int) (p : Int) (o : Op) : s.2 ≤ (bgE s p o).2 ∧ (bgE s p o).2 ≤ s.2 + 1 := by
  unfold bgE
  split
  · exact ⟨by simp; omega, by simp⟩
  · exact ⟨Int.le_refl _, by omega⟩
theorem enE_t (s : List Ev × Int) (n er : Int) (da : ByteArray) : s.2 ≤ (enE s n er da).2 ∧ (enE s n er da).2 ≤ s.2 + 1 := by
  unfold enE
  split
  · exact ⟨by simp; omega, by simp⟩
  · exact ⟨Int.le_refl _, by omega⟩

/-- one act of HistoryMoments and HistoryOf -/
def mstep (s : List Ev × Int) (x : Ac) : List Ev × Int := if pk x.what 2 = 0 then bgE s x.pilot x.op else enE s (pk x.n (1 + s.1.length)) x.err x.data
def ms (l : List Ac) : List Ev × Int := l.foldl mstep ([], 0)
theorem ms_snoc (l : List Ac) (x : Ac) : ms (l ++ [x]) = mstep (ms l) x := by unfold ms; rw [List.foldl_append]; rfl
theorem ms_take (l : List Ac) (k : Nat) (h : k < l.length) : ms (l.take (k + 1)) = mstep (ms (l.take k)) l[k] := by
  rw [List.take_succ_eq_append_getElem h, ms_snoc]

def moments (evs : List Ev) : List Int := evs.flatMap fun x => if x.end_ = 0 then [x.begin_] else [x.begin_, x.end_]
structure J (s : List Ev × Int) : Prop where
  tlo : (s.1.length : Int) ≤ s.2 ∧ s.2 ≤ 2 * s.1.length
  opn : (openN s.1 : Int) = 2 * s.1.length - s.2
  rng : ∀ x ∈ s.1, 1 ≤ x.begin_ ∧ x.begin_ ≤ s.2 ∧ (x.end_ = 0 ∨ (x.begin_ < x.end_ ∧ x.end_ ≤ s.2))
  inc : s.1.Pairwise fun a b => a.begin_ < b.begin_
  nod : (moments s.1).Nodup
theorem J.nil : J ([], 0) := ⟨by simp, by simp [openN], by simp, by simp, by simp [moments]⟩
theorem moments_le {s : List Ev × Int} (h : J s) : ∀ m ∈ moments s.1, 1 ≤ m ∧ m ≤ s.2 := by
  intro m hm
  obtain ⟨x, hx, hm⟩ := List.mem_flatMap.1 hm
  have := h.rng x hx
  split at hm
  · simp at hm; omega
  · simp at hm; omega
theorem J.beg {s : List Ev × Int} (h : J s) (p : Int) (o : Op) : J (s.1 ++ [newEv p o (s.2 + 1)], s.2 + 1) := by
  have ht := h.tlo
  refine ⟨by simp; omega, ?_, ?_, ?_, ?_⟩
  · have := h.opn
    simp [openN] at this ⊢
    omega
  · intro x hx
    rcases List.mem_append.1 hx with hx | hx
    · have := h.rng x hx
      simp only
      omega
    · simp at hx
      subst hx
      simp
      omega
  · rw [List.pairwise_append]
    refine ⟨h.inc, by simp, fun a ha b hb => ?_⟩
    simp at hb
    subst hb
    have := h.rng a ha
    simp only
    omega
  · have e : moments (s.1 ++ [newEv p o (s.2 + 1)]) = moments s.1 ++ [s.2 + 1] := by simp [moments]
    rw [e, List.nodup_append]
    refine ⟨h.nod, by simp, fun a ha b hb => ?_⟩
    simp at hb
    have := moments_le h a ha
    omega
theorem J.fin {s : List Ev × Int} (h : J s) (k : Nat) (hk : k < s.1.length) (he : s.1[k].end_ = 0) (er : Int) (da : ByteArray) : J (endAt s.1 k (s.2 + 1) er da, s.2 + 1) := by
  obtain ⟨evs, t⟩ := s
  simp only at h hk he ⊢
  have hp : evs = evs.take k ++ evs[k] :: evs.drop (k + 1) := by rw [← List.drop_eq_getElem_cons hk, List.take_append_drop]
  have hg : evs.getD k default = evs[k] := by simp [List.getD_eq_getElem?_getD, hk]
  have hs : endAt evs k (t + 1) er da = evs.take k ++ { evs[k] with end_ := t + 1, err := er, data := da } :: evs.drop (k + 1) := by
    unfold endAt
    rw [hg, List.set_eq_take_append_cons_drop, if_pos hk]
  have hsl := endAt_length evs k (t + 1) er da
  generalize hx : evs[k] = x at hp hs he
  generalize evs.take k = A at hp hs
  generalize evs.drop (k + 1) = B at hp hs
  clear hx hg
  generalize endAt evs k (t + 1) er da = E at hs hsl ⊢
  subst hs
  subst hp
  have ht := h.tlo
  have hrx := h.rng x (by simp)
  simp only at ht hrx
  have ho1 : 1 ≤ openN (A ++ x :: B) := by
    unfold openN
    rw [List.filter_append, List.filter_cons, he]
    simp
    omega
  have ho2 := h.opn
  simp only at ho2
  refine ⟨by simp only [List.length_append, List.length_cons] at ht ho2 ⊢; omega, ?_, ?_, ?_, ?_⟩
  · have := h.opn
    have e1 : (t + 1 == 0) = false := by rw [beq_eq_false_iff_ne]; omega
    simp [openN, he, e1] at this ht ⊢
    omega
  · intro y hy
    rcases List.mem_append.1 hy with hy | hy
    · have := h.rng y (by simp [hy])
      simp only at this ⊢
      omega
    · rcases List.mem_cons.1 hy with rfl | hy
      · simp only
        omega
      · have := h.rng y (by simp [hy])
        simp only at this ⊢
        omega
  · have hi := h.inc
    simp only [List.pairwise_append, List.pairwise_cons] at hi ⊢
    refine ⟨hi.1, ⟨hi.2.1.1, hi.2.1.2⟩, fun a ha b hb => ?_⟩
    rcases List.mem_cons.1 hb with rfl | hb
    · exact hi.2.2 a ha x (by simp)
    · exact hi.2.2 a ha b (by simp [hb])
  · have hm := moments_le h
    have hn := h.nod
    have e1 : moments (A ++ x :: B) = moments A ++ (x.begin_ :: moments B) := by simp [moments, he]
    have e2 : moments (A ++ { x with end_ := t + 1, err := er, data := da } :: B) = moments A ++ (x.begin_ :: (t + 1) :: moments B) := by
      have : ¬ t + 1 = 0 := by omega
      simp [moments, this]
    simp only at hm hn ⊢
    rw [e1] at hm hn
    rw [e2]
    have hp : List.Perm (moments A ++ (x.begin_ :: (t + 1) :: moments B)) ((t + 1) :: (moments A ++ (x.begin_ :: moments B))) := by
      have h1 : List.Perm (moments A ++ (x.begin_ :: (t + 1) :: moments B)) (moments A ++ ((t + 1) :: x.begin_ :: moments B)) := List.Perm.append_left _ (List.Perm.swap _ _ _)
      exact h1.trans List.perm_middle
    rw [hp.nodup_iff, List.nodup_cons]
    refine ⟨fun hh => ?_, hn⟩
    have := hm _ hh
    omega
theorem J.step {s : List Ev × Int} (h : J s) (hl : s.1.length < 200) (x : Ac) : J (mstep s x) ∧ (mstep s x).1.length ≤ s.1.length + 1 := by
  unfold mstep
  split
  · unfold bgE
    rw [if_pos hl]
    exact ⟨h.beg _ _, by simp⟩
  · unfold enE
    split
    · rename_i hn
      unfold ends at hn
      simp only [Bool.and_eq_true, decide_eq_true_eq, beq_iff_eq] at hn
      obtain ⟨h0, h1, h2⟩ := hn
      have hk : (pk x.n (1 + s.1.length)).toNat < s.1.length := by omega
      rw [List.getD_eq_getElem?_getD, List.getElem?_eq_getElem hk] at h2
      exact ⟨h.fin _ hk h2 _ _, by simp [endAt_length]⟩
    · exact ⟨h, by simp⟩
theorem ms_J (l : List Ac) : ∀ k, k ≤ l.length → k ≤ 100 → J (ms (l.take k)) ∧ (ms (l.take k)).1.length ≤ k
  | 0, _, _ => ⟨by simpa [ms] using J.nil, by simp [ms]⟩
  | k + 1, h1, h2 => by
    obtain ⟨a, b⟩ := ms_J l k (by omega) (by omega)
    rw [ms_take l k (by omega)]
    have := a.step (by omega) l[k]
    exact ⟨this.1, by omega⟩
end Go.Proofs.Ytmpkcmgdamfaaaa
