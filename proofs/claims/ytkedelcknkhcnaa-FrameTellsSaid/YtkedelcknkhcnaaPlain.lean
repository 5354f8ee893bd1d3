/- Plain facts on the sum of 24 bits: linear, one to one; what a run of bits does to it. No program in sight. -/
namespace CrcP

/-- one bit's step -/
def bstep (c : BitVec 24) : BitVec 24 := (c <<< 1) ^^^ (if c.msb then 0x864CFB#24 else 0#24)
def iter : Nat → BitVec 24 → BitVec 24
  | 0, c => c
  | n + 1, c => bstep (iter n c)
/-- a byte laid at the top -/
def top (b : BitVec 8) : BitVec 24 := b.setWidth 24 <<< 16
def byteStep (c : BitVec 24) (b : BitVec 8) : BitVec 24 := iter 8 (c ^^^ top b)
def go (c : BitVec 24) (l : List (BitVec 8)) : BitVec 24 := l.foldl byteStep c

theorem bstep_xor (a b : BitVec 24) : bstep (a ^^^ b) = bstep a ^^^ bstep b := by
  unfold bstep
  rw [BitVec.shiftLeft_xor_distrib, BitVec.msb_xor]
  have e : ∀ x y p q : BitVec 24, x ^^^ y ^^^ (p ^^^ q) = x ^^^ p ^^^ (y ^^^ q) := by
    intro x y p q; ext i; simp only [BitVec.getElem_xor]; cases x[i] <;> cases y[i] <;> cases p[i] <;> cases q[i] <;> rfl
  rw [← e]
  cases a.msb <;> cases b.msb <;> simp

theorem bstep_zero : bstep 0#24 = 0#24 := by decide

theorem iter_xor (n : Nat) (a b : BitVec 24) : iter n (a ^^^ b) = iter n a ^^^ iter n b := by
  induction n with
  | zero => rfl
  | succ n ih => simp only [iter, ih, bstep_xor]

theorem iter_zero (n : Nat) : iter n 0#24 = 0#24 := by
  induction n with
  | zero => rfl
  | succ n ih => simp only [iter, ih, bstep_zero]

theorem iter_add (m n : Nat) (c : BitVec 24) : iter (m + n) c = iter m (iter n c) := by
  induction m with
  | zero => simp [iter]
  | succ m ih => rw [show m + 1 + n = (m + n) + 1 from by omega]; simp only [iter, ih]

theorem bstep_eq_zero (a : BitVec 24) : bstep a = 0#24 ↔ a = 0#24 := by
  constructor
  · intro h
    have h0 : (bstep a).getLsbD 0 = false := by rw [h]; simp
    unfold bstep at h0 h
    cases hm : a.msb with
    | true => rw [hm] at h0; simp at h0
    | false =>
      rw [hm] at h
      simp at h
      apply BitVec.eq_of_getLsbD_eq
      intro i hi
      by_cases h23 : i = 23
      · subst h23; rw [BitVec.msb_eq_getLsbD_last] at hm; simpa using hm
      · have := congrArg (fun x => x.getLsbD (i + 1)) h
        simp [BitVec.getLsbD_shiftLeft] at this
        simpa using this (by omega)
  · rintro rfl; exact bstep_zero

theorem iter_eq_zero (n : Nat) (a : BitVec 24) : iter n a = 0#24 ↔ a = 0#24 := by
  induction n with
  | zero => rfl
  | succ n ih => simp only [iter, bstep_eq_zero, ih]

theorem xor_eq_zero (a b : BitVec 24) : a ^^^ b = 0#24 ↔ a = b := by
  constructor
  · intro h
    have : a ^^^ b ^^^ b = 0#24 ^^^ b := by rw [h]
    simpa [BitVec.xor_assoc] using this
  · rintro rfl; simp

theorem iter_inj (n : Nat) (a b : BitVec 24) : iter n a = iter n b ↔ a = b := by
  rw [← xor_eq_zero, ← iter_xor, iter_eq_zero, xor_eq_zero]

theorem byteStep_inj (a b : BitVec 24) (x : BitVec 8) : byteStep a x = byteStep b x ↔ a = b := by
  unfold byteStep
  rw [iter_inj]
  constructor
  · intro h
    have : a ^^^ top x ^^^ top x = b ^^^ top x ^^^ top x := by rw [h]
    simpa [BitVec.xor_assoc] using this
  · rintro rfl; rfl

theorem top_xor (x y : BitVec 8) : top (x ^^^ y) = top x ^^^ top y := by
  unfold top
  rw [← BitVec.shiftLeft_xor_distrib]
  congr 1

theorem byteStep_xor (a b : BitVec 24) (x y : BitVec 8) : byteStep (a ^^^ b) (x ^^^ y) = byteStep a x ^^^ byteStep b y := by
  unfold byteStep
  rw [← iter_xor, top_xor]
  congr 1
  ext i; simp only [BitVec.getElem_xor]; cases a[i] <;> cases b[i] <;> cases (top x)[i] <;> cases (top y)[i] <;> rfl

theorem go_nil (c : BitVec 24) : go c [] = c := rfl
theorem go_cons (c : BitVec 24) (b : BitVec 8) (l : List (BitVec 8)) : go c (b :: l) = go (byteStep c b) l := rfl
theorem go_append (c : BitVec 24) (l m : List (BitVec 8)) : go c (l ++ m) = go (go c l) m := by simp [go]
theorem go_snoc (c : BitVec 24) (l : List (BitVec 8)) (b : BitVec 8) : go c (l ++ [b]) = byteStep (go c l) b := by simp [go]

theorem go_inj (l : List (BitVec 8)) (a b : BitVec 24) : go a l = go b l ↔ a = b := by
  induction l generalizing a b with
  | nil => rfl
  | cons x l ih => rw [go_cons, go_cons, ih, byteStep_inj]

theorem go_xor (l : List (BitVec 8)) : ∀ (m : List (BitVec 8)) (a b : BitVec 24), l.length = m.length →
    go (a ^^^ b) (List.zipWith (· ^^^ ·) l m) = go a l ^^^ go b m := by
  induction l with
  | nil => intro m a b h; cases m with
    | nil => rfl
    | cons => simp at h
  | cons x l ih => intro m a b h; cases m with
    | nil => simp at h
    | cons y m =>
      simp only [List.zipWith_cons_cons, go_cons, byteStep_xor]
      exact ih m _ _ (by simpa using h)

/-- of three texts -/
theorem go_three (l m k : List (BitVec 8)) (c : BitVec 24) (h1 : l.length = m.length) (h2 : l.length = k.length) :
    go c (List.zipWith (· ^^^ ·) (List.zipWith (· ^^^ ·) l m) k) = go c l ^^^ go c m ^^^ go c k := by
  have e : c = (c ^^^ c) ^^^ c := by simp
  have := go_xor (List.zipWith (· ^^^ ·) l m) k (c ^^^ c) c (by simp; omega)
  rw [← e] at this
  rw [this, go_xor l m c c h1]

/-! three bytes behind -/
def three (a b c : BitVec 8) : BitVec 24 := top a ^^^ (b.setWidth 24 <<< 8) ^^^ c.setWidth 24

theorem shift1 : ∀ b : BitVec 8, iter 8 (b.setWidth 24 <<< 8) = top b := by decide +kernel
theorem shift2 : ∀ b : BitVec 8, iter 16 (b.setWidth 24) = top b := by decide +kernel

theorem go_three_bytes (x : BitVec 24) (a b c : BitVec 8) : go x [a, b, c] = iter 24 (x ^^^ three a b c) := by
  simp only [go_cons, go_nil, byteStep]
  rw [← shift1 b, ← iter_xor, ← iter_add, ← shift2 c]
  show iter 8 (iter 16 _ ^^^ iter 16 _) = _
  rw [← iter_xor, ← iter_add]
  unfold three
  show iter 24 _ = _
  congr 1
  simp only [BitVec.xor_assoc]

theorem go_two_bytes (x : BitVec 24) (a b : BitVec 8) : go x [a, b] = iter 16 (x ^^^ top a ^^^ (b.setWidth 24 <<< 8)) := by
  simp only [go_cons, go_nil, byteStep]
  rw [← shift1 b, ← iter_xor, ← iter_add]

theorem three_bits (a b c : BitVec 8) (i : Nat) : (three a b c).getLsbD i = (if i < 8 then c.getLsbD i else if i < 16 then b.getLsbD (i - 8) else if i < 24 then a.getLsbD (i - 16) else false) := by
  unfold three top
  simp only [BitVec.getLsbD_xor, BitVec.getLsbD_shiftLeft, BitVec.getLsbD_setWidth]
  by_cases h1 : i < 8
  · simp [h1]; simp [show i < 16 from by omega]; omega
  · by_cases h2 : i < 16
    · simp [h1, h2, show i < 24 from by omega, show i - 8 < 24 from by omega]
      rw [BitVec.getLsbD_of_ge c i (by omega)]; simp
    · by_cases h3 : i < 24
      · simp [h1, h2, h3, show i - 16 < 24 from by omega]
        rw [BitVec.getLsbD_of_ge c i (by omega), BitVec.getLsbD_of_ge b (i - 8) (by omega)]; simp
      · simp [h1, h2, h3]

theorem three_inj (a b c a' b' c' : BitVec 8) (h : three a b c = three a' b' c') : a = a' ∧ b = b' ∧ c = c' := by
  have hb := fun i => congrArg (fun x => x.getLsbD i) h
  simp only [three_bits] at hb
  refine ⟨?_, ?_, ?_⟩ <;> apply BitVec.eq_of_getLsbD_eq <;> intro i hi
  · have := hb (i + 16); simpa [show ¬ i + 16 < 8 from by omega, show ¬ i + 16 < 16 from by omega, show i + 16 < 24 from by omega] using this
  · have := hb (i + 8); simpa [show ¬ i + 8 < 8 from by omega, show i + 8 < 16 from by omega] using this
  · have := hb i; simpa [hi] using this

/-- a number's own three bytes -/
theorem three_own (x : BitVec 24) : three ((x >>> 16).setWidth 8) ((x >>> 8).setWidth 8) (x.setWidth 8) = x := by
  apply BitVec.eq_of_getLsbD_eq
  intro i hi
  rw [three_bits]
  by_cases h1 : i < 8
  · simp [h1]
  · by_cases h2 : i < 16
    · simp [h1, h2, show i - 8 < 8 from by omega, show 8 + (i - 8) = i from by omega]
    · simp [h1, h2, hi, show i - 16 < 8 from by omega, show 16 + (i - 16) = i from by omega]

/-! the bits of a run -/
def B (x : Bool) : BitVec 24 := if x then 0x800000#24 else 0#24
def bf (f : Nat → Bool) : Nat → BitVec 24
  | 0 => 0#24
  | k + 1 => bstep (bf f k ^^^ B (f k))

def bit (x : Bool) (i : Nat) : BitVec 8 := if x then 0x80#8 >>> i else 0#8
/-- the byte of eight bits, the highest first -/
def byteOf (f : Nat → Bool) (j : Nat) : BitVec 8 :=
  bit (f (8 * j)) 0 ^^^ bit (f (8 * j + 1)) 1 ^^^ bit (f (8 * j + 2)) 2 ^^^ bit (f (8 * j + 3)) 3 ^^^ bit (f (8 * j + 4)) 4 ^^^ bit (f (8 * j + 5)) 5 ^^^ bit (f (8 * j + 6)) 6 ^^^ bit (f (8 * j + 7)) 7

theorem top_bit : ∀ (x : Bool) (i : Fin 8), iter 8 (top (bit x i)) = iter (8 - i) (B x) := by decide +kernel

theorem byte_bits (f : Nat → Bool) (j : Nat) : byteStep (bf f (8 * j)) (byteOf f j) = bf f (8 * (j + 1)) := by
  have h0 := top_bit (f (8 * j)) 0
  have h1 := top_bit (f (8 * j + 1)) 1
  have h2 := top_bit (f (8 * j + 2)) 2
  have h3 := top_bit (f (8 * j + 3)) 3
  have h4 := top_bit (f (8 * j + 4)) 4
  have h5 := top_bit (f (8 * j + 5)) 5
  have h6 := top_bit (f (8 * j + 6)) 6
  have h7 := top_bit (f (8 * j + 7)) 7
  simp only [Fin.isValue, Fin.val_zero, Fin.val_one, Fin.val_two, Nat.sub_zero, show (3 : Fin 8).val = 3 from rfl, show (4 : Fin 8).val = 4 from rfl, show (5 : Fin 8).val = 5 from rfl, show (6 : Fin 8).val = 6 from rfl, show (7 : Fin 8).val = 7 from rfl] at h0 h1 h2 h3 h4 h5 h6 h7
  unfold byteStep byteOf
  simp only [top_xor, iter_xor, h0, h1, h2, h3, h4, h5, h6, h7]
  rw [show 8 * (j + 1) = 8 * j + 1 + 1 + 1 + 1 + 1 + 1 + 1 + 1 from by omega]
  simp only [bf, bstep_xor, iter, Nat.reduceSub, BitVec.xor_assoc]

theorem go_bits (f : Nat → Bool) (n : Nat) : go 0#24 ((List.range n).map (byteOf f)) = bf f (8 * n) := by
  induction n with
  | zero => rfl
  | succ n ih => rw [List.range_succ, List.map_append, List.map_singleton, go_snoc, ih, byte_bits]

def W (f : Nat → Bool) (p : Nat) : Nat → BitVec 24
  | 0 => 0#24
  | i + 1 => W f p i ^^^ (if f (p + i) then 0x800000#24 >>> i else 0#24)

theorem bf_lead (f : Nat → Bool) (m : Nat) (h : ∀ k, k < m → f k = false) : bf f m = 0#24 := by
  induction m with
  | zero => rfl
  | succ m ih => simp only [bf]; rw [ih (fun k hk => h k (by omega)), h m (by omega)]; decide

theorem iter_one : ∀ i : Fin 24, iter i (0x800000#24 >>> i.val) = 0x800000#24 := by decide +kernel

theorem bf_window (f : Nat → Bool) (p : Nat) (h : ∀ k, k < p → f k = false) (i : Nat) (hi : i ≤ 24) : bf f (p + i) = iter i (W f p i) := by
  induction i with
  | zero => exact bf_lead f p h
  | succ i ih =>
    rw [← Nat.add_assoc]
    simp only [bf, iter, W]
    rw [ih (by omega), iter_xor]
    congr 2
    unfold B
    split
    · exact (iter_one ⟨i, by omega⟩).symm
    · exact (iter_zero i).symm

theorem bf_behind (f : Nat → Bool) (m n : Nat) (h : ∀ k, m ≤ k → f k = false) : bf f (m + n) = iter n (bf f m) := by
  induction n with
  | zero => rfl
  | succ n ih => rw [← Nat.add_assoc]; simp only [bf, iter]; rw [ih, h (m + n) (by omega)]; simp [B]

theorem one_bit : ∀ i j : Fin 24, (0x800000#24 >>> i.val).getLsbD (23 - j.val) = decide (i = j) := by decide +kernel

theorem W_bit (f : Nat → Bool) (p i j : Nat) (hi : i ≤ 24) (hj : j < 24) : (W f p i).getLsbD (23 - j) = (decide (j < i) && f (p + j)) := by
  induction i with
  | zero => simp [W]
  | succ i ih =>
    simp only [W, BitVec.getLsbD_xor]
    rw [ih (by omega)]
    by_cases hf : f (p + i) = true
    · rw [if_pos hf, one_bit ⟨i, by omega⟩ ⟨j, hj⟩]
      by_cases e : i = j
      · subst e; simp [hf]
      · simp only [Fin.mk.injEq, e, decide_false, Bool.xor_false]
        congr 1
        simp only [decide_eq_decide]; omega
    · rw [if_neg hf]
      simp only [BitVec.getLsbD_zero, Bool.xor_false]
      by_cases e : i = j
      · subst e; simp [hf]
      · congr 1
        simp only [decide_eq_decide]; omega

theorem W_zero (f : Nat → Bool) (p i : Nat) (hi : i ≤ 24) : W f p i = 0#24 ↔ ∀ j, j < i → f (p + j) = false := by
  constructor
  · intro h j hj
    have := W_bit f p i j hi (by omega)
    rw [h] at this
    simpa [hj] using this.symm
  · intro h
    apply BitVec.eq_of_getLsbD_eq
    intro k hk
    have := W_bit f p i (23 - k) hi (by omega)
    rw [show 23 - (23 - k) = k from by omega] at this
    rw [this]
    simp
    intro hlt
    exact h _ hlt

/-- a run of at most 24 bits is told -/
theorem bf_zero (f : Nat → Bool) (p m : Nat) (h : ∀ k, f k = true → p ≤ k ∧ k < p + 24) : bf f m = 0#24 ↔ ∀ k, k < m → f k = false := by
  have hlo : ∀ k, k < p → f k = false := fun k hk => by
    cases hf : f k with
    | false => rfl
    | true => have := h k hf; omega
  have hhi : ∀ k, p + 24 ≤ k → f k = false := fun k hk => by
    cases hf : f k with
    | false => rfl
    | true => have := h k hf; omega
  by_cases h1 : m ≤ p
  · exact ⟨fun _ k hk => hlo k (by omega), fun _ => bf_lead f m (fun k hk => hlo k (by omega))⟩
  · by_cases h2 : m ≤ p + 24
    · obtain ⟨i, rfl⟩ : ∃ i, m = p + i := ⟨m - p, by omega⟩
      rw [bf_window f p hlo i (by omega), iter_eq_zero, W_zero f p i (by omega)]
      constructor
      · intro hw k hk
        by_cases hp : k < p
        · exact hlo k hp
        · have := hw (k - p) (by omega); rwa [show p + (k - p) = k from by omega] at this
      · intro hw j hj; exact hw _ (by omega)
    · obtain ⟨n, rfl⟩ : ∃ n, m = p + 24 + n := ⟨m - p - 24, by omega⟩
      rw [bf_behind f (p + 24) n hhi, bf_window f p hlo 24 (by omega), ← iter_add, iter_eq_zero, W_zero f p 24 (by omega)]
      constructor
      · intro hw k hk
        by_cases hp : k < p
        · exact hlo k hp
        · by_cases hq : k < p + 24
          · have := hw (k - p) (by omega); rwa [show p + (k - p) = k from by omega] at this
          · exact hhi k (by omega)
      · intro hw j hj; exact hw _ (by omega)

/-- one bit more -/
theorem byteOf_other (f : Nat → Bool) (k j : Nat) (h : j ≠ k / 8) : byteOf (fun i => f i || i == k) j = byteOf f j := by
  unfold byteOf
  have e : ∀ i, i < 8 → (f (8 * j + i) || (8 * j + i == k)) = f (8 * j + i) := fun i hi => by
    have : (8 * j + i == k) = false := by rw [beq_eq_false_iff_ne]; omega
    rw [this, Bool.or_false]
  have e0 := e 0 (by omega)
  simp only [Nat.add_zero] at e0
  simp only [e0, e 1 (by omega), e 2 (by omega), e 3 (by omega), e 4 (by omega), e 5 (by omega), e 6 (by omega), e 7 (by omega)]

theorem byteOf_this (f : Nat → Bool) (k : Nat) (h : f k = false) : byteOf (fun i => f i || i == k) (k / 8) = byteOf f (k / 8) ^^^ (0x80#8 >>> (k % 8)) := by
  obtain ⟨j, r, hr, rfl⟩ : ∃ j r, r < 8 ∧ k = 8 * j + r := ⟨k / 8, k % 8, by omega, by omega⟩
  rw [show (8 * j + r) / 8 = j from by omega, show (8 * j + r) % 8 = r from by omega]
  unfold byteOf
  have e : ∀ i, i < 8 → (8 * j + i == 8 * j + r) = decide (i = r) := fun i hi => by
    by_cases he : i = r
    · subst he; simp
    · have : ¬ 8 * j + i = 8 * j + r := by omega
      rw [decide_eq_false he, beq_eq_false_iff_ne]; exact this
  have e0 := e 0 (by omega)
  simp only [Nat.add_zero] at e0
  simp only [e0, e 1 (by omega), e 2 (by omega), e 3 (by omega), e 4 (by omega), e 5 (by omega), e 6 (by omega), e 7 (by omega)]
  have key : ∀ (b0 b1 b2 b3 b4 b5 b6 b7 : Bool) (r : Fin 8), [b0, b1, b2, b3, b4, b5, b6, b7].getD r.val true = false →
      bit (b0 || decide (0 = r.val)) 0 ^^^ bit (b1 || decide (1 = r.val)) 1 ^^^ bit (b2 || decide (2 = r.val)) 2 ^^^ bit (b3 || decide (3 = r.val)) 3 ^^^ bit (b4 || decide (4 = r.val)) 4 ^^^ bit (b5 || decide (5 = r.val)) 5 ^^^ bit (b6 || decide (6 = r.val)) 6 ^^^ bit (b7 || decide (7 = r.val)) 7 =
      bit b0 0 ^^^ bit b1 1 ^^^ bit b2 2 ^^^ bit b3 3 ^^^ bit b4 4 ^^^ bit b5 5 ^^^ bit b6 6 ^^^ bit b7 7 ^^^ (0x80#8 >>> r.val) := by decide +kernel
  refine key _ _ _ _ _ _ _ _ ⟨r, hr⟩ ?_
  rcases r with _ | _ | _ | _ | _ | _ | _ | _ | r
  all_goals first | exact h | omega
/-! as numbers -/
theorem bstep_toNat (c : BitVec 24) : (bstep c).toNat = if 16777216 ≤ 2 * c.toNat then (2 * c.toNat) ^^^ 25578747 else 2 * c.toNat := by
  have hc := c.isLt
  unfold bstep
  rw [BitVec.toNat_xor, BitVec.toNat_shiftLeft, Nat.shiftLeft_eq]
  by_cases h : 16777216 ≤ 2 * c.toNat
  · have hm : c.msb = true := by rw [BitVec.msb_eq_decide]; simp; omega
    rw [if_pos h, hm, if_pos rfl]
    have e1 : c.toNat * 2 ^ 1 % 2 ^ 24 = 2 * c.toNat - 16777216 := by omega
    rw [e1]
    obtain ⟨y, hy, he⟩ : ∃ y, y < 2 ^ 24 ∧ 2 * c.toNat = 2 ^ 24 * 1 + y := ⟨2 * c.toNat - 16777216, by omega, by omega⟩
    rw [he]
    have e2 : 2 ^ 24 * 1 + y - 16777216 = y := by omega
    rw [e2]
    have e3 : (25578747 : Nat) = 2 ^ 24 * 1 + 0x864CFB := by decide
    rw [e3]
    show y ^^^ 0x864CFB = _
    apply Nat.eq_of_testBit_eq
    intro i
    rw [Nat.testBit_xor, Nat.testBit_xor, Nat.testBit_two_pow_mul_add _ hy, Nat.testBit_two_pow_mul_add _ (by decide)]
    by_cases hi : i < 24
    · simp [hi]
    · simp only [hi, if_false, Bool.xor_self]
      rw [Nat.testBit_lt_two_pow (Nat.lt_of_lt_of_le hy (Nat.pow_le_pow_right (by omega) (by omega))), Nat.testBit_lt_two_pow (Nat.lt_of_lt_of_le (by decide) (Nat.pow_le_pow_right (n := 2) (by omega) (show 24 ≤ i by omega)))]
      rfl
  · have hm : c.msb = false := by rw [BitVec.msb_eq_decide]; simp; omega
    rw [if_neg h, hm]
    simp
    omega

theorem top_toNat (b : BitVec 8) : (top b).toNat = b.toNat * 65536 := by
  have := b.isLt
  unfold top
  rw [BitVec.toNat_shiftLeft, BitVec.toNat_setWidth, Nat.shiftLeft_eq]
  omega
end CrcP
