/- The walk of LinearParts. -/
import Derived.Test.YtojgibinokmmeaaApp
import Derived.Test.YtojgibinokmmeaaStore
namespace Go.Proofs.Ytojgibinokmmeaa
open Go.RowKit SlRd Lin
set_option linter.unusedVariables false

def zeroHow (x : Raw) : Raw := { x with how := 0 }
def evs0 (raw : List Raw) (k : Nat) : List Lin.Ev := (raw.take k).map fun x => evOf (zeroHow x)
theorem evs0_length (raw : List Raw) (k : Nat) : (evs0 raw k).length = min k raw.length := by simp [evs0]
theorem evs0_succ (raw : List Raw) (k : Nat) (h : k < raw.length) : evs0 raw (k + 1) = evs0 raw k ++ [evOf (zeroHow raw[k])] := by
  unfold evs0
  rw [List.take_succ_eq_append_getElem h, List.map_append]
  rfl
def sh (x : Lin.Ev) : Lin.Ev := { x with begin_ := x.begin_ + 100, end_ := if x.end_ = 0 then 0 else x.end_ + 100 }
theorem ev0_facts (x : Raw) : sure (evOf (zeroHow x)) = true ∧ (evOf (zeroHow x)).end_ < 60 ∧ cnt (evOf (zeroHow x)) = true := by
  have b1 := pk_bd x.begin_ 20 (by omega)
  have b2 := pk_bd x.long 8 (by omega)
  have h0 : pk (zeroHow x).how 7 = 0 := by simp [zeroHow, pk]
  have hs : sure (evOf (zeroHow x)) = true := by
    unfold evOf sure
    simp only
    rw [h0]
    simp [errOf]
    show ¬ 1 + pk x.begin_ 20 + 1 + pk x.long 8 = 0
    omega
  refine ⟨hs, ?_, ?_⟩
  · unfold evOf
    simp only
    rw [h0, if_neg (by omega)]
    show 1 + pk x.begin_ 20 + 1 + pk x.long 8 < 60
    omega
  · unfold cnt
    rw [hs]
    unfold evOf
    simp only
    rw [h0]
    split
    · rfl
    · split
      · simp
      · simp [errOf]
theorem evsOf_bds (raw : List Raw) (m : Nat) : ∀ x ∈ evsOf raw m, 1 ≤ x.begin_ ∧ x.begin_ ≤ 100 ∧ 0 ≤ x.end_ ∧ x.end_ ≤ 100 ∧ (x.end_ ≠ 0 → x.begin_ ≤ x.end_) := by
  intro x hx
  obtain ⟨y, _, rfl⟩ := List.mem_map.1 hx
  have b1 := pk_bd y.begin_ 20 (by omega)
  have b2 := pk_bd y.long 8 (by omega)
  unfold evOf
  simp only
  split <;> omega
theorem chk_parts (one : List Raw) (k : Nat) (hk : k ≤ 5) (c : ByteArray) (b : List Lin.Ev) (hb : b.length ≤ 5) (hbd : ∀ x ∈ b, 1 ≤ x.begin_ ∧ x.begin_ ≤ 100 ∧ 0 ≤ x.end_ ∧ x.end_ ≤ 100 ∧ (x.end_ ≠ 0 → x.begin_ ≤ x.end_)) :
    chk ⟨#[]⟩ (evs0 one k ++ [evR c 60 61] ++ b.map sh) = (chk ⟨#[]⟩ (evs0 one k ++ [evR c 60 61]) && chk c (b.map sh)) := by
  have hA : ∀ y ∈ evs0 one k, sure y = true ∧ y.end_ < 60 ∧ cnt y = true := by
    intro y hy
    obtain ⟨x, _, rfl⟩ := List.mem_map.1 hy
    exact ev0_facts x
  have hla : (evs0 one k).length ≤ 5 := by rw [evs0_length]; omega
  have hfa : (evs0 one k ++ [evR c 60 61]).filter cnt = evs0 one k ++ [evR c 60 61] := by
    rw [List.filter_eq_self]
    intro y hy
    rcases List.mem_append.1 hy with h | h
    · exact (hA y h).2.2
    · simp at h
      subst h
      simp [cnt, evR, sure]
  generalize evs0 one k = A at hA hfa hla
  have hlb := List.length_filter_le cnt (b.map sh)
  rw [List.length_map] at hlb
  rw [Bool.eq_iff_iff, Bool.and_eq_true, chk_iff, chk_iff, chk_iff, List.filter_append, hfa]
  have hp : (A ++ [evR c 60 61] ++ (b.map sh).filter cnt).Perm (evR c 60 61 :: A ++ (b.map sh).filter cnt) := by
    refine List.Perm.append_right _ ?_
    exact List.perm_append_comm
  have hp2 : (A ++ [evR c 60 61]).Perm (evR c 60 61 :: A) := List.perm_append_comm
  rw [Plays.perm_iff hp, Plays.perm_iff hp2]
  have hl1 : (A ++ [evR c 60 61]).length ≤ 12 := by simp; omega
  have hl2 : (A ++ [evR c 60 61] ++ (b.map sh).filter cnt).length ≤ 12 := by simp at hlb ⊢; omega
  have := parts (evR c 60 61) (by simp [sure, evR]) (by simp [evR]) _ ⟨#[]⟩ A ((b.map sh).filter cnt) rfl (fun y hy => ⟨(hA y hy).1, (hA y hy).2.1⟩) (by simp [evR]) (fun x hx => by
    obtain ⟨y, hy, rfl⟩ := List.mem_map.1 (List.mem_filter.1 hx).1
    have h1 := hbd y hy
    refine ⟨by simp [evR, sh]; omega, fun hs => ?_⟩
    unfold sure at hs
    have he : (sh y).end_ ≠ 0 := by simp at hs; exact hs.1
    unfold sh at he ⊢
    simp only at he ⊢
    split at he
    · exact absurd rfl he
    · rw [if_neg (by assumption)]
      have := h1.2.2.2.2 (by assumption)
      omega)
  constructor
  · rintro ⟨_, h⟩
    obtain ⟨h1, h2⟩ := this.1 h
    exact ⟨⟨hl1, h1⟩, by omega, h2⟩
  · rintro ⟨⟨_, h1⟩, _, h2⟩
    exact ⟨hl2, this.2 ⟨h1, h2⟩⟩
/-- a list of which the first k are moved on -/
def Upd (b : List Lin.Ev) (k : Nat) (ls : List Lin.Ev) : Prop := ∀ j, ls[j]? = if j < k then (b[j]?).map sh else b[j]?
theorem Upd.start (b : List Lin.Ev) : Upd b 0 b := fun j => by simp
theorem Upd.step {b ls : List Lin.Ev} {k : Nat} {x : Lin.Ev} (h : Upd b k ls) (hx : ls[k]? = some x) : Upd b (k + 1) (ls.set k (sh x)) := fun j => by
  have hk := h k
  rw [if_neg (by omega)] at hk
  obtain ⟨hlt, _⟩ := List.getElem?_eq_some_iff.1 hx
  rw [List.getElem?_set]
  by_cases hj : k = j
  · subst hj
    rw [if_pos rfl, if_pos hlt, if_pos (by omega), ← hk, hx]
    rfl
  · rw [if_neg hj, h j]
    by_cases hj2 : j < k
    · rw [if_pos hj2, if_pos (by omega)]
    · rw [if_neg hj2, if_neg (by omega)]
theorem Upd.done {b ls : List Lin.Ev} {k : Nat} (h : Upd b k ls) (hk : b.length ≤ k) : ls = b.map sh := by
  apply List.ext_getElem?
  intro j
  rw [h j, List.getElem?_map]
  split
  · rfl
  · rw [List.getElem?_eq_none (by omega)]
    rfl

set_option maxRecDepth 100000 in
set_option maxHeartbeats 3200000 in
theorem linearParts_walk (one : List Raw) (vo : Value) (two : List Raw) (vt : Value) (letter : Int) (w : World) (ho : Rd w 5 vo one.length (one.flatMap Raw.cs)) (hok : ∀ x ∈ one, x.ok) (hol : one.length ≤ 140737488351232)
    (ht : Rd w 5 vt two.length (two.flatMap Raw.cs)) (htk : ∀ x ∈ two, x.ok) (htl : two.length ≤ 140737488351232) (hle : -9223372036854775808 ≤ letter ∧ letter ≤ 9223372036854775807) :
    Calls Try.prog 10 #[vo, vt, .int .i64 letter] w fun e w' => e = .returned (.bool true) ∧ Below w.heap.size w w' := by
  obtain ⟨a0, c0, rfl⟩ : ∃ a c, vo = .slice a one.length c := by obtain ⟨_, a, c, rfl, _⟩ := ho; exact ⟨_, _, rfl⟩
  have HEV := Lib.hid (events5 two vt htk htl)
  have HOK := Lib.hid hok
  have hl5 : (evsOf two 5).length ≤ 5 := by rw [evsOf_length]; omega
  have HBD := Lib.hid (evsOf_bds two 5)
  generalize evsOf two 5 = b at HEV hl5 HBD
  have HP := Lib.hid (pick_any letter 5 hle (by omega) (by omega))
  have bp := pk_bd letter 5 (by omega)
  obtain ⟨pn, hpn⟩ : ∃ n : Nat, pk letter 5 = n := ⟨(pk letter 5).toNat, by omega⟩
  rw [hpn] at HP bp
  clear hok
  go_enter Try.func10, Try.ntmps10
  go_wp2_with fail
  refine (awake_any _).mono ?_; rintro e w1 ⟨rfl, hb1⟩
  have ho1 := ho.below hb1
  have ht1 := ht.below hb1
  clear ho ht
  go_wp2_with fail
  go_loopw [8, 9] (fun v i wr => ∃ k : Nat, k ≤ one.length ∧ k ≤ 5 ∧ i = .int .i64 k ∧ wr.ownsRow w1.heap.size 31 8 v (evs0 one k).length ((evs0 one k).flatMap Ecs) ∧ Below w1.heap.size w1 wr) (fun _ i _ => one.length - (intOf i).toNat)
  case atStart => exact ⟨0, Nat.zero_le _, Nat.zero_le _, rfl, World.ownsRow_nil _ _ _ _, Below.refl _ _⟩
  case round =>
    obtain ⟨k, hk, hkm, rfl, hown, hb⟩ := hrel
    have hlen : (evs0 one k).length ≤ k := by rw [evs0_length]; omega
    by_cases hlt : k < one.length ∧ k < 5
    · obtain ⟨hlt, hlt2⟩ := hlt
      obtain ⟨b', o', rfl, hb0, hc0⟩ := Rd.atk Raw.cs (fun _ => rfl) (ho1.below hb) rfl k hlt
      have HS := Lib.hid (evs0_succ one k hlt)
      have hx0 := HOK.out _ (List.getElem_mem hlt)
      have HX := Lib.hid (fun W => raw_any (zeroHow one[k]) ⟨hx0.1, hx0.2.1, hx0.2.2.1, hx0.2.2.2.1, by simp [zeroHow]⟩ W)
      generalize one[k] = x at hc0 HS HX hx0
      obtain ⟨rk, rl, rb, rg, rh⟩ := x
      unfold zeroHow at HS HX
      simp only at HS HX
      generalize evOf ⟨rk, rl, rb, rg, 0⟩ = E at HS HX
      have p0 := hc0 0 (by omega); have p1 := hc0 1 (by omega); have p2 := hc0 2 (by omega); have p3 := hc0 3 (by omega); have p4 := hc0 4 (by omega)
      simp only [Raw.cs, List.getElem?_cons_zero, List.getElem?_cons_succ, Nat.add_zero] at p0 p1 p2 p3 p4
      generalize evs0 one k = cs at hown hlen HS
      clear hc0 hx0
      go_upto_region 7 with fail
      have hal : Below wr.heap.size wr (wr.alloc (.cells #[.int .i64 rk, .int .i64 rl, .int .i64 rb, .int .i64 rg, .int .i64 rh] 39)) := (Below.refl _ _).alloc (Nat.le_refl _) _
      have hs2 : ((wr.alloc (.cells #[.int .i64 rk, .int .i64 rl, .int .i64 rb, .int .i64 rg, .int .i64 rh] 39)).setCell ⟨wr.heap.size, 4, none⟩ (.int .i64 0)) = (wr.alloc (.cells #[.int .i64 rk, .int .i64 rl, .int .i64 rb, .int .i64 rg, .int .i64 rh] 39)).setCell ⟨wr.heap.size, 4, none⟩ (.int .i64 0) := rfl
      have bX := (Blk.new wr 39 #[.int .i64 rk, .int .i64 rl, .int .i64 rb, .int .i64 rg, .int .i64 rh])
      have own2 := owns_below hown hal
      have hne : ∀ q, u8.ownBlock = some q → q ≠ wr.heap.size := fun q hq => Nat.ne_of_lt (owns_lt hown q hq).2
      have hb2 := below_then hb hal
      have hXb := hb.size
      generalize wr.alloc (.cells #[.int .i64 rk, .int .i64 rl, .int .i64 rb, .int .i64 rg, .int .i64 rh] 39) = w2 at own2 hb2 bX ⊢
      generalize wr.heap.size = X at bX hne hXb ⊢
      clear hown hb hal p0 p1 p2 p3 p4 hb0 hs2
      have y4 := bX.cell 4
      simp only [List.getElem?_toArray, List.getElem?_cons_zero, List.getElem?_cons_succ] at y4
      have f4 := bX.frozen 4
      go_upto_region 8 with fail
      have bX3 : Blk (w2.setCell ⟨X, 4, none⟩ (.int .i64 0)) X 39 #[.int .i64 rk, .int .i64 rl, .int .i64 rb, .int .i64 rg, .int .i64 0] := bX.set_ 4 _
      have own3 := owns_setCell own2 ⟨X, 4, none⟩ (.int .i64 0) hne
      have hb3 := hb2.setCell (p := ⟨X, 4, none⟩) hXb (.int .i64 0)
      generalize w2.setCell ⟨X, 4, none⟩ (.int .i64 0) = w3 at bX3 own3 hb3 ⊢
      clear own2 hb2 bX y4 f4
      have y0 := bX3.cell 0; have y1 := bX3.cell 1; have y2 := bX3.cell 2; have y3 := bX3.cell 3; have y4 := bX3.cell 4
      simp only [List.getElem?_toArray, List.getElem?_cons_zero, List.getElem?_cons_succ] at y0 y1 y2 y3 y4
      go_wp2_with fail
      refine (HX.out _).mono ?_; rintro e w4 ⟨rfl, hb4⟩
      have own4 := owns_below own3 hb4
      have hb14 := below_then hb3 hb4
      clear own3 hb3 hb4 y0 y1 y2 y3 y4 bX3
      obtain ⟨ep, eb, ee, ⟨ek, ea, ed⟩, er, et⟩ := E
      go_wp2_with (at_builtin; refine wpList_ev (by rfl) _ _ rfl w1 (below_al hb14 _) _ _ cs rfl (own4.alloc _) _ 1 1 [⟨ep, eb, ee, ⟨ek, ea, ed⟩, er, et⟩] rfl (lit_rd w4 [⟨ep, eb, ee, ⟨ek, ea, ed⟩, er, et⟩]) (by omega) ?_)
      intro v' w8 hown' _ hb8
      have HO : Hid (w8.ownsRow w1.heap.size 31 8 v' (evs0 one (k + 1)).length ((evs0 one (k + 1)).flatMap Ecs)) := by
        show World.ownsRow _ _ _ _ _ _ _
        rw [HS.out, List.length_append, List.flatMap_append, List.flatMap_singleton]
        exact hown'
      have HB := Lib.hid hb8
      clear hown' own4 hb14 hb8
      go_wp2_with fail
      go_roundw
      case rel => exact ⟨k + 1, by omega, by omega, by go_num, HO.out, HB.out⟩
      case measure => simp [intOf]; omega
    · have hfin : k = one.length ∨ (k < one.length ∧ k = 5) := by omega
      have HQ := Lib.hid (fun c => chk_parts one k hkm c b hl5 HBD.out)
      have hA5 : (evs0 one k).length ≤ 5 := by omega
      generalize evs0 one k = A at hown HQ hA5
      have hc2 : ∀ h : pn < ([Value.string ⟨#[]⟩, .string ⟨#[97]⟩, .string ⟨#[98]⟩, .string ⟨#[99]⟩, .string ⟨#[100]⟩] : List Value).length, ([Value.string ⟨#[]⟩, .string ⟨#[97]⟩, .string ⟨#[98]⟩, .string ⟨#[99]⟩, .string ⟨#[100]⟩] : List Value)[pn]'h = .string (lett pn) := by
        intro h
        have := lett_cell pn (by omega) w
        rw [World.cell?_alloc_at _ _ _ _ rfl, List.getElem?_toArray, List.getElem?_eq_getElem h] at this
        exact Option.some.inj this
      have HQ := Lib.hid (HQ.out (lett pn))
      generalize lett pn = c at hc2 HQ
      have HC := Lib.hid hc2
      have hn5 : pn < 5 := by omega
      have i1 : (0 : Int) ≤ (pn : Int) := by omega
      have i2 : (pn : Int) < 5 := by omega
      clear hc2 hlen ho1
      rcases hfin with hk1 | ⟨hk0, hk1⟩
      all_goals
        subst hk1
        go_wp2_with fail
        refine (HP.out _).mono ?_; rintro e w2 ⟨rfl, rfl⟩
        have hc := HC.out
        go_upto_region 10 with fail
        clear hc
        have own2 := hown.alloc (.cells #[.string ⟨#[]⟩, .string ⟨#[97]⟩, .string ⟨#[98]⟩, .string ⟨#[99]⟩, .string ⟨#[100]⟩] 9)
        have hb2 := below_al hb (.cells #[.string ⟨#[]⟩, .string ⟨#[97]⟩, .string ⟨#[98]⟩, .string ⟨#[99]⟩, .string ⟨#[100]⟩] 9)
        generalize wr.alloc (.cells #[.string ⟨#[]⟩, .string ⟨#[97]⟩, .string ⟨#[98]⟩, .string ⟨#[99]⟩, .string ⟨#[100]⟩] 9) = w2 at own2 hb2 ⊢
        clear hown hb
        go_wp2_with fail
        refine (eventR_any c 60 61 _).mono ?_; rintro e w3 ⟨rfl, hb3⟩
        have own3 := owns_below own2 hb3
        have hb13 := below_then hb2 hb3
        clear own2 hb2 hb3
        go_wp2_with (at_builtin; refine wpList_ev (by rfl) _ _ rfl w1 (below_al hb13 _) _ _ A rfl (own3.alloc _) _ 1 1 [evR c 60 61] rfl (lit_rd w3 [evR c 60 61]) (by omega) ?_)
        intro v4 w4 own4 _ hb14
        have own4' : w4.ownsRow w1.heap.size 31 8 v4 (A.length + 1) ((A ++ [evR c 60 61]).flatMap Ecs) := by
          rw [List.flatMap_append, List.flatMap_singleton]
          exact own4
        have hl4 : (A ++ [evR c 60 61]).length = A.length + 1 := by simp
        have HL4 := Lib.hid hl4
        generalize A ++ [evR c 60 61] = A1 at own4' HQ HL4
        clear own3 hb13 own4 hl4
        go_wp2_with fail
        refine (HEV.out _ (ht1.below hb14)).mono ?_; rintro e w5 ⟨v5, rfl, own5, hb45⟩
        have hb05 := below_then hb1 (below_then hb14 hb45)
        have hw45 := hb45.size
        have hw04 := (below_then hb1 hb14).size
        have r4 := Rd.of_owns own4'
        obtain ⟨a4, c4, rfl⟩ : ∃ a c, v4 = .slice a (A.length + 1) c := by obtain ⟨_, a, c, hv, _⟩ := r4; exact ⟨a, c, hv⟩
        obtain ⟨a5, c5, rfl⟩ : ∃ a c, v5 = .slice a b.length c := by obtain ⟨_, a, c, hv, _⟩ := Rd.of_owns own5; exact ⟨a, c, hv⟩
        generalize hn : b.length = n at own5 hl5
        have own5' : ∃ ls : List Lin.Ev, ls.length = n ∧ w5.ownsRow w4.heap.size 31 8 (.slice a5 n c5) n (ls.flatMap Ecs) ∧ Hid (Upd b 0 ls) := ⟨b, hn, own5, Lib.hid (Upd.start b)⟩
        clear own4' own5 hb1 hb14 ht1
        go_wp2_with fail
        go_loopw [13] (fun i wr => ∃ k : Nat, k ≤ n ∧ i = .int .i64 k ∧ (∃ ls : List Lin.Ev, ls.length = n ∧ wr.ownsRow w4.heap.size 31 8 (.slice a5 n c5) n (ls.flatMap Ecs) ∧ Hid (Upd b k ls)) ∧ Below w4.heap.size w5 wr) (fun i _ => n - (intOf i).toNat)
        case atStart => exact ⟨0, Nat.zero_le _, rfl, own5', Below.refl _ _⟩
        case round =>
          obtain ⟨k, hk, rfl, ⟨ls, hls, own1, HU⟩, hb⟩ := hrel
          by_cases hlt : k < n
          · obtain ⟨x, hx⟩ : ∃ x, ls[k]? = some x := ⟨_, List.getElem?_eq_getElem (by omega)⟩
            have hxb : x ∈ b := by
              have h1 := HU.out k
              rw [if_neg (by omega), hx] at h1
              exact List.mem_of_getElem? h1.symm
            have HBX := HBD.out x hxb
            have HU1 := Lib.hid (HU.out.step hx)
            obtain ⟨g, c', hv, hg1, hg2⟩ := own_head own1 (by omega)
            cases hv
            have hc0 := own_cells own1 k x hx (by omega)
            obtain ⟨xp, xb, xe, ⟨xk, xa, xd⟩, xr, xt⟩ := x
            simp only at HBX
            have p1 := (hc0 1 (by omega)).1; have f1 := (hc0 1 (by omega)).2
            simp only [Ecs, List.getElem?_cons_zero, List.getElem?_cons_succ] at p1 f1
            have q1 := own_store own1 k _ ⟨xp, xb + 100, xe, ⟨xk, xa, xd⟩, xr, xt⟩ 1 (.int .i64 (xb + 100)) hx (by omega) rfl
            have x1 : (ls.set k ⟨xp, xb + 100, xe, ⟨xk, xa, xd⟩, xr, xt⟩)[k]? = some ⟨xp, xb + 100, xe, ⟨xk, xa, xd⟩, xr, xt⟩ := List.getElem?_set_self (by omega)
            have hb6 := hb.setCell (p := ⟨g, k * 8 + 1, none⟩) hg1 (.int .i64 (xb + 100))
            have HN := Lib.hid hn
            have HNB := Lib.hid hxb
            clear hc0 hn hxb
            go_upto_region 16 with fail
            have hc1 := own_cells q1 k _ x1 (by simp; omega)
            generalize wr.setCell ⟨g, k * 8 + 1, none⟩ (.int .i64 (xb + 100)) = w6 at q1 hb6 hc1 ⊢
            clear own1 hb p1 f1
            have p2 := (hc1 2 (by omega)).1; have f2 := (hc1 2 (by omega)).2
            simp only [Ecs, List.getElem?_cons_zero, List.getElem?_cons_succ] at p2 f2
            have q2 := own_store q1 k _ ⟨xp, xb + 100, xe + 100, ⟨xk, xa, xd⟩, xr, xt⟩ 2 (.int .i64 (xe + 100)) x1 (by omega) rfl
            rw [List.set_set] at q2
            have hb7 := hb6.setCell (p := ⟨g, k * 8 + 2, none⟩) hg1 (.int .i64 (xe + 100))
            have Q1 := Lib.hid q1
            have Q2 := Lib.hid q2
            clear q1 q2 hc1 hx x1
            by_cases he : xe = 0
            · subst he
              have HS : Hid (sh ⟨xp, xb, 0, ⟨xk, xa, xd⟩, xr, xt⟩ = ⟨xp, xb + 100, 0, ⟨xk, xa, xd⟩, xr, xt⟩) := Lib.hid rfl
              rw [HS.out] at HU1
              go_wp2_with fail
              go_roundw
              case rel => exact ⟨k + 1, by omega, by go_num, ⟨_, by simp [hls], Q1.out, HU1⟩, hb6⟩
              case measure => simp [intOf]; omega
            · have he2 : (xe != 0) = true := by simpa using he
              have HS : Hid (sh ⟨xp, xb, xe, ⟨xk, xa, xd⟩, xr, xt⟩ = ⟨xp, xb + 100, xe + 100, ⟨xk, xa, xd⟩, xr, xt⟩) := Lib.hid (by unfold sh; simp [he])
              rw [HS.out] at HU1
              go_wp2_with fail
              go_roundw
              case rel => exact ⟨k + 1, by omega, by go_num, ⟨_, by simp [hls], Q2.out, HU1⟩, hb7⟩
              case measure => simp [intOf]; omega
          · have hkn : k = n := by omega
            subst hkn
            have HLS := Lib.hid (HU.out.done (by omega))
            have HQ2 : Hid (chk ⟨#[]⟩ (A1 ++ ls) = (chk ⟨#[]⟩ A1 && chk c ls)) := Lib.hid (by rw [HLS.out]; exact HQ.out)
            have R4 := r4.below (hb45.trans hb)
            have R5 := Rd.of_owns own1
            have hb6 := hb05.trans (hb.mono hw04)
            have HK1 : Hid (∀ W v, Rd W 8 v (A.length + 1 + k) ((A1 ++ ls).flatMap Ecs) → Calls Try.prog 14 #[.string ⟨#[]⟩, v] W fun e w' => e = .returned (.bool (chk ⟨#[]⟩ (A1 ++ ls))) ∧ Below W.heap.size W w') := Lib.hid fun W v h => by
              have hll : (A1 ++ ls).length = A.length + 1 + k := by rw [List.length_append, HL4.out, hls]
              exact check_any ⟨#[]⟩ (by rw [hll]; exact h) (by omega)
            have HK2 : Hid (∀ W v, Rd W 8 v (A.length + 1) (A1.flatMap Ecs) → Calls Try.prog 14 #[.string ⟨#[]⟩, v] W fun e w' => e = .returned (.bool (chk ⟨#[]⟩ A1)) ∧ Below W.heap.size W w') := Lib.hid fun W v h => check_any ⟨#[]⟩ (by rw [HL4.out]; exact h) (by rw [HL4.out]; omega)
            have HK3 : Hid (∀ W v, Rd W 8 v k (ls.flatMap Ecs) → Calls Try.prog 14 #[.string c, v] W fun e w' => e = .returned (.bool (chk c ls)) ∧ Below W.heap.size W w') := Lib.hid fun W v h => check_any c (by rw [hls]; exact h) (by omega)
            rw [HQ2.out] at HK1
            clear HQ HQ2 HLS r4 hb45 hb own1 hb05 HU
            generalize chk ⟨#[]⟩ A1 = q1 at HK1 HK2
            generalize chk c ls = q2 at HK1 HK3
            go_wp2_with (at_builtin; refine wpList_ev (by rfl) _ _ rfl wr (Below.refl _ _) (.slice none 0 0) 0 [] rfl (World.ownsRow_nil _ _ _ _) a4 (A.length + 1) c4 A1 rfl R4 (by omega) ?_)
            intro v7 w7 own7 _ hb7
            have R57 := R5.below hb7
            go_wp2_with (at_builtin; refine wpList_ev (by rfl) _ _ rfl wr hb7 v7 (A.length + 1) A1 rfl own7 a5 k c5 ls rfl R57 (by omega) ?_)
            intro v8 w8 own8 _ hb8
            have own8' : w8.ownsRow wr.heap.size 31 8 v8 (A.length + 1 + k) ((A1 ++ ls).flatMap Ecs) := by
              rw [List.flatMap_append]
              exact own8
            have R8 := Rd.of_owns own8'
            clear own7 R57 hb7 own8 own8'
            go_wp2_with fail
            refine (HK1.out _ _ R8).mono ?_; rintro e w9 ⟨rfl, hb9⟩
            have hb29 := hb8.trans (hb9.mono hb8.size)
            have R49 := R4.below hb29
            clear R8 hb8 hb9
            go_wp2_with fail
            refine (HK2.out _ _ R49).mono ?_; rintro e w10 ⟨rfl, hb10⟩
            have hb30 := below_then hb29 hb10
            have R510 := R5.below hb30
            clear R49 hb29 hb10
            cases q1
            · have HB := Lib.hid (below_then hb6 hb30)
              clear R510 hb30 hb6 R4 R5
              go_wp2_with fail
              go_ret
              exact ⟨rfl, HB.out⟩
            · go_wp2_with fail
              refine (HK3.out _ _ R510).mono ?_; rintro e w11 ⟨rfl, hb11⟩
              have HB := Lib.hid (below_then hb6 (below_then hb30 hb11))
              clear R510 hb30 hb6 hb11 R4 R5
              cases q2
              · go_wp2_with fail
                go_ret
                exact ⟨rfl, HB.out⟩
              · go_wp2_with fail
                go_ret
                exact ⟨rfl, HB.out⟩
end Go.Proofs.Ytojgibinokmmeaa
