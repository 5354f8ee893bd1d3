/- The walk of LinearSerial. -/
import Derived.Test.YtojgibinokmmeaaApp
import Derived.Test.YtojgibinokmmeaaSer
import Derived.Test.YtojgibinokmmeaaStore
namespace Go.Proofs.Ytojgibinokmmeaa
open Go.RowKit SlRd Lin
set_option linter.unusedVariables false

theorem info3 : (Try.prog.info? 3).map (fun i => (i.zero, i.size, i.bytes)) = some (some (.int .i64 0), 1, 8) := by kernel_rfl
def NV (l : List Nat) : List Value := l.map fun n : Nat => Value.int .i64 n
/-- k events one behind the other, some of them reads -/
structure SInv (k : Nat) (now : ByteArray) (l : List Lin.Ev) (rs : List Nat) : Prop where
  n : l.length = k
  m : rs.length ≤ k
  o : Ord l
  e : ∀ x ∈ l, x.end_ ≤ 2 * k ∧ (x.op.kind = 1 ∨ x.op.kind = 2) ∧ x.data.size ≤ 1
  z : now.size ≤ 1
  r : Runs ⟨#[]⟩ l
  t : last ⟨#[]⟩ l = now
  rd : ∀ i ∈ rs, ∃ x, l[i]? = some x ∧ x.op.kind = 1
theorem SInv.start : SInv 0 ⟨#[]⟩ [] [] := ⟨rfl, Nat.le_refl _, Ord.nil, fun x h => (by cases h), (by decide), trivial, rfl, fun x h => (by cases h)⟩
theorem SInv.write {k : Nat} {now : ByteArray} {l : List Lin.Ev} {rs : List Nat} (h : SInv k now l rs) (s : ByteArray) (hs : s.size ≤ 1) : SInv (k + 1) s (l ++ [evW s (2 * k + 1) (2 * k + 2)]) rs := by
  refine ⟨by simp [h.n], by have := h.m; omega, h.o.snoc (by simp [sure, evW]; omega) (by simp [evW]) (fun y hy => by have := (h.e y hy).1; simp [evW]; omega), fun x hx => ?_, hs, (runs_snoc _ _ _).2 ⟨h.r, .inl rfl⟩, ?_, fun i hi => ?_⟩
  · rcases List.mem_append.1 hx with h1 | h1
    · have := h.e x h1
      exact ⟨by omega, this.2⟩
    · simp at h1
      subst h1
      exact ⟨by simp [evW]; omega, .inr rfl, by simp [evW]; decide⟩
  · rw [last_snoc]
    rfl
  · obtain ⟨x, hx, hk⟩ := h.rd i hi
    exact ⟨x, by rw [List.getElem?_append_left (List.getElem?_eq_some_iff.1 hx).1]; exact hx, hk⟩
theorem SInv.read {k : Nat} {now : ByteArray} {l : List Lin.Ev} {rs : List Nat} (h : SInv k now l rs) : SInv (k + 1) now (l ++ [evR now (2 * k + 1) (2 * k + 2)]) (rs ++ [k]) := by
  refine ⟨by simp [h.n], by have := h.m; simp; omega, h.o.snoc (by simp [sure, evR]; omega) (by simp [evR]) (fun y hy => by have := (h.e y hy).1; simp [evR]; omega), fun x hx => ?_, h.z, (runs_snoc _ _ _).2 ⟨h.r, .inr h.t.symm⟩, ?_, fun i hi => ?_⟩
  · rcases List.mem_append.1 hx with h1 | h1
    · have := h.e x h1
      exact ⟨by omega, this.2⟩
    · simp at h1
      subst h1
      exact ⟨by simp [evR]; omega, .inl rfl, by simp [evR]; exact h.z⟩
  · rw [last_snoc]
    unfold next
    rw [if_neg (by simp [evR])]
    exact h.t
  · rcases List.mem_append.1 hi with h1 | h1
    · obtain ⟨x, hx, hk⟩ := h.rd i h1
      exact ⟨x, by rw [List.getElem?_append_left (List.getElem?_eq_some_iff.1 hx).1]; exact hx, hk⟩
    · simp at h1
      subst h1
      exact ⟨_, by rw [List.getElem?_append_right (by rw [h.n]; exact Nat.le_refl _), h.n, Nat.sub_self]; rfl, rfl⟩
theorem SInv.yes {k : Nat} {now : ByteArray} {l : List Lin.Ev} {rs : List Nat} (h : SInv k now l rs) (hk : k ≤ 10) : chk ⟨#[]⟩ l = true := by
  have := chk_ord ⟨#[]⟩ h.o (fun x hx => (h.e x hx).2.1) [] (by simp) [] (by rw [List.append_nil]; exact h.o) (by simp)
  rw [List.append_nil, List.append_nil, h.n] at this
  exact this.2 ⟨by omega, h.r⟩
theorem append_ne (d s : ByteArray) (hs : 0 < s.size) : d ++ s ≠ d := fun h => by
  have := congrArg ByteArray.size h
  rw [ByteArray.size_append] at this
  omega
theorem SInv.no {k : Nat} {now : ByteArray} {l : List Lin.Ev} {rs : List Nat} (h : SInv k now l rs) {i : Nat} {x y : Lin.Ev} (hx : l[i]? = some x) (hk : x.op.kind = 1) (ho : y.op = x.op) (hb : y.begin_ = x.begin_) (he : y.end_ = x.end_) (hr : y.err = x.err) (hd : y.data ≠ x.data) :
    chk ⟨#[]⟩ (l.set i y) = false := by
  have hO := h.o.set hx hb he hr
  have hkk : ∀ z ∈ l.set i y, z.op.kind = 1 ∨ z.op.kind = 2 := by
    intro z hz
    rcases List.mem_or_eq_of_mem_set hz with h1 | rfl
    · exact (h.e z h1).2.1
    · rw [ho]; exact .inl hk
  have := chk_ord ⟨#[]⟩ hO hkk [] (by simp) [] (by rw [List.append_nil]; exact hO) (by simp)
  rw [List.append_nil, List.append_nil] at this
  rw [Bool.eq_false_iff, Ne, this]
  rintro ⟨_, h2⟩
  exact runs_other l _ i x y hx (by omega) ho hd h.r h2
def let4 (n : Nat) : ByteArray := if n = 0 then ⟨#[97]⟩ else if n = 1 then ⟨#[98]⟩ else if n = 2 then ⟨#[99]⟩ else ⟨#[100]⟩
theorem let4_size (n : Nat) : (let4 n).size ≤ 1 := by
  unfold let4
  repeat' split
  all_goals decide
theorem let4_cell (n : Nat) (hn : n < 4) (h : n < ([Value.string ⟨#[97]⟩, .string ⟨#[98]⟩, .string ⟨#[99]⟩, .string ⟨#[100]⟩] : List Value).length) : ([Value.string ⟨#[97]⟩, .string ⟨#[98]⟩, .string ⟨#[99]⟩, .string ⟨#[100]⟩] : List Value)[n]'h = .string (let4 n) := by
  rcases n with _ | _ | _ | _ | n
  · rfl
  · rfl
  · rfl
  · rfl
  · omega

set_option maxRecDepth 100000 in
set_option maxHeartbeats 3200000 in
theorem linearSerial_walk (raw : List Raw) (vr : Value) (wrong : Int) (w : World) (hr : Rd w 5 vr raw.length (raw.flatMap Raw.cs)) (hok : ∀ x ∈ raw, x.ok) (hrl : raw.length ≤ 140737488351232) (hwr : -9223372036854775808 ≤ wrong ∧ wrong ≤ 9223372036854775807) :
    Calls Try.prog 5 #[vr, .int .i64 wrong] w fun e w' => e = .returned (.bool true) ∧ Below w.heap.size w w' := by
  obtain ⟨a0, c0, rfl⟩ : ∃ a c, vr = .slice a raw.length c := by obtain ⟨_, a, c, rfl, _⟩ := hr; exact ⟨_, _, rfl⟩
  obtain ⟨i0, hi0, hz0, hz1, hz2⟩ := info_parts info3
  have HOK := Lib.hid hok
  have HW : Hid (∀ n : Nat, 0 < n → n ≤ 100 → ∀ W, Calls Try.prog 12 #[.int .i64 wrong, .int .i64 n] W fun e w' => e = .returned (.int .i64 (pk wrong n)) ∧ W = w') := Lib.hid fun n h1 h2 W => pick_any wrong n hwr (by omega) (by omega) W
  clear hok hwr
  go_enter Try.func5, Try.ntmps5
  go_wp2_with fail
  refine (awake_any _).mono ?_; rintro e w1 ⟨rfl, hb1⟩
  have hr1 := hr.below hb1
  clear hr
  go_wp2_with fail
  go_loopw [6, 7, 8, 9] (fun s v u i wr => ∃ k : Nat, k ≤ raw.length ∧ k ≤ 10 ∧ i = .int .i64 k ∧ ∃ now, s = .string now ∧ ∃ (l : List Lin.Ev) (rs : List Nat), Hid (SInv k now l rs) ∧ wr.ownsRow w1.heap.size 31 8 v k (l.flatMap Ecs) ∧ wr.ownsRow w1.heap.size 3 1 u rs.length (NV rs) ∧ Below w1.heap.size w1 wr) (fun _ _ _ i _ => raw.length - (intOf i).toNat)
  case atStart => exact ⟨0, Nat.zero_le _, Nat.zero_le _, rfl, _, rfl, [], [], Lib.hid SInv.start, World.ownsRow_nil _ _ _ _, World.ownsRow_nil _ _ _ _, Below.refl _ _⟩
  case round =>
    obtain ⟨k, hk, hkm, rfl, now, rfl, l, rs, HI, own7, own8, hb⟩ := hrel
    by_cases hlt : k < raw.length ∧ k < 10
    · obtain ⟨hlt, hlt2⟩ := hlt
      obtain ⟨b', o', rfl, hb0, hc0⟩ := Rd.atk Raw.cs (fun _ => rfl) (hr1.below hb) rfl k hlt
      have hx0 := HOK.out _ (List.getElem_mem hlt)
      generalize raw[k] = x at hc0 hx0
      obtain ⟨rk, rl, rb, rg, rh⟩ := x
      have p0 := hc0 0 (by omega); have p1 := hc0 1 (by omega)
      simp only [Raw.cs, List.getElem?_cons_zero, List.getElem?_cons_succ, Nat.add_zero] at p0 p1
      have HP1 := Lib.hid (pick_any rk 3 hx0.1 (by omega) (by omega))
      have HP2 := Lib.hid (pick_any rl 4 hx0.2.1 (by omega) (by omega))
      have b1 := pk_bd rk 3 (by omega)
      have b2 := pk_bd rl 4 (by omega)
      obtain ⟨pn, hpn⟩ : ∃ n : Nat, pk rl 4 = n := ⟨(pk rl 4).toNat, by omega⟩
      rw [hpn] at HP2 b2
      generalize pk rk 3 = q at HP1 b1
      clear hc0 hx0 hpn
      go_wp2_with fail
      refine (HP1.out _).mono ?_; rintro e w2 ⟨rfl, rfl⟩
      by_cases hq : q = 0
      · subst hq
        go_wp2_with (at_builtin; refine wpList_append_own _ rfl _ _ 22 rfl w1.heap.size 3 i0 _ 1 8 Try.underlying22 hi0 hz0 hz1 hz2 rfl (by decide) _ _ _ rfl (own8.alloc _) ⟨wr.heap.size, 0, none⟩ 1 1 [.int .i64 k] rfl rfl ?c1A ?c2A ?c3A ?c4A ?c5A ?_)
        case c1A =>
          intro j u hj
          rw [Go.WideShapes.add_plain, Nat.zero_add, World.cell?_alloc_at _ _ _ _ rfl]
          simpa using hj
        case c2A => intro u hu; simp at hu; subst hu; rfl
        case c3A => have := HI.out.m; unfold maxLen; omega
        case c4A => have := HI.out.m; omega
        case c5A => have := hb.size; simp; omega
        · intro v8 w2 own8' hgrow _
          have own7' := owns_other (own7.alloc (.cells #[.int .i64 k] 3)) (own8.alloc (.cells #[.int .i64 k] 3)) (by decide) hgrow
          have hb2 := (below_al hb (.cells #[.int .i64 k] 3)).grown hgrow (by have := hb.size; simp; omega) (fun q hq => (owns_lt own8 q hq).1)
          have HO8 : w2.ownsRow w1.heap.size 3 1 v8 (rs ++ [k]).length (NV (rs ++ [k])) := by
            rw [List.length_append]
            unfold NV
            rw [List.map_append]
            exact own8'
          have HS := Lib.hid HI.out.read
          clear own7 own8 own8' hgrow hb p0 p1 hb0
          generalize hrs : rs ++ [k] = rs' at HO8 HS
          have HRS := Lib.hid hrs
          clear hrs
          go_wp2_with fail
          refine (eventR_any now (2 * k + 1) (2 * k + 2) _).mono ?_; rintro e w3 ⟨rfl, hb3⟩
          have own73 := owns_below own7' hb3
          have own83 := owns_below HO8 hb3
          have hb13 := below_then hb2 hb3
          clear own7' HO8 hb2 hb3
          go_wp2_with (at_builtin; refine wpList_ev (by rfl) _ _ rfl w1 (below_al hb13 _) _ _ l rfl (own73.alloc _) _ 1 1 [evR now (2 * k + 1) (2 * k + 2)] rfl (lit_rd w3 [evR now (2 * k + 1) (2 * k + 2)]) (by omega) ?_)
          intro v4 w4 own4 hg4 hb4
          have own84 := Lib.hid (owns_other (own83.alloc _) (own73.alloc _) (by decide) hg4)
          have HO : Hid (w4.ownsRow w1.heap.size 31 8 v4 (k + 1) ((l ++ [evR now (2 * k + 1) (2 * k + 2)]).flatMap Ecs)) := by
            show World.ownsRow _ _ _ _ _ _ _
            simpa using own4
          have HB := Lib.hid hb4
          clear own73 own83 hb13 own4 hb4 hg4
          go_wp2_with fail
          go_roundw
          case rel => exact ⟨k + 1, by omega, by omega, by go_num, now, rfl, _, _, HS, HO.out, own84.out, HB.out⟩
          case measure => simp [intOf]; omega
      · have e0 : (q == 0) = false := by simpa using hq
        have hn4 : pn < 4 := by omega
        have i1 : (0 : Int) ≤ (pn : Int) := by omega
        have i2 : (pn : Int) < 4 := by omega
        have HC := Lib.hid (let4_cell pn (by omega))
        go_wp2_with fail
        refine (HP2.out _).mono ?_; rintro e w2 ⟨rfl, rfl⟩
        have hc := HC.out
        have hs4 := let4_size pn
        generalize let4 pn = s at hc hs4
        go_upto_region 12 with fail
        clear hc HC
        have own72 := own7.alloc (.cells #[.string ⟨#[97]⟩, .string ⟨#[98]⟩, .string ⟨#[99]⟩, .string ⟨#[100]⟩] 9)
        have own82 := own8.alloc (.cells #[.string ⟨#[97]⟩, .string ⟨#[98]⟩, .string ⟨#[99]⟩, .string ⟨#[100]⟩] 9)
        have hb2 := below_al hb (.cells #[.string ⟨#[97]⟩, .string ⟨#[98]⟩, .string ⟨#[99]⟩, .string ⟨#[100]⟩] 9)
        have HS := Lib.hid (HI.out.write s hs4)
        generalize wr.alloc (.cells #[.string ⟨#[97]⟩, .string ⟨#[98]⟩, .string ⟨#[99]⟩, .string ⟨#[100]⟩] 9) = w2 at own72 own82 hb2 ⊢
        clear own7 own8 hb p0 p1 hb0
        go_wp2_with fail
        refine (eventW_any s (2 * k + 1) (2 * k + 2) _).mono ?_; rintro e w3 ⟨rfl, hb3⟩
        have own73 := owns_below own72 hb3
        have own83 := owns_below own82 hb3
        have hb13 := below_then hb2 hb3
        clear own72 own82 hb2 hb3
        go_wp2_with (at_builtin; refine wpList_ev (by rfl) _ _ rfl w1 (below_al hb13 _) _ _ l rfl (own73.alloc _) _ 1 1 [evW s (2 * k + 1) (2 * k + 2)] rfl (lit_rd w3 [evW s (2 * k + 1) (2 * k + 2)]) (by omega) ?_)
        intro v4 w4 own4 hg4 hb4
        have own84 := Lib.hid (owns_other (own83.alloc _) (own73.alloc _) (by decide) hg4)
        have HO : Hid (w4.ownsRow w1.heap.size 31 8 v4 (k + 1) ((l ++ [evW s (2 * k + 1) (2 * k + 2)]).flatMap Ecs)) := by
          show World.ownsRow _ _ _ _ _ _ _
          simpa using own4
        have HB := Lib.hid hb4
        clear own73 own83 hb13 own4 hb4 hg4
        go_wp2_with fail
        go_roundw
        case rel => exact ⟨k + 1, by omega, by omega, by go_num, s, rfl, _, _, HS, HO.out, own84.out, HB.out⟩
        case measure => simp [intOf]; omega
    · have hfin : k = raw.length ∨ (k < raw.length ∧ k = 10) := by omega
      have hl := HI.out.n
      have hm := HI.out.m
      have HB0 := Lib.hid (below_then hb1 hb)
      have HY := HI.out.yes hkm
      have R7 := Rd.of_owns own7
      have HK1 : Hid (∀ W v, Rd W 8 v k (l.flatMap Ecs) → Calls Try.prog 14 #[.string ⟨#[]⟩, v] W fun e w' => e = .returned (.bool true) ∧ Below W.heap.size W w') := Lib.hid fun W v h => by
        rw [← HY]
        exact check_any ⟨#[]⟩ (by rw [hl]; exact h) (by omega)
      have R8 := Rd.of_owns own8
      obtain ⟨a8, c8, rfl⟩ : ∃ a c, u8 = .slice a rs.length c := by obtain ⟨_, a, c, hv, _⟩ := R8; exact ⟨a, c, hv⟩
      have HRS := Lib.hid HI.out.rd
      have hwb := hb.size
      have hw1 := hb1.size
      clear HY hr1
      rcases hfin with hk1 | ⟨hk0, hk1⟩
      all_goals
        subst hk1
        go_wp2_with fail
        refine (HK1.out _ _ R7).mono ?_; rintro e w2 ⟨rfl, hb2⟩
        have own72 := owns_below own7 hb2
        have R82 := R8.below hb2
        have HB2 := Lib.hid (below_then HB0.out hb2)
        have hw2 := hb2.size
        clear own7 own8 R7 R8 hb hb2
        by_cases hz : rs.length = 0
        · have hz2 : ((rs.length : Int) == 0) = true := by simpa using hz
          go_wp2_with fail
          go_ret
          exact ⟨rfl, HB2.out⟩
        · have hz2 : ((rs.length : Int) == 0) = false := by simpa using hz
          have hp := pk_bd wrong rs.length (by omega)
          obtain ⟨p, hpp⟩ : ∃ n : Nat, pk wrong rs.length = n := ⟨(pk wrong rs.length).toNat, by omega⟩
          have HW1 := Lib.hid (HW.out rs.length (by omega) (by omega))
          rw [hpp] at HW1 hp
          have hplt : p < rs.length := by omega
          obtain ⟨b8, o8, hv8, hb8, hc8⟩ := R82.at1 p hplt
          subst hv8
          unfold NV at hc8
          rw [List.getElem?_map, List.getElem?_eq_getElem hplt] at hc8
          obtain ⟨x, hx, hxk⟩ := HRS.out rs[p] (List.getElem_mem hplt)
          generalize rs[p] = i at hc8 hx
          have hil : i < l.length := (List.getElem?_eq_some_iff.1 hx).1
          obtain ⟨g, c', hv, hg1, hg2⟩ := own_head own72 (by omega)
          subst hv
          have hcx := own_cells own72 i x hx (by omega)
          have hxd := (HI.out.e x (List.mem_of_getElem? hx)).2.2
          obtain ⟨xp, xb, xe, ⟨xk, xa, xd⟩, xr, xt⟩ := x
          simp only at hxd hxk
          have p7 := (hcx 7 (by omega)).1; have f7 := (hcx 7 (by omega)).2
          simp only [Ecs, List.getElem?_cons_zero, List.getElem?_cons_succ] at p7 f7
          have hs1 := own_store own72 i _ ⟨xp, xb, xe, ⟨xk, xa, xd⟩, xr, xt ++ ⟨#[120]⟩⟩ 7 (.string (xt ++ ⟨#[120]⟩)) hx (by omega) rfl
          have hb3 := HB2.out.setCell (p := ⟨g, i * 8 + 7, none⟩) (show w.heap.size ≤ g by omega) (.string (xt ++ ⟨#[120]⟩))
          have HN := Lib.hid (HI.out.no (y := ⟨xp, xb, xe, ⟨xk, xa, xd⟩, xr, xt ++ ⟨#[120]⟩⟩) hx hxk rfl rfl rfl rfl (append_ne _ _ (by decide)))
          have R3 := Rd.of_owns hs1
          have HB3 := Lib.hid hb3
          have hli : (l.set i ⟨xp, xb, xe, ⟨xk, xa, xd⟩, xr, xt ++ ⟨#[120]⟩⟩).length = l.length := by simp
          generalize l.set i ⟨xp, xb, xe, ⟨xk, xa, xd⟩, xr, xt ++ ⟨#[120]⟩⟩ = l2 at R3 HN hli
          have HK2 := Lib.hid (fun W v n (hn : n = l2.length) (h : Rd W 8 v n (l2.flatMap Ecs)) => check_any (ls := l2) (vl := v) (w := W) ⟨#[]⟩ (by rw [← hn]; exact h) (by omega))
          rw [HN.out] at HK2
          have hl2 := Lib.hid (hli.trans hl).symm
          have i1 : (0 : Int) ≤ (i : Int) := by omega
          have i2 : (i : Int) < (l.length : Int) := by omega
          clear hb3 hs1 hcx own72 HN hpp
          go_wp2_with fail
          refine (HW1.out _).mono ?_; rintro e w3 ⟨rfl, rfl⟩
          go_wp2_with fail
          refine (HK2.out _ _ _ hl2.out R3).mono ?_; rintro e w4 ⟨rfl, hb4⟩
          have HB4 := Lib.hid (below_then HB3.out hb4)
          clear R3 hb4
          go_wp2_with fail
          go_ret
          exact ⟨rfl, HB4.out⟩
end Go.Proofs.Ytojgibinokmmeaa
