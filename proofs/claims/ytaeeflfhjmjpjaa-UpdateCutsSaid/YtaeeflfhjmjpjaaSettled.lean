/- The walk of law15.settled: columns behind asks to settle. -/
import Derived.Test.YtaeeflfhjmjpjaaApply
import Derived.Test.YtaeeflfhjmjpjaaRows2
import Derived.Deep.AppendLies
namespace Go.Proofs.Ytaeeflfhjmjpjaa
open Go.RowKit SlRd
set_option linter.unusedVariables false

instance : Inhabited Ak := ⟨⟨0, 0, 0, 0, 0, 0, ⟨0, 0⟩, ⟨#[]⟩⟩⟩
/-- an ask to settle that may be -/
def QOk (q : Ak) : Prop := ∃ mask old, q = askSettle 1 5 mask old ∧ (mask = 0 ∨ mask = 1) ∧ 0 ≤ old.e ∧ old.e < 5 ∧ 0 ≤ old.s ∧ old.s ≤ 16777215
def ROk (r : Rc) : Prop := r.right ∧ r.fence = 5
def stepS (L : List Rc) (c : Nat) (q : Ak) : List Rc := L.set c (settleR (L.getD c default) q.mask q.old)
def foldS (l : List Rc) (cs : List Nat) (qs : List Ak) (k : Nat) : List Rc := (List.range k).foldl (fun L i => stepS L (cs.getD i 0) (qs.getD i default)) l
theorem foldS_succ (l : List Rc) (cs : List Nat) (qs : List Ak) (k : Nat) : foldS l cs qs (k + 1) = stepS (foldS l cs qs k) (cs.getD k 0) (qs.getD k default) := by
  unfold foldS
  rw [List.range_succ, List.foldl_append]
  rfl
theorem foldS_len (l : List Rc) (cs : List Nat) (qs : List Ak) : ∀ k, (foldS l cs qs k).length = l.length
  | 0 => rfl
  | k + 1 => by rw [foldS_succ]; unfold stepS; rw [List.length_set, foldS_len l cs qs k]
theorem settleR_ok {r : Rc} (h : ROk r) (mask : Int) (old : Tg) : ROk (settleR r mask old) := by
  obtain ⟨hr, hf⟩ := h
  have z : Tg.ok ⟨0, 0⟩ := ⟨by show (0 : Int) ≤ 0; omega, by show (0 : Int) ≤ 16777215; omega, by show (0 : Int) ≤ 0; omega, by show (0 : Int) ≤ 16777215; omega⟩
  unfold settleR
  split
  · rename_i hc
    rw [Bool.and_eq_true] at hc
    split
    · exact ⟨⟨rfl, hr.intent, z, hr.fence, ⟨by show (0 : Int) ≤ 0; omega, by show (0 : Int) ≤ 63; omega⟩, hr.opened hc.1, (fun h => by cases h), fun _ => ⟨rfl, rfl, rfl⟩⟩, hf⟩
    · exact ⟨⟨rfl, hr.done, z, hr.fence, ⟨by show (0 : Int) ≤ 0; omega, by show (0 : Int) ≤ 63; omega⟩, hr.block, (fun h => by cases h), fun _ => ⟨rfl, rfl, rfl⟩⟩, hf⟩
  · exact ⟨hr, hf⟩
theorem foldS_ok {l : List Rc} (cs : List Nat) (qs : List Ak) (h : ∀ r ∈ l, ROk r) : ∀ k, ∀ r ∈ foldS l cs qs k, ROk r
  | 0 => h
  | k + 1 => by
    rw [foldS_succ]
    intro r hr
    unfold stepS at hr
    by_cases hc : cs.getD k 0 < (foldS l cs qs k).length
    · rcases List.mem_or_eq_of_mem_set hr with h1 | rfl
      · exact foldS_ok cs qs h k r h1
      · rw [List.getD_eq_getElem?_getD, List.getElem?_eq_getElem hc]
        exact settleR_ok (foldS_ok cs qs h k _ (List.getElem_mem hc)) _ _
    · rw [List.set_eq_of_length_le (by omega)] at hr
      exact foldS_ok cs qs h k r hr
theorem apply_ok (r : Rc) (q : Ak) (hr : ROk r) (hq : QOk q) (w : World) :
    Calls Try.prog 36 #[r.v, q.v] w fun e w' => e = .returned (.tuple #[(settleR r q.mask q.old).v, sayV 1 5 nilRc]) ∧ Below w.heap.size w w' := by
  obtain ⟨mask, old, rfl, hm, h1, h2, h3, h4⟩ := hq
  exact apply6 r hr.1 1 5 mask old (by omega) (by omega) (by omega) (by omega) hm h1 h2 h3 h4 hr.2 w

theorem ten {W : World} {g c : Nat} {L : List Rc} {r : Rc} (h : RowsOf Rc.cs 10 W g L) (hc : c < L.length) (hr : L[c] = r) :
    W.cell? ⟨g, c * 10, none⟩ = some (.bool r.used) ∧ W.cell? ⟨g, c * 10 + 1, none⟩ = some (.int .i64 r.fence) ∧ W.cell? ⟨g, c * 10 + 2, none⟩ = some (.int .i64 r.done.e) ∧ W.cell? ⟨g, c * 10 + 3, none⟩ = some (.int .i64 r.done.s) ∧ W.cell? ⟨g, c * 10 + 4, none⟩ = some (.string r.block) ∧ W.cell? ⟨g, c * 10 + 5, none⟩ = some (.bool r.op) ∧ W.cell? ⟨g, c * 10 + 6, none⟩ = some (.int .i64 r.intent.e) ∧ W.cell? ⟨g, c * 10 + 7, none⟩ = some (.int .i64 r.intent.s) ∧ W.cell? ⟨g, c * 10 + 8, none⟩ = some (.int .i64 r.mask) ∧ W.cell? ⟨g, c * 10 + 9, none⟩ = some (.string r.staged) ∧ W.frozen? ⟨g, c * 10, none⟩ = false ∧ W.frozen? ⟨g, c * 10 + 1, none⟩ = false ∧ W.frozen? ⟨g, c * 10 + 2, none⟩ = false ∧ W.frozen? ⟨g, c * 10 + 3, none⟩ = false ∧ W.frozen? ⟨g, c * 10 + 4, none⟩ = false ∧ W.frozen? ⟨g, c * 10 + 5, none⟩ = false ∧ W.frozen? ⟨g, c * 10 + 6, none⟩ = false ∧ W.frozen? ⟨g, c * 10 + 7, none⟩ = false ∧ W.frozen? ⟨g, c * 10 + 8, none⟩ = false ∧ W.frozen? ⟨g, c * 10 + 9, none⟩ = false := by
  have P := h c hc
  rw [hr] at P
  exact ⟨(P 0 (by omega)).1, (P 1 (by omega)).1, (P 2 (by omega)).1, (P 3 (by omega)).1, (P 4 (by omega)).1, (P 5 (by omega)).1, (P 6 (by omega)).1, (P 7 (by omega)).1, (P 8 (by omega)).1, (P 9 (by omega)).1, (P 0 (by omega)).2, (P 1 (by omega)).2, (P 2 (by omega)).2, (P 3 (by omega)).2, (P 4 (by omega)).2, (P 5 (by omega)).2, (P 6 (by omega)).2, (P 7 (by omega)).2, (P 8 (by omega)).2, (P 9 (by omega)).2⟩

set_option maxRecDepth 100000 in
set_option maxHeartbeats 1600000 in
theorem settled_any {w : World} (l : List Rc) (cs : List Nat) (qs : List Ak) (many : Nat) (vl vc vq : Value) (hl : Rd w 10 vl l.length (l.flatMap Rc.cs)) (hc : Rd w 1 vc cs.length (NV cs)) (hq : Rd w 9 vq qs.length (qs.flatMap Ak.cs))
    (hlen : cs.length = qs.length) (h0 : 0 < l.length) (h6 : l.length ≤ 6) (hc6 : cs.length ≤ 6) (hin : ∀ i ∈ cs, i < l.length) (hok : ∀ r ∈ l, ROk r) (hqk : ∀ q ∈ qs, QOk q) :
    Calls Try.prog 18 #[vl, vc, vq, .int .i64 many] w fun e w' => ∃ v, e = .returned v ∧ Rd w' 10 v l.length ((foldS l cs qs (min cs.length many)).flatMap Rc.cs) ∧ Below w.heap.size w w' := by
  have HOk := Lib.hid (foldS_ok cs qs hok)
  have HQk := Lib.hid hqk
  have HIn := Lib.hid hin
  have HLen := Lib.hid hlen
  have HFl := Lib.hid (foldS_len l cs qs)
  have HFs := Lib.hid (foldS_succ l cs qs)
  obtain ⟨j0, hj, hy0, hy1, hy2⟩ := info_parts info37
  obtain ⟨hl1, ao, cl, rfl, hlc⟩ := hl
  obtain ⟨bl, ol, rfl, hbl, hcell⟩ := hlc h0
  obtain ⟨ac, cc, rfl⟩ : ∃ a c, vc = .slice a cs.length c := by obtain ⟨_, a, c, rfl, _⟩ := hc; exact ⟨_, _, rfl⟩
  obtain ⟨aq, cq, rfl⟩ : ∃ a c, vq = .slice a qs.length c := by obtain ⟨_, a, c, rfl, _⟩ := hq; exact ⟨_, _, rfl⟩
  have hl1' := Lib.hid hl1
  have hcell' := Lib.hid hcell
  clear hlc hok hqk hin hlen hl1 hcell
  have hq6 : qs.length ≤ 6 := by have := HLen.out; omega
  obtain ⟨m, hm⟩ : ∃ m, m = min cs.length many := ⟨_, rfl⟩
  have hm1 : m ≤ cs.length := by omega
  have hm2 : m ≤ many := by omega
  have HM : Hid (m = min cs.length many) := hm
  rw [← hm]
  clear hm
  go_enter Try.func18, Try.ntmps18
  go_wp2_with (at_builtin; refine wpList_append_own _ rfl _ _ 26 rfl w.heap.size 37 j0 _ 10 96 Try.underlying26 hj hy0 hy1 hy2 rfl (by decide) _ 0 [] rfl (World.ownsRow_nil _ _ _ _) ⟨bl, ol, none⟩ l.length cl (l.flatMap Rc.cs) rfl hl1'.out ?e1 ?e2 ?e3 ?e4 ?e5 ?_)
  case e1 =>
    intro j u hj
    rw [Go.WideShapes.add_plain, hcell'.out j (by rw [← hl1'.out]; exact (List.getElem?_eq_some_iff.1 hj).1)]
    exact hj
  case e2 =>
    intro u hu
    obtain ⟨r, _, hr⟩ := List.mem_flatMap.1 hu
    simp only [Rc.cs, List.mem_cons, List.not_mem_nil, or_false] at hr
    rcases hr with rfl | rfl | rfl | rfl | rfl | rfl | rfl | rfl | rfl | rfl <;> rfl
  case e3 => unfold maxLen; omega
  case e4 => omega
  case e5 => omega
  · intro v1 w1 o1 hg1 _
    have o1 : w1.ownsRow w.heap.size 37 10 v1 l.length (l.flatMap Rc.cs) := by simpa using o1
    have hb1 : Below w.heap.size w w1 := (Below.refl _ _).grown hg1 (Nat.le_refl _) (fun q hq => by cases hq)
    obtain ⟨g, cap, rfl, hgb, hgl⟩ := o1.form h0
    have hRW : RowsOf Rc.cs 10 w1 g (foldS l cs qs 0) := RowsOf.of_owns (fun _ => rfl) o1 rfl
    clear o1 hg1
    go_wp2_with fail
    go_loopw [10, 11] (fun i _ wr => ∃ k : Nat, k ≤ m ∧ i = .int .i64 k ∧ RowsOf Rc.cs 10 wr g (foldS l cs qs k) ∧ Below w.heap.size w wr ∧ g < wr.heap.size) (fun i _ _ => m - (intOf i).toNat)
    case atStart => exact ⟨0, Nat.zero_le _, rfl, hRW, hb1, hgl⟩
    case round =>
      obtain ⟨k, hk, rfl, hRk, hb, hgl2⟩ := hrel
      have hlq : (cs.length : Int) = (qs.length : Int) := by have := HLen.out; omega
      by_cases hlt : k < m
      · have k1 : (k : Int) < (cs.length : Int) := by omega
        have k2 : (k : Int) < (qs.length : Int) := by omega
        have k3 : (k : Int) < (many : Int) := by omega
        have k0 : (0 : Int) ≤ (k : Int) := by omega
        obtain ⟨bc, oc, rfl, _, hc1⟩ := (hc.below hb).at1 k (by omega)
        obtain ⟨bq, oq, rfl, _, hq1⟩ := Rd.atk Ak.cs (fun _ => rfl) (hq.below hb) rfl k (by omega)
        have hkc : k < cs.length := by omega
        have hkq : k < qs.length := by omega
        unfold NV at hc1
        rw [List.getElem?_map, List.getElem?_eq_getElem hkc] at hc1
        simp only [Option.map_some] at hc1
        have hcl := HIn.out _ (List.getElem_mem hkc)
        have hqo := Lib.hid (HQk.out _ (List.getElem_mem hkq))
        have hS := HFs.out k
        have e1 : cs.getD k 0 = cs[k] := by rw [List.getD_eq_getElem?_getD, List.getElem?_eq_getElem hkc]; rfl
        have e2 : qs.getD k default = qs[k] := by rw [List.getD_eq_getElem?_getD, List.getElem?_eq_getElem hkq]; rfl
        rw [e1, e2] at hS
        clear e1 e2
        generalize cs[k] = c at hc1 hcl hS
        generalize qs[k] = q at hq1 hqo hS
        have hcf : c < (foldS l cs qs k).length := by rw [HFl.out]; exact hcl
        have hrow := fun j hj => (hRk c hcf j hj).1
        have hro := Lib.hid (HOk.out k _ (List.getElem_mem hcf))
        have hset := fun x => hRk.set (fun _ => rfl) c hcf x
        have hthere := hRk.there (fun _ => rfl) c hcf
        have e3 : (foldS l cs qs k).getD c default = (foldS l cs qs k)[c] := by rw [List.getD_eq_getElem?_getD, List.getElem?_eq_getElem hcf]; rfl
        unfold stepS at hS
        rw [e3] at hS
        have HS := Lib.hid hS
        clear hS e3
        generalize hr : (foldS l cs qs k)[c] = r at hrow hro HS
        have HRr := Lib.hid hr
        clear hr
        have p0 := hrow 0 (by omega); have p1 := hrow 1 (by omega); have p2 := hrow 2 (by omega); have p3 := hrow 3 (by omega); have p4 := hrow 4 (by omega); have p5 := hrow 5 (by omega); have p6 := hrow 6 (by omega); have p7 := hrow 7 (by omega); have p8 := hrow 8 (by omega); have p9 := hrow 9 (by omega)
        simp only [Rc.cs, List.getElem?_cons_zero, List.getElem?_cons_succ, Nat.add_zero] at p0 p1 p2 p3 p4 p5 p6 p7 p8 p9
        have q0 := hq1 0 (by omega); have q1 := hq1 1 (by omega); have q2 := hq1 2 (by omega); have q3 := hq1 3 (by omega); have q4 := hq1 4 (by omega); have q5 := hq1 5 (by omega); have q6 := hq1 6 (by omega); have q7 := hq1 7 (by omega); have q8 := hq1 8 (by omega)
        simp only [Ak.cs, List.getElem?_cons_zero, List.getElem?_cons_succ, Nat.add_zero] at q0 q1 q2 q3 q4 q5 q6 q7 q8
        have c0 : (0 : Int) ≤ (c : Int) := by omega
        have c1 : (c : Int) < (l.length : Int) := by omega
        have HRk := Lib.hid hRk
        clear hrow hq1 hset hthere hRk
        go_upto_region 7 with fail
        have hs1 : ∀ W', Below wr.heap.size wr W' → RowsOf Rc.cs 10 W' g (foldS l cs qs k) := fun W' hW => HRk.out.below hW hgl2
        have HS1 := Lib.hid hs1
        have hd : Below wr.heap.size wr wr.drew := (Below.refl _ _).drew
        clear hs1
        go_region_with ((go_at_call 36; refine (apply_ok r q hro.out hqo.out _).mono ?_; rintro e w4 ⟨rfl, hb4⟩; have hd4 := hd.trans (hb4.mono hd.size); have hR4 := HS1.out w4 hd4; obtain ⟨a0, a1, a2, a3, a4, a5, a6, a7, a8, a9, f0, f1, f2, f3, f4, f5, f6, f7, f8, f9⟩ := ten hR4 hcf HRr.out; have HR4 := Lib.hid hR4; clear hR4))
        all_goals
          have hSet := HR4.out.set (fun _ => rfl) c hcf (settleR r q.mask q.old)
          rw [← HS.out] at hSet
          have hBel := BRow.setCells_below g hgb (Rc.cs (settleR r q.mask q.old)) (c * 10) _ (hb.trans (hd4.mono hb.size))
          have hSz : g < (w4.setCells g (c * 10) (Rc.cs (settleR r q.mask q.old))).heap.size := by rw [BRow.setCells_size]; exact Nat.lt_of_lt_of_le hgl2 hd4.size
          have HSet := Lib.hid hSet
          have HBel := Lib.hid hBel
          have HSz := Lib.hid hSz
          clear hSet hBel hSz
          go_wp2_with fail
          go_roundw
          case rel => exact ⟨k + 1, by omega, by go_num, HSet.out, HBel.out, HSz.out⟩
          case measure => simp [intOf]; omega
      · obtain rfl : k = m := by omega
        have hfin := hRk.rd (fun _ => rfl) (by omega) hgl2 cap
        rw [HFl.out] at hfin
        have HFin := Lib.hid hfin
        clear hfin
        by_cases k1 : k < cs.length
        · have k2 : (k : Int) < (qs.length : Int) := by omega
          have k3 : ¬ (k : Int) < (many : Int) := by have := HM.out; omega
          go_wp2_with fail
          go_ret
          exact ⟨_, rfl, HFin.out, hb⟩
        · go_wp2_with fail
          go_ret
          exact ⟨_, rfl, HFin.out, hb⟩
end Go.Proofs.Ytaeeflfhjmjpjaa
