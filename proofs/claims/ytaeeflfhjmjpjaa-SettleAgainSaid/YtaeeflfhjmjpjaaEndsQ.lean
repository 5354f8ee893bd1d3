/- What SettleEnds and SettleAgain know of the columns; settled at their asks. -/
import Derived.Test.YtaeeflfhjmjpjaaEndsP
namespace Go.Proofs.Ytaeeflfhjmjpjaa
open Go.RowKit SlRd
set_option linter.unusedVariables false

structure EOk (kn : List Bool) (l : List Rc) (masks : List Int) : Prop where
  len : kn.length = l.length
  six : l.length ≤ 6
  rok : ∀ r ∈ l, ROk r
  opn : ∀ r ∈ l, r.op = true → r.done = ⟨2, 9⟩ ∧ ∃ n : Int, 1 ≤ n ∧ n ≤ 3 ∧ r.intent = ⟨3, n⟩ ∧ r.mask = cMask masks n
theorem cNum_bd (x : Cl) : 1 ≤ cNum x ∧ cNum x ≤ 3 := by
  unfold cNum
  have := pk_bd x.seq 3 (by omega)
  omega
theorem eok_cols (raw : List Cl) (masks : List Int) : EOk ((six raw).map cKnown) ((six raw).map (cRec masks)) masks := by
  refine ⟨by rw [List.length_map, List.length_map], by rw [List.length_map]; exact six_len raw, ?_, ?_⟩
  · intro r hr
    obtain ⟨x, _, rfl⟩ := List.mem_map.1 hr
    obtain ⟨n1, n2⟩ := cNum_bd x
    obtain ⟨m1, m2⟩ := cMask_bd masks (cNum x)
    unfold cRec
    split
    · exact ⟨⟨rfl, ⟨by show (0 : Int) ≤ 2; omega, by show (2 : Int) ≤ 16777215; omega, by show (0 : Int) ≤ 9; omega, by show (9 : Int) ≤ 16777215; omega⟩, ⟨by show (0 : Int) ≤ 3; omega, by show (3 : Int) ≤ 16777215; omega, by show 0 ≤ cNum x; omega, by show cNum x ≤ 16777215; omega⟩,
        ⟨by show (0 : Int) ≤ 5; omega, by show (5 : Int) ≤ 16777215; omega⟩, ⟨by show 0 ≤ cMask _ _; omega, m2⟩, pad_size _, fun _ => pad_size _, fun h => by cases h⟩, rfl⟩
    · split
      · exact ⟨⟨rfl, ⟨by show (0 : Int) ≤ 3; omega, by show (3 : Int) ≤ 16777215; omega, by show 0 ≤ cNum x; omega, by show cNum x ≤ 16777215; omega⟩, ⟨by show (0 : Int) ≤ 0; omega, by show (0 : Int) ≤ 16777215; omega, by show (0 : Int) ≤ 0; omega, by show (0 : Int) ≤ 16777215; omega⟩,
          ⟨by show (0 : Int) ≤ 5; omega, by show (5 : Int) ≤ 16777215; omega⟩, ⟨by show (0 : Int) ≤ 0; omega, by show (0 : Int) ≤ 63; omega⟩, pad_size _, (fun h => by cases h), fun _ => ⟨rfl, rfl, rfl⟩⟩, rfl⟩
      · exact ⟨⟨rfl, ⟨by show (0 : Int) ≤ 2; omega, by show (2 : Int) ≤ 16777215; omega, by show (0 : Int) ≤ 9; omega, by show (9 : Int) ≤ 16777215; omega⟩, ⟨by show (0 : Int) ≤ 0; omega, by show (0 : Int) ≤ 16777215; omega, by show (0 : Int) ≤ 0; omega, by show (0 : Int) ≤ 16777215; omega⟩,
          ⟨by show (0 : Int) ≤ 5; omega, by show (5 : Int) ≤ 16777215; omega⟩, ⟨by show (0 : Int) ≤ 0; omega, by show (0 : Int) ≤ 63; omega⟩, pad_size _, (fun h => by cases h), fun _ => ⟨rfl, rfl, rfl⟩⟩, rfl⟩
  · intro r hr ho
    obtain ⟨x, _, rfl⟩ := List.mem_map.1 hr
    obtain ⟨n1, n2⟩ := cNum_bd x
    unfold cRec at ho ⊢
    split
    · exact ⟨rfl, cNum x, n1, n2, rfl, rfl⟩
    · rename_i h1
      rw [if_neg h1] at ho
      split at ho <;> cases ho
theorem getD_mem {l : List Rc} {c : Nat} (h : c < l.length) : l.getD c default ∈ l := by
  rw [List.getD_eq_getElem?_getD, List.getElem?_eq_getElem h]
  exact List.getElem_mem h
theorem qok_asks {kn : List Bool} {l : List Rc} {masks : List Int} (h : EOk kn l masks) : ∀ q ∈ (asked kn l).map (askOf kn l 1 5), QOk q := by
  intro q hq
  obtain ⟨c, hc, rfl⟩ := List.mem_map.1 hq
  obtain ⟨h1, _, h3⟩ := (mem_asked h.len h.six c).1 hc
  obtain ⟨_, n, n1, n2, hi, _⟩ := h.opn _ (getD_mem h1) h3
  refine ⟨_, _, rfl, ?_, ?_⟩
  · cases FW kn l (l.getD c default).intent (l.getD c default).mask
    · exact .inl rfl
    · exact .inr rfl
  · rw [hi]
    exact ⟨by show (0 : Int) ≤ 3; omega, by show (3 : Int) < 5; omega, by show 0 ≤ n; omega, by show n ≤ 16777215; omega⟩

theorem wpList_append_eq {P : Program} {w : World} {ops : Array Oper} {rest : List Oper} {o : Oper} {a : Act} {Q : Exit → Act → World → Prop} (hgd : o.guard = none) (s x : Operand) (t : TypeId)
    (ho : o.op = .call { callee := .builtin .append, args := #[s, x], argTypes := #[t, t] }) (v y v' : Value) (hs : a.eval s = v) (hx : a.eval x = y) (hrun : (Builtin.append_ #[t, t] o.type #[v, y]).run P w = .ok v' w)
    (h : wpList P ops Q rest (a.put o.dst v') w) : wpList P ops Q (o :: rest) a w := by
  refine wpList_plain hgd fun K hK => ?_
  unfold Oper.wp
  simp [execOp, ho, resolve, invoke, builtin, hs, hx, hrun, Result.andThen]
  exact hK _ _ h

/-- settled, of no columns -/
theorem settled_nil {w : World} (vl vc vq : Value) (many : Int) (hl : Rd w 10 vl 0 []) (hc : Rd w 1 vc 0 []) :
    Calls Try.prog 18 #[vl, vc, vq, .int .i64 many] w fun e w' => ∃ v, e = .returned v ∧ Rd w' 10 v 0 [] ∧ Below w.heap.size w w' := by
  obtain ⟨_, ao, cl, rfl, _⟩ := hl
  obtain ⟨_, ac, cc, rfl, _⟩ := hc
  obtain ⟨j0, hj, hy0, hy1, hy2⟩ := info_parts info37
  have hap : ∀ W, (Builtin.append_ #[26, 26] 26 #[.slice none 0 0, .slice ao 0 cl]).run Try.prog W = .ok (.slice none 0 0) W := fun W => by
    cases ao with
    | none => simp [Builtin.append_, run_underlying Try.underlying26, sizeOf, typeInfo, hj, Builtin.lenOf, Builtin.firstCells]
    | some p =>
      have hl0 := run_loadCells_list (P := Try.prog) W p [] (fun j v hv => by simp at hv)
      simp only [List.length_nil] at hl0
      simp [Builtin.append_, run_underlying Try.underlying26, sizeOf, typeInfo, hj, Builtin.lenOf, Builtin.firstCells, hl0]
  go_enter Try.func18, Try.ntmps18
  go_wp2_with (at_builtin; refine wpList_append_eq rfl _ _ 26 rfl (.slice none 0 0) (.slice ao 0 cl) (.slice none 0 0) rfl rfl (hap _) ?_)
  go_loopw [10] (fun i wr => i = .int .i64 0 ∧ wr = w) (fun i _ => 0)
  case atStart => exact ⟨rfl, rfl⟩
  case round =>
    obtain ⟨rfl, rfl⟩ := hrel
    go_wp2_with fail
    go_ret
    exact ⟨_, rfl, Rd.nil _ _, Below.refl _ _⟩
theorem settled_part {w : World} {kn : List Bool} {l : List Rc} {masks : List Int} (h : EOk kn l masks) (many : Nat) (vl vc vq : Value) (hl : Rd w 10 vl l.length (l.flatMap Rc.cs)) (hc : Rd w 1 vc (asked kn l).length (NV (asked kn l)))
    (hq : Rd w 9 vq (asked kn l).length (((asked kn l).map (askOf kn l 1 5)).flatMap Ak.cs)) :
    Calls Try.prog 18 #[vl, vc, vq, .int .i64 many] w fun e w' => ∃ v, e = .returned v ∧ Rd w' 10 v l.length ((partS kn l (min (asked kn l).length many)).flatMap Rc.cs) ∧ Below w.heap.size w w' := by
  by_cases h0 : 0 < l.length
  · exact settled_any l (asked kn l) ((asked kn l).map (askOf kn l 1 5)) many vl vc vq hl hc (by rw [List.length_map]; exact hq) (by rw [List.length_map]) h0 h.six (asked_le kn l) (asked_in kn l) h.rok (qok_asks h)
  · have e : l = [] := List.eq_nil_of_length_eq_zero (by omega)
    subst e
    have ea : asked kn [] = [] := by
      have := asked_in kn []
      cases hh : asked kn [] with
      | nil => rfl
      | cons a t => exact absurd (this a (by rw [hh]; exact List.mem_cons_self ..)) (by simp)
    rw [ea] at hc
    have := settled_nil vl vc vq many hl hc
    unfold partS
    rw [ea]
    exact this
end Go.Proofs.Ytaeeflfhjmjpjaa
