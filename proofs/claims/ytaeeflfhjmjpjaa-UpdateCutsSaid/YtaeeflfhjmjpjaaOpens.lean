/- Arguments that are slices, opened to plain lists, whatever their elements are. No program in sight. -/
import Derived.Test.YtaeeflfhjmjpjaaSlRd
import Derived.Deep.Slices
import Derived.ChangeArms
import Derived.SizedLaws
import Derived.OpenShut
set_option linter.unusedVariables false
namespace SlRd
open Go Go.RowKit Go.ChangeShapes Go.WideShapes Go.Deep

section
variable {H : Type} {enc : TypeId × Value → H} {P : Program} {W : World} {base : Nat} {spare : Nat → Bool} {held : Bool}
/-- what a datum takes is what a machine's memory lets -/
def Small (P : Program) (t : TypeId) (d : DataW H) : Prop := ∀ n ∈ d.weights P t, n ≤ 140737488351232
theorem Small.of_all {ts : List TypeId} {ds : List (DataW H)} {j : Nat} {t : TypeId} {d : DataW H} (hz : (DataW.weightsEach P ts ds).all (· ≤ reachBytes) = true) (ht : ts[j]? = some t) (hd : ds[j]? = some d) : Small P t d := fun n hn => by
  have := List.all_eq_true.1 hz _ (DataW.weights_mem_each ht hd n hn)
  have h2 : n ≤ reachBytes := by simpa using this
  exact h2
theorem weightsAll_mem {e : TypeId} : ∀ {es : List (DataW H)} {d : DataW H}, d ∈ es → ∀ n ∈ d.weights P e, n ∈ DataW.weightsAll P e es
  | d0 :: es, d, hd, n, hn => by
    simp only [DataW.weightsAll, List.mem_append]
    rcases List.mem_cons.1 hd with rfl | h
    · exact .inl hn
    · exact .inr (weightsAll_mem h n hn)
theorem Small.slice {t e : TypeId} {es ss : List (DataW H)} (hu : P.underlying t = some (.slice e)) (h : Small P t (.slice es ss)) : es.length * P.bytesOf e ≤ 140737488351232 ∧ ∀ d ∈ es, Small P e d := by
  unfold Small at h
  simp only [DataW.weights, hu] at h
  refine ⟨Nat.le_trans (Nat.mul_le_mul_right _ (Nat.le_add_right _ _)) (h _ (List.mem_cons_self ..)), fun d hd n hn => h n ?_⟩
  exact List.mem_cons_of_mem _ (List.mem_append_left _ (weightsAll_mem hd n hn))
theorem Small.field {t : TypeId} {fs : Array Field} {xs : List (DataW H)} (hu : P.underlying t = some (.struct fs)) (h : Small P t (.agg xs)) {i : Nat} {f : Field} {d : DataW H} (hf : fs[i]? = some f) (hd : xs[i]? = some d) : Small P f.type d := fun n hn => by
  unfold Small at h
  simp only [DataW.weights, hu] at h
  exact h n (DataW.weights_mem_each (j := i) (by rw [List.getElem?_map]; simp [hf]) hd n hn)
theorem Small.string {t : TypeId} {bs : List UInt8} (h : Small P (H := H) t (.lit (.string bs))) : bs.length ≤ 140737488351232 := h _ (by simp [DataW.weights])

theorem open_rd {r : Reach} {b0 : Nat} {t e : TypeId} {v : Value} {d : DataW H} {p : List MemPlace} {α : Type} [Inhabited α] (f : α → List Value) (ok : α → Prop) (size : Nat) (hs : 0 < size) (hf : ∀ a, (f a).length = size)
    (ht : P.underlying t = some (.slice e)) (hC : P.cellsOf e = size) (helem : ∀ n cs y, DataW.trod enc P W base spare held n e cs = some y → Small P e y.1 → ∃ a, cs = f a ∧ ok a)
    (hv : Value.okWide P W r b0 t v) (h : DataW.Trod enc P W base spare held t v d p) (hsm : Small P t d) :
    ∃ l : List α, Rd W size v l.length (l.flatMap f) ∧ (∀ a ∈ l, ok a) ∧ l.length * P.bytesOf e ≤ 140737488351232 := by
  obtain ⟨a0, len0, cap0, rfl⟩ := okWide_slice ht hv
  obtain ⟨fuel, hf2⟩ := h
  have hcs : (Value.slice a0 len0 cap0).cells.toList = [Value.slice a0 len0 cap0] := rfl
  rw [hcs] at hf2
  rcases open_slice ht hf2 with ⟨h0, _⟩ | ⟨a, len, cap, m, n, D, Pl, h0, hb, hl, hm, hmm, hx, hi⟩
  · cases h0
    exact ⟨[], Rd.nil W size, by simp, by simp⟩
  · cases h0
    simp only [Prod.mk.injEq] at hx
    obtain ⟨rfl, _⟩ := hx
    obtain ⟨hsl, hse⟩ := hsm.slice ht
    have hlm : len0 ≤ m := by rw [hmm]; split <;> omega
    obtain ⟨A, hA⟩ := choose_lt (α := α) (n := len0) (p := fun i x => ok x ∧ ∀ j, j < size → W.cell? ((a.add (i * size)).add j) = (f x)[j]?) (fun i hi' => by
      obtain ⟨cs', h1, h2⟩ := hi i (by omega)
      obtain ⟨x, rfl, hx⟩ := helem _ _ _ h2 (hse _ (List.mem_map.2 ⟨i, by simpa using hi', rfl⟩))
      rw [hC] at h1
      exact ⟨x, hx, (World.cells?_some h1).2.2⟩)
    refine ⟨(List.range len0).map A, ?_, ?_, by simpa using hsl⟩
    · refine ⟨flat_length f size hf _, some a, cap0, by simp, fun hn => ?_⟩
      have hn' : 0 < len0 := by simpa using hn
      obtain ⟨bb, oo, sp⟩ := a
      have h00 := (hA 0 hn').2 0 hs
      have hg : ∃ u, (f (A 0))[0]? = some u := ⟨_, List.getElem?_eq_getElem (by rw [hf]; exact hs)⟩
      obtain ⟨u, hu⟩ := hg
      rw [hu] at h00
      have hsp : sp = none := by
        have := World.cell?_spot h00
        simpa [Addr.add] using this
      subst hsp
      refine ⟨bb, oo, rfl, ?_, fun j hj => ?_⟩
      · rw [add_plain, add_plain] at h00
        rcases Nat.lt_or_ge bb W.heap.size with hlt | hge
        · exact hlt
        · unfold World.cell? at h00
          simp only at h00
          rw [Array.getElem?_eq_none hge] at h00
          cases h00
      · rw [List.length_map, List.length_range] at hj
        have hk : j / size < len0 := by rw [Nat.div_lt_iff_lt_mul hs]; exact hj
        have hr : j % size < size := Nat.mod_lt _ hs
        have e : j = j / size * size + j % size := by have := Nat.div_add_mod j size; rw [Nat.mul_comm] at this; omega
        have hc := (hA (j / size) hk).2 (j % size) hr
        rw [add_plain, add_plain, Nat.add_assoc, ← e] at hc
        rw [hc]
        have hk2 : j / size < ((List.range len0).map A).length := by simpa using hk
        have := flat_get f size hf ((List.range len0).map A) (j / size) (j % size) hk2 hr
        rw [← e] at this
        rw [this]
        simp
    · intro x hx'
      obtain ⟨i, hi', rfl⟩ := List.mem_map.1 hx'
      exact (hA i (by simpa using hi')).1

theorem le_of_bytes {n b : Nat} (hb : 0 < b) (h : n * b ≤ 140737488351232) : n ≤ 140737488351232 := Nat.le_trans (Nat.le_mul_of_pos_right n hb) h

/-- the fields of a struct of whatever depth: the i-th lies from its offset on and is of its type -/
theorem fields_of {n : Nat} {t : TypeId} {fs : Array Field} {cs : List Value} {x : DataW H × List MemPlace} (ht : P.underlying t = some (.struct fs)) (h : DataW.trod enc P W base spare held n t cs = some x) (hsm : Small P t x.1) :
    cs.length = P.cellsOf t ∧ ∀ (i o : Nat) (T : TypeId), (fs[i]?.map fun f => (f.offset, f.type)) = some (o, T) → ∃ m y, DataW.trod enc P W base spare held m T ((cs.drop o).take (P.cellsOf T)) = some y ∧ Small P T y.1 := by
  obtain ⟨xs, m, _, rfl, hl, hxl, hall⟩ := DataW.trod_struct ht h
  refine ⟨hl, fun i o T hf => ?_⟩
  rw [Option.map_eq_some_iff] at hf
  obtain ⟨f, hf, he⟩ := hf
  cases he
  have hlt : i < xs.length := by rw [hxl]; exact (Array.getElem?_eq_some_iff.1 hf).1
  exact ⟨m, xs[i], by rw [hall i f hf, List.getElem?_eq_getElem hlt], hsm.field ht hf (by rw [List.getElem?_map, List.getElem?_eq_getElem hlt]; rfl)⟩
theorem bounds64 {n : Int} (h : (Lit.int .i64 n).wf = true) : -9223372036854775808 ≤ n ∧ n ≤ 9223372036854775807 := by
  simp [Lit.wf, IntKind.min, IntKind.max, IntKind.signed, IntKind.bits] at h
  omega
theorem flat_one {α : Type} (g : α → Value) (l : List α) : (l.flatMap fun x => [g x]) = l.map g := by
  induction l with
  | nil => rfl
  | cons a l ih => rw [List.flatMap_cons, ih]; rfl
theorem open_ints_rd {r : Reach} {b0 : Nat} {t e : TypeId} {v : Value} {d : DataW H} {p : List MemPlace} (ht : P.underlying t = some (.slice e)) (he : P.underlying e = some (.int .i64)) (hC : P.cellsOf e = 1)
    (hv : Value.okWide P W r b0 t v) (h : DataW.Trod enc P W base spare held t v d p) (hsm : Small P t d) :
    ∃ l : List Int, Rd W 1 v l.length (l.map (Value.int .i64)) ∧ (∀ a ∈ l, -9223372036854775808 ≤ a ∧ a ≤ 9223372036854775807) ∧ l.length * P.bytesOf e ≤ 140737488351232 := by
  obtain ⟨l, h1, h2, h3⟩ := open_rd (fun x : Int => [Value.int .i64 x]) (fun a => -9223372036854775808 ≤ a ∧ a ≤ 9223372036854775807) 1 (by decide) (fun _ => rfl) ht hC (fun n cs y hy hs => by
    obtain ⟨x, rfl, _, hw⟩ := DataW.trod_int he hy
    exact ⟨x, rfl, bounds64 hw⟩) hv h hsm
  rw [flat_one] at h1
  exact ⟨l, h1, h2, h3⟩
theorem open_bools_rd {r : Reach} {b0 : Nat} {t e : TypeId} {v : Value} {d : DataW H} {p : List MemPlace} (ht : P.underlying t = some (.slice e)) (he : P.underlying e = some .bool) (hC : P.cellsOf e = 1)
    (hv : Value.okWide P W r b0 t v) (h : DataW.Trod enc P W base spare held t v d p) (hsm : Small P t d) :
    ∃ l : List Bool, Rd W 1 v l.length (l.map Value.bool) ∧ l.length * P.bytesOf e ≤ 140737488351232 := by
  obtain ⟨l, h1, _, h3⟩ := open_rd (fun x : Bool => [Value.bool x]) (fun _ => True) 1 (by decide) (fun _ => rfl) ht hC (fun n cs y hy hs => by
    obtain ⟨x, rfl, _⟩ := DataW.trod_bool he hy
    exact ⟨x, rfl, trivial⟩) hv h hsm
  rw [flat_one] at h1
  exact ⟨l, h1, h3⟩
theorem open_strings_rd {r : Reach} {b0 : Nat} {t e : TypeId} {v : Value} {d : DataW H} {p : List MemPlace} (ht : P.underlying t = some (.slice e)) (he : P.underlying e = some .string) (hC : P.cellsOf e = 1)
    (hv : Value.okWide P W r b0 t v) (h : DataW.Trod enc P W base spare held t v d p) (hsm : Small P t d) :
    ∃ l : List ByteArray, Rd W 1 v l.length (l.map Value.string) ∧ (∀ s ∈ l, s.size ≤ 140737488351232) ∧ l.length * P.bytesOf e ≤ 140737488351232 := by
  obtain ⟨l, h1, h2, h3⟩ := open_rd (fun x : ByteArray => [Value.string x]) (fun s => s.size ≤ 140737488351232) 1 (by decide) (fun _ => rfl) ht hC (fun n cs y hy hs => by
    obtain ⟨x, rfl, rfl, _⟩ := DataW.trod_string he hy
    exact ⟨x, rfl, by simpa using hs.string⟩) hv h hsm
  rw [flat_one] at h1
  exact ⟨l, h1, h2, h3⟩
theorem open_agg {r : Reach} {b0 : Nat} {t : TypeId} {fs : Array Field} {v : Value} {d : DataW H} {p : List MemPlace} (ht : P.underlying t = some (.struct fs)) (hv : Value.okWide P W r b0 t v) (h : DataW.Trod enc P W base spare held t v d p) :
    ∃ n cs, v = .agg cs ∧ DataW.trod enc P W base spare held n t cs.toList = some (d, p) := by
  obtain ⟨cs, rfl, _⟩ := okWide_struct ht hv
  obtain ⟨n, h⟩ := h
  exact ⟨n, cs, rfl, h⟩
end
end SlRd
