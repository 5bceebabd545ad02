/- From how an argument reads to what is known of memory: slices of structs, nested. Conditions: none; parametric in the program. -/
import Derived.Test.YtbdoinigeaaclaaGreatK14
import Derived.Deep.Slices
import Derived.Deep.Fields
import Derived.ChangeSame
set_option linter.all false
namespace RL
open Go Go.ChangeShapes Go.WideShapes
section
variable {H : Type} {enc : TypeId × Value → H} {P : Program} {w : World} {base : Nat} {spare : Nat → Bool} {held : Bool}
/-- The blocks of a world. -/
def heapOf (w : World) : Hp := fun b => w.heap[b]?
theorem cell_spot {a : Addr} {v : Value} (h : w.cell? a = some v) : a.spot = none := by
  unfold World.cell? at h
  split at h
  · split at h
    · cases h
    · rename_i hs; simpa using hs
  · cases h
theorem cell_heap {b o : Nat} {v : Value} (h : w.cell? ⟨b, o, none⟩ = some v) : ∃ c e fz, w.heap[b]? = some (.cells c e fz) ∧ c[o]? = some v := by
  unfold World.cell? at h
  split at h
  · rename_i c e fz hc
    refine ⟨c, e, fz, hc, ?_⟩
    simpa using h
  · cases h
theorem add_none {b o i : Nat} : (Addr.mk b o none).add i = ⟨b, o + i, none⟩ := by
  unfold Addr.add
  split
  · rename_i h; rw [h, Nat.add_zero]
  · rfl
/-- Cells that read one by one are a row of a block. -/
theorem HC_of {b o : Nat} {vs : List Value} (hne : vs ≠ []) (h : ∀ i, i < vs.length → w.cell? ⟨b, o + i, none⟩ = vs[i]?) : HC (heapOf w) b o vs := by
  have h0 : 0 < vs.length := List.length_pos_iff.2 hne
  have h1 := h 0 h0
  rw [List.getElem?_eq_getElem h0] at h1
  obtain ⟨c, e, fz, hb, _⟩ := cell_heap h1
  refine ⟨c, e, fz, hb, fun i hi => ?_⟩
  have h2 := h i hi
  rw [List.getElem?_eq_getElem hi] at h2 ⊢
  obtain ⟨c', e', fz', hb', hc'⟩ := cell_heap h2
  rw [hb] at hb'
  cases hb'
  exact hc'
theorem flatten_idx {sz : Nat} : ∀ {rows : List (List Value)} (_ : ∀ r ∈ rows, r.length = sz) {i : Nat} (_ : i < rows.flatten.length), 0 < sz ∧ ∃ (h : i / sz < rows.length), rows.flatten[i]? = (rows[i / sz])[i % sz]?
  | [], _, i, hi => absurd hi (Nat.not_lt_zero _)
  | r :: rows, hr, i, hi => by
    have hl := hr r (.head _)
    rw [List.flatten_cons, List.length_append] at hi
    rcases Nat.lt_or_ge i sz with hlt | hge
    · have hp : 0 < sz := by omega
      refine ⟨hp, by rw [Nat.div_eq_of_lt hlt]; exact Nat.zero_lt_succ _, ?_⟩
      rw [List.flatten_cons, List.getElem?_append_left (by omega)]
      simp only [Nat.div_eq_of_lt hlt, Nat.mod_eq_of_lt hlt, List.getElem_cons_zero]
    · obtain ⟨hp, h1, h2⟩ := flatten_idx (rows := rows) (fun r' h' => hr r' (.tail _ h')) (i := i - sz) (by omega)
      have hd : i / sz = (i - sz) / sz + 1 := by
        rw [← Nat.add_div_right _ hp, Nat.sub_add_cancel hge]
      have hm : i % sz = (i - sz) % sz := Nat.mod_eq_sub_mod hge
      refine ⟨hp, by rw [hd, List.length_cons]; omega, ?_⟩
      rw [List.flatten_cons, List.getElem?_append_right (by omega), hl, h2]
      simp only [hd, hm, List.getElem_cons_succ]
/-- A slice of elements of one size, each read by 'R'. -/
theorem open_rows {α : Type} [Inhabited α] {t e : TypeId} {sz : Nat} {fuel : Nat} {v : Value} {x : DataW H × List MemPlace} {R : α → List Value} {G : α → Prop}
    (ht : P.underlying t = some (.slice e)) (hc : P.cellsOf e = sz) (hsz : 0 < sz) (hR : ∀ y, (R y).length = sz)
    (hel : ∀ n cs y, DataW.trod enc P w base (fun _ => true) held n e cs = some y → ∃ z, G z ∧ cs = R z)
    (h : DataW.trod enc P w base (fun _ => true) held fuel t [v] = some x) : ∃ l : List α, Sl (heapOf w) sz v (l.map R) ∧ (∀ y ∈ l, G y) ∧ l.length ≤ maxLen := by
  rcases Go.Deep.open_slice ht h with ⟨hcs, _⟩ | ⟨a, len, cap, m, n, D, Pl, hcs, _, hl, hm, hmm, _, hi⟩
  · cases hcs
    exact ⟨[], Sl.nil _ _, by simp, Nat.zero_le _⟩
  · cases hcs
    rw [if_pos rfl] at hmm
    subst hmm
    obtain ⟨f, hf⟩ := Go.Deep.choose_lt (n := len) (p := fun i z => G z ∧ w.cells? base (a.add (i * sz)) sz = some (R z)) (fun i hil => by
      obtain ⟨cs', h1, h2⟩ := hi i (by omega)
      obtain ⟨z, hz, rfl⟩ := hel _ _ _ h2
      rw [hc] at h1
      exact ⟨z, hz, h1⟩)
    have hlen : ((List.range len).map f).length = len := by simp
    refine ⟨(List.range len).map f, ⟨some a, m, by simp, by simpa using hl, fun r hr => ?_, fun hne => ?_⟩, fun y hy => ?_, by rw [hlen]; omega⟩
    · obtain ⟨z, _, rfl⟩ := List.mem_map.1 hr
      exact hR z
    · have hpos : 0 < len := by
        refine Nat.pos_of_ne_zero fun h0 => hne ?_
        subst h0; rfl
      have hcell : ∀ i, i < len → ∀ j, j < sz → w.cell? (a.add (i * sz + j)) = (R (f i))[j]? := by
        intro i hil j hj
        obtain ⟨_, _, hat⟩ := World.cells?_some (hf i hil).2
        rw [← Go.Deep.add_add, hat j hj]
      have hspot : a.spot = none := by
        have h0 := hcell 0 hpos 0 hsz
        rw [Nat.zero_mul, Nat.zero_add, List.getElem?_eq_getElem (by rw [hR]; exact hsz)] at h0
        have := cell_spot h0
        simpa [Addr.add] using this
      obtain ⟨b, o, s⟩ := a
      simp only at hspot
      subst hspot
      refine ⟨b, o, rfl, HC_of ?_ fun i hil => ?_⟩
      · intro hnil
        have := congrArg List.length hnil
        rw [List.length_flatten, List.map_map] at this
        have h2 : (List.map (List.length ∘ R) (List.map f (List.range len))).sum = len * sz := by
          rw [List.map_map, show List.map ((List.length ∘ R) ∘ f) (List.range len) = List.map (fun _ => sz) (List.range len) from List.map_congr_left (fun i _ => hR (f i)), List.map_const', List.sum_replicate_nat, List.length_range]
        rw [h2] at this
        have := Nat.mul_pos hpos hsz
        simp only [List.length_nil] at *
        omega
      · obtain ⟨_, h1, h2⟩ := flatten_idx (sz := sz) (rows := ((List.range len).map f).map R) (fun r hr => by
          obtain ⟨z, _, rfl⟩ := List.mem_map.1 hr
          exact hR z) hil
        rw [h2]
        simp only [List.length_map, List.length_range] at h1
        have h3 := hcell (i / sz) h1 (i % sz) (Nat.mod_lt _ hsz)
        rw [add_none, Nat.mul_comm, Nat.div_add_mod] at h3
        rw [h3]
        simp
    · obtain ⟨i, hi, rfl⟩ := List.mem_map.1 hy
      exact (hf i (List.mem_range.1 hi)).1
/-- One field of a struct that reads. -/
theorem trodF {fs : Array Field} {cs : List Value} {xs : List (DataW H × List MemPlace)} {n : Nat} (hf : ∀ (i : Nat) (f : Field), fs[i]? = some f → DataW.trod enc P w base spare held n f.type ((cs.drop f.offset).take (P.cellsOf f.type)) = xs[i]?)
    (hx : xs.length = fs.size) (i : Nat) {f : Field} (hi : fs[i]? = some f) {k : Nat} (hk : P.cellsOf f.type = k) : ∃ y, DataW.trod enc P w base spare held n f.type ((cs.drop f.offset).take k) = some y := by
  have h := hf i f hi
  have hl : i < xs.length := by rw [hx]; exact (Array.getElem?_eq_some_iff.1 hi).1
  rw [List.getElem?_eq_getElem hl, hk] at h
  exact ⟨_, h⟩
end
theorem Ret.calls {P : Program} {f : FuncId} {fn : Func} {c : Code} {args : List Value} {w : World} {K : Value → World → Prop} (hf : P.funcs[f]? = some fn) (hb : fn.body = some c) (hn : (fn.name == "runtime.NumGoroutine") = false)
    (h : Ret P f args w K) : Calls P f args.toArray w fun x w' => ∃ v, x = .returned v ∧ K v w' := by
  obtain ⟨h⟩ := h
  rw [callFunc_run hf (by rw [hb]; rfl) hn] at h
  exact h
end RL
