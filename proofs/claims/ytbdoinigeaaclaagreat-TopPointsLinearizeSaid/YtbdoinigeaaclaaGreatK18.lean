/- A part of a row of an owned slice: reading it, storing into it. Permuting owned blocks. Conditions: as each theorem says. -/
import Derived.Test.YtbdoinigeaaclaaGreatK17
set_option linter.all false
namespace RL
open Go
theorem perm_of_sum {α : Type} : ∀ {A B : List α}, (∀ f : α → Nat, (A.map f).sum = (B.map f).sum) → A.Perm B
  | [], B, h => by
    cases B with
    | nil => exact .nil
    | cons b B => have := h fun _ => 1; simp only [List.map_nil, List.sum_nil, List.map_cons, List.sum_cons] at this; omega
  | a :: A, B, h => by
    classical
    have hb : a ∈ B := by
      refine Classical.byContradiction fun hn => ?_
      have h1 := h fun x => if x = a then 1 else 0
      have h2 : (B.map fun x => if x = a then 1 else 0).sum = 0 := by
        have : ∀ C : List α, a ∉ C → (C.map fun x => if x = a then 1 else 0).sum = 0 := by
          intro C
          induction C with
          | nil => intro _; rfl
          | cons c C ih =>
            intro hc
            rw [List.mem_cons, not_or] at hc
            rw [List.map_cons, List.sum_cons, ih hc.2, if_neg (fun e => hc.1 e.symm)]
        exact this B hn
      rw [h2, List.map_cons, List.sum_cons, if_pos rfl] at h1
      omega
    obtain ⟨C, D, rfl⟩ := List.append_of_mem hb
    refine (List.Perm.cons a (perm_of_sum (B := C ++ D) fun f => ?_)).trans List.perm_middle.symm
    have := h f
    simp only [List.map_append, List.map_cons, List.sum_append, List.sum_cons] at this ⊢
    omega
theorem run_equalIn_ptr {P : Program} (w : World) (d : Nat) (t : TypeId) {e : TypeId} (hu : P.underlying t = some (.pointer e)) (a : Option Addr) : (Op.equalIn (d + 1) t (.pointer a) (.pointer none)).run P w = .ok (decide (a = none)) w := by
  cases a with
  | none => simp [Op.equalIn, run_underlying hu]
  | some a => simp [Op.equalIn, run_underlying hu]
theorem PurO.ptrNil {P : Program} {d : Option Tmp} {x y : Operand} {ty : TypeId} {pos : String} {af : Array Edge} {gd : Option (Nat × Bool)} {e : Env} {t u : TypeId} {a : Option Addr} (hu : P.underlying t = some (.pointer u)) (hx : ev e x = .pointer a) (hy : ev e y = .pointer none)
    {K : Value → Prop} (k : K (.bool (decide (a = none)))) : PurO P ⟨d, .binOp .eql t x y t, ty, pos, af, gd⟩ e K := by
  refine ⟨⟨_, fun w => ?_, k⟩⟩
  have he : execOp (ev e) ⟨d, .binOp .eql t x y t, ty, pos, af, gd⟩ = ((do eqGuard .eql t x y (ev e x) (ev e y); Go.binOp .eql t (ev e x) (ev e y)) >>= fun r => pure (.value r)) := rfl
  have h1 : (eqGuard .eql t x y (.pointer a) (.pointer none)).run P w = .ok () w := by simp [eqGuard]
  have h2 : (Op.equal t (.pointer a) (.pointer none)).run P w = .ok (decide (a = none)) w := run_equalIn_ptr w 9999 _ hu a
  have h3 : (Go.binOp .eql t (.pointer a) (.pointer none)).run P w = .ok (.bool (decide (a = none))) w := by
    simp only [Go.binOp, Sem.run_bind, h2, Result.andThen_ok, Sem.run_pure]
  rw [he, hx, hy]
  simp only [Sem.run_bind, h1, h3, Result.andThen_ok, Sem.run_pure]
section
variable {g : World} {h : Hp} {w : World} {L : List (Nat × Obj)} {b o : Nat}
theorem LdQ.cellsO {S : World → Prop} {n : Nat} {vs : List Value} (hc : ∀ w, S w → Cells w b o vs) (hn : Nat.beq vs.length n = true) {K : Value → Prop} (k : K (.agg vs.toArray)) :
    LdQ S true n (.pointer (some ⟨b, o, none⟩)) K := ⟨⟨_, fun w hS => ⟨b, o, rfl, vs, rfl, Nat.eq_of_beq_eq_true hn, hc w hS⟩, k⟩⟩
theorem LdO.cell1 {n : Nat} {v : Value} (hc : w.cell? ⟨b, o, none⟩ = some v) {K : Value → Prop} (k : K v) : LdO false n w (.pointer (some ⟨b, o, none⟩)) K := ⟨⟨v, ⟨b, o, rfl, hc⟩, k⟩⟩
theorem St.mcell (H : St g h w L) {c : Array Value} {e : TypeId} {fz : Nat × Nat} (ha : (b, Obj.cells c e fz) ∈ L) {v : Value} (hv : nth c.toList o = some v) : w.cell? ⟨b, o, none⟩ = some v := by
  have := H.own _ ha
  simp only [World.cell?, this]
  rw [if_neg (by simp)]
  rw [nth_eq] at hv
  simpa using hv
theorem LdO.cellsO {n : Nat} {vs : List Value} (hc : Cells w b o vs) (hn : Nat.beq vs.length n = true) {K : Value → Prop} (k : K (.agg vs.toArray)) :
    LdO true n w (.pointer (some ⟨b, o, none⟩)) K := ⟨⟨_, ⟨b, o, rfl, vs, rfl, Nat.eq_of_beq_eq_true hn, hc⟩, k⟩⟩
theorem OwnSl.read {el sz : Nat} {n cap : Nat} {rows : List (List Value)} {c : Array Value} (ho : OwnSl el sz (.slice (some ⟨b, 0, none⟩) n cap) rows [(b, .cells c el (0, 0))]) {i : Nat} (hi : i < rows.length) {j : Nat} (hj : j < sz) :
    c.toList[i * sz + j]? = rows[i][j]? := by
  obtain ⟨h1, h2, h3⟩ := ho.at hi
  rw [← h2, List.getElem?_take, if_pos hj, List.getElem?_drop]
theorem OwnSl.reads {el sz : Nat} {n cap : Nat} {rows : List (List Value)} {c : Array Value} (ho : OwnSl el sz (.slice (some ⟨b, 0, none⟩) n cap) rows [(b, .cells c el (0, 0))]) {i : Nat} (hi : i < rows.length) {j k : Nat} (hj : j + k ≤ sz) :
    (c.toList.drop (i * sz + j)).take k = (rows[i].drop j).take k := by
  obtain ⟨h1, h2, h3⟩ := ho.at hi
  rw [← h2, List.drop_take, List.take_take, List.drop_drop, Nat.min_eq_left (by omega)]
/-- The rows of an owned slice, wherever its block stands in the list. -/
theorem OwnSl.rows {el sz : Nat} {a : Option Addr} {n cap : Nat} {rows : List (List Value)} {x : List (Nat × Obj)} (ho : OwnSl el sz (.slice a n cap) rows x) :
    ∃ rb : Nat, ∀ i (hi : i < rows.length), (∀ (k : IntKind) (z : Int) (K : Value → Prop), z = i → K (.pointer (some ⟨rb, i * sz, none⟩)) → IdxO sz (.slice a n cap) (.int k z) K) ∧
      ∀ {w : World} {L : List (Nat × Obj)}, St g h w L → (∀ q ∈ x, q ∈ L) → Cells w rb (i * sz) rows[i] := by
  rcases Nat.eq_zero_or_pos rows.length with h0 | h0
  · exact ⟨0, fun i hi => absurd hi (by omega)⟩
  · obtain ⟨rb, c, cap', hv, hx⟩ := ho.blk h0
    cases hv
    subst hx
    refine ⟨rb, fun i hi => ⟨fun k z K hz hK => IdxO.at0 hz hi hK, fun {w L} H hs j hj => ?_⟩⟩
    have hm := H.own _ (hs _ (.head _))
    have hr := (ho.1 rows[i] (List.getElem_mem hi)).1
    have h5 := OwnSl.read ho hi (j := j) (by omega)
    simp only [World.cell?, hm]
    rw [if_neg (by simp)]
    simpa using h5
theorem OwnSl.part {el sz : Nat} {n cap : Nat} {rows : List (List Value)} {c : Array Value} (ho : OwnSl el sz (.slice (some ⟨b, 0, none⟩) n cap) rows [(b, .cells c el (0, 0))]) {i : Nat} (hi : i < rows.length) {j : Nat} {vs : List Value}
    (hj : j + vs.length ≤ sz) (hv : oneCells vs = true) {row : List Value} (hrow : rows[i].take j ++ vs ++ rows[i].drop (j + vs.length) = row) :
    i * sz + j + vs.length ≤ c.size ∧ OwnSl el sz (.slice (some ⟨b, 0, none⟩) n cap) (rows.set i row) [(b, .cells (putA c (i * sz + j) vs) el (0, 0))] := by
  obtain ⟨h1, h2, h3⟩ := ho.at hi
  have hr := ho.1 rows[i] (List.getElem_mem hi)
  have hcs : i * sz + sz ≤ c.toList.length := by simpa using h1
  have hl : row.length = sz := by
    rw [← hrow]; simp only [List.length_append, List.length_take, List.length_drop, hr.1]; omega
  have hone : oneCells row = true := by
    rw [← hrow]
    have ha : ∀ l : List Value, oneCells l = true ↔ ∀ x ∈ l, Value.oneCell' x = true := fun l => by unfold oneCells; rw [List.all_eq_true]
    rw [ha] at hv ⊢
    have hr2 := (ha _).1 hr.2
    intro x hx
    rw [List.mem_append, List.mem_append] at hx
    rcases hx with (hx | hx) | hx
    · exact hr2 x (List.mem_of_mem_take hx)
    · exact hv x hx
    · exact hr2 x (List.mem_of_mem_drop hx)
  refine ⟨by omega, ?_⟩
  have e : putA c (i * sz + j) vs = putA c (i * sz) row := by
    apply Array.ext'
    rw [putA_toList _ _ _ (by omega), putA_toList _ _ _ (by rw [hl]; exact h1), hl, ← hrow, ← h2]
    have e1 : c.toList.take (i * sz + j) = c.toList.take (i * sz) ++ (c.toList.drop (i * sz)).take j := by rw [List.take_add]
    have e2 : c.toList.drop (i * sz + j + vs.length) = ((c.toList.drop (i * sz)).take sz).drop (j + vs.length) ++ c.toList.drop (i * sz + sz) := by
      have : c.toList.drop (i * sz + sz) = (c.toList.drop (i * sz)).drop sz := by rw [List.drop_drop]
      rw [this]
      have h5 : c.toList.drop (i * sz + j + vs.length) = (c.toList.drop (i * sz)).drop (j + vs.length) := by rw [List.drop_drop, Nat.add_assoc]
      rw [h5]
      conv => lhs; rw [← List.take_append_drop sz (c.toList.drop (i * sz))]
      rw [List.drop_append]
      have h6 : ((c.toList.drop (i * sz)).take sz).length = sz := by rw [h2]; exact hr.1
      rw [h6, show j + vs.length - sz = 0 by omega, List.drop_zero]
    rw [e1, e2, List.take_take, Nat.min_eq_left (by omega)]
    simp only [List.append_assoc]
  rw [e]
  exact h3 row hl hone
end
end RL
