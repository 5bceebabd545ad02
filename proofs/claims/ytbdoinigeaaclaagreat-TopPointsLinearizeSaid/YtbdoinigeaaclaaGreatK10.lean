/- Slices that a run owns: append, make, sealing. Conditions: the table fits the program's types; what is appended is short. -/
import Derived.Test.YtbdoinigeaaclaaGreatK9
set_option linter.all false
namespace RL
open Go

theorem take_snoc_of {n : Nat} {l : List Value} {x : Value} {r : List Value} (h : l.length = n) : (l ++ x :: r).take (n + 1) = l ++ [x] := by
  subst h
  rw [List.take_append]; simp [List.take_of_length_le]
theorem drop_snoc_of {n : Nat} {l : List Value} {x : Value} {r : List Value} (h : l.length = n) (m : Nat) : (l ++ x :: r).drop (n + 1 + m) = r.drop m := by
  subst h
  rw [List.drop_append]
  rw [List.drop_eq_nil_of_le (by omega), show l.length + 1 + m - l.length = m + 1 by omega]
  simp
theorem putA_size (vs : List Value) : ∀ (c : Array Value) (o : Nat), (putA c o vs).size = c.size := by
  induction vs with
  | nil => intro c o; rw [putA_nil]
  | cons v vs ih => intro c o; rw [putA_step, ih]; simp
theorem putA_toList (vs : List Value) : ∀ (c : Array Value) (o : Nat), o + vs.length ≤ c.size → (putA c o vs).toList = c.toList.take o ++ vs ++ c.toList.drop (o + vs.length) := by
  induction vs with
  | nil => intro c o h; rw [putA_nil]; simp
  | cons v vs ih =>
    intro c o h
    simp only [List.length_cons] at h
    rw [putA_step, ih _ _ (by simp; omega)]
    have hlt : o < c.toList.length := by simp; omega
    have h1 : (c.toList.take o).length = o := by rw [List.length_take]; omega
    simp only [Array.toList_setIfInBounds, List.length_cons]
    rw [List.set_eq_take_append_cons_drop, if_pos hlt]
    rw [take_snoc_of h1, drop_snoc_of h1 vs.length]
    simp [Nat.add_comm, Nat.add_left_comm]
/-- What is appended or copied: rows that may be read in a world. -/
def Src (w : World) (sz : Nat) (v : Value) (rows : List (List Value)) : Prop :=
  ∃ a cap, v = .slice a rows.length cap ∧ (∀ r ∈ rows, r.length = sz) ∧ (rows ≠ [] → ∃ b o, a = some ⟨b, o, none⟩ ∧ Cells w b o rows.flatten)
theorem flat_len {sz : Nat} : ∀ (rows : List (List Value)), (∀ r ∈ rows, r.length = sz) → rows.flatten.length = rows.length * sz
  | [], _ => by simp
  | r :: rows, h => by
    have := flat_len rows (fun x hx => h x (.tail _ hx))
    simp only [List.flatten_cons, List.length_append, this, h r (.head _), List.length_cons, Nat.succ_mul]; omega
theorem Sl.src {g : World} {h : Hp} {w : World} {L : List (Nat × Obj)} {sz : Nat} {v : Value} {rows : List (List Value)} (hs : Sl h sz v rows) (H : St g h w L) : Src w sz v rows := by
  obtain ⟨a, cap, h1, h2, h3, h4⟩ := hs
  exact ⟨a, cap, h1, h3, fun hne => by obtain ⟨b, o, hb, hc⟩ := h4 hne; exact ⟨b, o, hb, H.hcells hc⟩⟩
theorem Src.nil (w : World) (sz : Nat) : Src w sz (.slice none 0 0) [] := ⟨none, 0, rfl, by simp, fun h => absurd rfl h⟩
theorem Src.run {P : Program} {w : World} {sz : Nat} {v : Value} {rows : List (List Value)} (hs : Src w sz v rows) :
    (Builtin.firstCells sz rows.length v).run P w = .ok rows.flatten.toArray w ∧ (Builtin.lenOf v).run P w = .ok rows.length w := by
  obtain ⟨a, cap, rfl, h3, h4⟩ := hs
  refine ⟨?_, rfl⟩
  by_cases hne : rows = []
  · subst hne
    cases a with
    | none => rfl
    | some a => simp [Builtin.firstCells, loadCells, loadCellsFrom]
  · obtain ⟨b, o, rfl, hc⟩ := h4 hne
    have := run_loadCells (P := P) hc
    rw [flat_len rows h3] at this
    simpa [Builtin.firstCells] using this
/-- A slice whose block is owned: its rows, and the block (none of a nil slice). -/
def OwnSl (el sz : Nat) (v : Value) (rows : List (List Value)) (x : List (Nat × Obj)) : Prop :=
  (∀ r ∈ rows, r.length = sz ∧ oneCells r = true) ∧
  ((v = .slice none 0 0 ∧ rows = [] ∧ x = []) ∨
   (∃ b c cap, v = .slice (some ⟨b, 0, none⟩) rows.length cap ∧ rows.length ≤ cap ∧ c.size = cap * sz ∧ c.toList.take (rows.length * sz) = rows.flatten ∧ x = [(b, .cells c el (0, 0))]))
theorem OwnSl.nil (el sz : Nat) : OwnSl el sz (.slice none 0 0) [] [] := ⟨by simp, .inl ⟨rfl, rfl, rfl⟩⟩
section
variable {g : World} {h : Hp} {w : World} {L x : List (Nat × Obj)} {el sz : Nat} {v : Value} {rows : List (List Value)}
theorem OwnSl.len (ho : OwnSl el sz v rows x) : ∃ a cap, v = .slice a rows.length cap ∧ rows.length ≤ cap := by
  obtain ⟨_, ⟨rfl, rfl, rfl⟩ | ⟨b, c, cap, rfl, h1, _⟩⟩ := ho
  · exact ⟨none, 0, rfl, Nat.le_refl _⟩
  · exact ⟨_, cap, rfl, h1⟩
theorem take_get {c : List Value} {n : Nat} {r : List Value} (h : c.take n = r) {i : Nat} (hi : i < n) : c[i]? = r[i]? := by
  subst h; rw [List.getElem?_take, if_pos hi]
theorem OwnSl.src (ho : OwnSl el sz v rows x) (H : St g h w (x ++ L)) : Src w sz v rows := by
  obtain ⟨hr, ⟨rfl, rfl, rfl⟩ | ⟨b, c, cap, rfl, h1, h2, h3, rfl⟩⟩ := ho
  · exact Src.nil w sz
  · refine ⟨_, cap, rfl, fun r h => (hr r h).1, fun _ => ⟨b, 0, rfl, fun i hi => ?_⟩⟩
    have hb := H.own (b, .cells c el (0, 0)) (by simp)
    simp only [World.cell?, hb]
    rw [if_neg (by simp)]
    have hl := flat_len rows (fun r h => (hr r h).1)
    have := take_get h3 (i := i) (by omega)
    rw [← this]; simp
/-- An owned slice is sealed. -/
theorem OwnSl.sealIt (ho : OwnSl el sz v rows x) (H : St g h w (x ++ L)) : ∃ h', h.le h' ∧ St g h' w L ∧ Sl h' sz v rows := by
  obtain ⟨hr, ⟨rfl, rfl, rfl⟩ | ⟨b, c, cap, rfl, h1, h2, h3, rfl⟩⟩ := ho
  · exact ⟨h, Hp.le_refl h, H, Sl.nil h sz⟩
  · refine ⟨h.add b (.cells c el (0, 0)), St.seal_le H, St.sealIt H, _, cap, rfl, h1, fun r hx => (hr r hx).1, fun _ => ⟨b, 0, rfl, c, el, (0, 0), Hp.add_same _ _ _, fun i hi => ?_⟩⟩
    have hl := flat_len rows (fun r h => (hr r h).1)
    have := take_get h3 (i := i) (by omega)
    rw [← this]; simp
theorem growBy_le (n : Nat) : ∀ (k c : Nat), Builtin.growBy n k c ≤ max c (n + (n + 768) / 4)
  | 0, c => by simp [Builtin.growBy]; omega
  | k + 1, c => by
    unfold Builtin.growBy
    split
    · omega
    · have := growBy_le n k (c + (c + 768) / 4)
      omega
theorem nextslicecap_le {n c : Nat} (h : c < n) : Builtin.nextslicecap n c ≤ 2 * n + 1024 := by
  unfold Builtin.nextslicecap
  split
  · omega
  · split
    · omega
    · have := growBy_le n 4 c
      omega
theorem append_own {P : Program} {t t2 : TypeId} {i i2 j : TI} (ht : TyOk P t i) (hk : i.k = .slice el) (ht2 : TyOk P t2 i2) (hk2 : i2.k = .slice el) (hj : TyOk P el j) (hsz : j.size = sz) (hb0 : j.bytes ≠ 0)
    (H : St g h w (x ++ L)) (ho : OwnSl el sz v rows x) {xv : Value} {new : List (List Value)} (hx : Src w sz xv new) (hnew : ∀ r ∈ new, oneCells r = true)
    (hb : (2 * (rows.length + new.length) + 1024) * j.bytes ≤ 281474976710656) (ty : TypeId) :
    ∃ v' w' x', (Builtin.append_ #[t, t2] ty #[v, xv]).run P w = .ok v' w' ∧ OwnSl el sz v' (rows ++ new) x' ∧ St g h w' (x' ++ L) := by
  have hx0 := hx
  obtain ⟨d, hd, hdk, -⟩ := ht.underlying w
  obtain ⟨d2, hd2, hdk2, -⟩ := ht2.underlying w
  rw [hk] at hdk
  rw [hk2] at hdk2
  have hs := hj.sizeOf w
  have hz := hj.zeroValue w
  have hzs := hj.zsz
  obtain ⟨xi, hxi, _, hxb, _⟩ := hj.typeInfo w
  cases d <;> simp [dk] at hdk
  cases d2 <;> simp [dk] at hdk2
  rw [hdk] at hd
  rw [hdk2] at hd2
  clear hdk hdk2
  have hno : ∀ (dd : TypeId), (match TypeDesc.slice dd with | TypeDesc.int _ => true | _ => false) = false := fun _ => rfl
  obtain ⟨hf, hl⟩ := hx.run (P := P)
  obtain ⟨ax, capx, rfl, hxr, hxc⟩ := hx
  have hrows := ho.1
  have hsrc := ho.src H
  obtain ⟨hfo, hlo⟩ := hsrc.run (P := P)
  obtain ⟨a, cap, hv, hcap⟩ := ho.len
  have hrn : ∀ r ∈ rows ++ new, r.length = sz ∧ oneCells r = true := fun r hr => by
    rcases List.mem_append.1 hr with hr | hr
    · exact hrows r hr
    · exact ⟨hxr r hr, hnew r hr⟩
  have hfl := flat_len rows (fun r h => (hrows r h).1)
  have hfn := flat_len new hxr
  have hone : oneCells new.flatten = true := by
    unfold oneCells
    rw [List.all_eq_true]
    intro v hv
    obtain ⟨r, hr, hvr⟩ := List.mem_flatten.1 hv
    exact List.all_eq_true.1 (hnew r hr) v hvr
  subst hv
  by_cases hfit : rows.length + new.length ≤ cap
  · -- it fits
    obtain ⟨hr, ⟨he, rfl, rfl⟩ | ⟨b, c, cap', he, h1, h2, h3, rfl⟩⟩ := ho
    · cases he
      have hn0 : new.length = 0 := by simpa using hfit
      have hn1 : new = [] := List.length_eq_zero_iff.1 hn0
      subst hn1
      refine ⟨.slice none 0 0, w, [], ?_, ⟨by simp, .inl ⟨rfl, rfl, rfl⟩⟩, H⟩
      unfold Builtin.append_
      simp [hd, hd2, hs, hsz, Builtin.lenOf]
      cases ax <;> simp [Builtin.firstCells, loadCells, loadCellsFrom]
    · cases he
      have hbk := H.own (b, .cells c el (0, 0)) (by simp)
      have hbk : w.heap[b]? = some (.cells c el (0, 0)) := hbk
      have hmul : (rows.length + new.length) * sz ≤ cap * sz := Nat.mul_le_mul_right _ hfit
      rw [Nat.add_mul] at hmul
      have hst := run_storeCells (P := P) (b := b) (o := rows.length * sz) new.flatten 0 w hone ⟨c, el, (0, 0), hbk, by rw [hfn, h2]; omega, rfl⟩
      have hput := H.put (b := b) (c := c) (e := el) (fz := (0, 0)) (o := rows.length * sz) (k := 0) .head new.flatten
      refine ⟨.slice (some ⟨b, 0, none⟩) (rows.length + new.length) cap, World.put w b (rows.length * sz) new.flatten, [(b, .cells (putA c (rows.length * sz) new.flatten) el (0, 0))], ?_, ⟨hrn, .inr ⟨b, _, cap, by simp, by simpa using hfit, by rw [putA_size]; exact h2, ?_, rfl⟩⟩, hput⟩
      · unfold Builtin.append_
        have hcond : (rows.length + new.length ≤ cap) = True := by simp [hfit]
        simp only [Sem.run_bind, List.getElem?_toArray, List.getElem?_cons_zero, List.getElem?_cons_succ, hd, hd2, Result.andThen_ok, hs, hsz, Sem.run_pure]
        simp only [Bool.false_eq_true, if_false, hl, Result.andThen_ok, hcond, if_true, Sem.run_bind, hf, Sem.run_pure, Bool.not_false]
        rw [addr_add, Nat.zero_add]
        rw [Nat.add_zero] at hst
        rw [hst]
        rfl
      · rw [putA_toList _ _ _ (by rw [hfn, h2]; omega)]
        rw [List.length_append, Nat.add_mul, List.flatten_append]
        have h4 : (c.toList.take (rows.length * sz)).length = rows.length * sz := by rw [h3, hfl]
        rw [h3, List.append_assoc, List.take_append, List.take_of_length_le (by rw [hfl]; omega), hfl, show rows.length * sz + new.length * sz - rows.length * sz = new.length * sz by omega, List.take_append, List.take_of_length_le (by rw [hfn]; omega), hfn, Nat.sub_self]
        simp
  · -- it grows
    have hnext := nextslicecap_le (n := rows.length + new.length) (c := cap) (by omega)
    have hnb : ¬ (Builtin.nextslicecap (rows.length + new.length) cap * xi.bytes > 281474976710656) := by
      have : Builtin.nextslicecap (rows.length + new.length) cap * j.bytes ≤ (2 * (rows.length + new.length) + 1024) * j.bytes := Nat.mul_le_mul_right _ hnext
      rw [hxb]; omega
    generalize hcap' : (w.tape w.drawn (.appendCap (rows.length + new.length) cap el)) = tp
    have hnb' : ¬ (Builtin.nextslicecap (rows.length + new.length) cap * xi.bytes > 2 ^ 48) := hnb
    generalize hnc : Question.cut (.appendCap (rows.length + new.length) cap el) tp = nc
    have hncle : rows.length + new.length ≤ nc := by rw [← hnc]; simp only [Question.cut]; omega
    have hzz : (Builtin.zeroCells j.zero.cells (nc - (rows.length + new.length))).size = (nc - (rows.length + new.length)) * sz := by
      simp only [Builtin.zeroCells, Array.size_map, Array.size_range]
      have : j.zero.cells.size = sz := by rw [← hsz, ← hzs]; simp
      rw [this]
    refine ⟨.slice (some ⟨w.heap.size, 0, none⟩) (rows.length + new.length) nc, w.drew.alloc (.cells (rows.flatten.toArray ++ new.flatten.toArray ++ Builtin.zeroCells j.zero.cells (nc - (rows.length + new.length))) el),
      [(w.heap.size, .cells (rows.flatten.toArray ++ new.flatten.toArray ++ Builtin.zeroCells j.zero.cells (nc - (rows.length + new.length))) el)], ?_,
      ⟨hrn, .inr ⟨_, _, nc, by simp, by simpa using hncle, ?_, ?_, rfl⟩⟩, ?_⟩
    · unfold Builtin.append_
      have hcond : (rows.length + new.length ≤ cap) = False := by simp; omega
      simp only [Sem.run_bind, List.getElem?_toArray, List.getElem?_cons_zero, List.getElem?_cons_succ, hd, hd2, Result.andThen_ok, hs, hsz, Sem.run_pure]
      simp only [Bool.false_eq_true, if_false, hl, Result.andThen_ok, hcond, Sem.run_bind, hf, Sem.run_pure, Bool.not_false, if_true]
      simp only [hxi, Result.andThen_ok]
      rw [if_neg (by rintro ⟨_, hh | hh⟩ <;> first | exact hh | exact hb0 (hxb ▸ hh))]
      simp only [Sem.run_bind, hxi, Result.andThen_ok]
      rw [if_neg hnb']
      have hch : (choose (.appendCap (rows.length + new.length) cap el)).run P w = .ok nc w.drew := by
        rw [run_choose, if_neg (by simp [Question.forced]), hcap', hnc]; rfl
      obtain ⟨xi2, hxi2, _, _, _⟩ := hj.typeInfo w.drew
      have hz2 := hj.zeroValue w.drew
      have hf2 := ((OwnSl.src ho H.drew).run (P := P)).1
      have hg2 : (Builtin.firstCells sz new.length (.slice ax new.length capx)).run P w.drew = .ok new.flatten.toArray w.drew := by
        have h0 : Src w.drew sz (.slice ax new.length capx) new := hx0
        exact (h0.run (P := P)).1
      simp only [Sem.run_bind, hch, Result.andThen_ok, hxi2, run_askRoom, hf2, hg2, hz2, run_newRow, Sem.run_pure]
      rfl
    · simp only [Array.size_append, List.size_toArray, hfl, hfn, hzz]
      rw [← Nat.add_mul, ← Nat.add_mul]; congr 1; omega
    · simp only [Array.toList_append, List.append_assoc, List.length_append, Nat.add_mul, List.flatten_append]
      rw [List.take_append, List.take_of_length_le (by rw [hfl]; omega), hfl, show rows.length * sz + new.length * sz - rows.length * sz = new.length * sz by omega, List.take_append, List.take_of_length_le (by rw [hfn]; omega), hfn, Nat.sub_self]
      simp
    · have hx' : St g h w L := H.sub (List.sublist_append_right _ _)
      exact hx'.drew.alloc _
end
end RL
