/- Moves for append, for cutting with a capacity, for shifts. Conditions: the table fits the program's types; what is appended is short. -/
import Derived.Test.YtbdoinigeaaclaaGreatK10
import Derived.Laws.StructEq
set_option linter.all false
namespace RL
open Go
section
variable {g : World} {h : Hp} {w : World} {L : List (Nat × Obj)}
theorem RunO.app {P : Program} {tab : Tab} (hT : TabOk P tab) {t t2 el : TypeId} {i i2 j : TI} (hi : tab t = some i) (hk : i.k = .slice el) (hi2 : tab t2 = some i2) (hk2 : i2.k = .slice el) (hj : tab el = some j)
    (hb0 : Nat.beq j.bytes 0 = false) {d : Option Tmp} {s x : Operand} {ty : TypeId} {pos : String} {af : Array Edge} {gd : Option (Nat × Bool)} {e : Env} {rows new : List (List Value)} {xx : List (Nat × Obj)}
    (H : St g h w (xx ++ L)) (ho : OwnSl el j.size (ev e s) rows xx) (hx : Src w j.size (ev e x) new) (hnew : ∀ r ∈ new, oneCells r = true) (hb : (2 * (rows.length + new.length) + 1024) * j.bytes ≤ 281474976710656)
    {K : Value → World → Prop} (k : ∀ v' w' x', OwnSl el j.size v' (rows ++ new) x' → St g h w' (x' ++ L) → K v' w') :
    RunO P ⟨d, .call ⟨.builtin .append, #[s, x], #[t, t2]⟩, ty, pos, af, gd⟩ e w K := by
  obtain ⟨v', w', x', h1, h2, h3⟩ := append_own (hT.ty _ _ hi) hk (hT.ty _ _ hi2) hk2 (hT.ty _ _ hj) rfl (fun h0 => by rw [h0] at hb0; cases hb0) H ho hx hnew hb ty
  refine ⟨⟨v', w', .inl ?_, k v' w' x' h2 h3⟩⟩
  have he : execOp (ev e) ⟨d, .call ⟨.builtin .append, #[s, x], #[t, t2]⟩, ty, pos, af, gd⟩ = (Builtin.append_ #[t, t2] ty #[ev e s, ev e x] >>= fun r => pure (.value r)) := by
    show (Pure.pure _ >>= fun d : Deferred => invoke d.target d.args) = _
    rw [pure_bind]
    simp only [invoke, Go.builtin, List.map_toArray, List.map_cons, List.map_nil]
  rw [he, Sem.run_bind, h1]; rfl
theorem ArO.u64 {z : Int} {K : Value → Prop} (h : K (.int .u64 z)) (h1 : 0 ≤ z := by omega) (h2 : z ≤ 18446744073709551615 := by omega) : ArO .u64 z K := by
  refine ⟨?_⟩
  have : IntKind.u64.wrap z = z := by simp [IntKind.wrap, IntKind.bits, IntKind.signed]; omega
  rw [this]; exact h
theorem ShO.shr {k : IntKind} {a b : Int} {n : Nat} {K : Value → Prop} (hb : b = n) (hn : n ≤ k.bits) (h : K (.int k (a / 2 ^ n))) : ShO k .shr a b K := by
  subst hb
  refine ⟨by omega, ?_⟩
  have h1 : min ((n : Int).toNat) k.bits = n := by simp; omega
  show K (.int k (a.fdiv (2 ^ (min ((n : Int).toNat) k.bits))))
  rw [h1, Int.fdiv_eq_ediv_of_nonneg _ (by exact Int.pow_nonneg (by decide))]
  exact h
/-- 'x[:n:n]' of a slice of n: what is appended to it next is laid anew. -/
theorem Sl.clipO {sz : Nat} {v : Value} {rows : List (List Value)} {kk kk' : IntKind} (hs : Sl h sz v rows) {K : Value → Prop} (k : ∀ a, Sl h sz (.slice a rows.length rows.length) rows → K (.slice a rows.length rows.length)) :
    SlcO sz v none (some (.int kk (rows.length : Int))) (some (.int kk' (rows.length : Int))) K := by
  obtain ⟨a, cap, rfl, h2, h3, h4⟩ := hs
  refine ⟨⟨a, rows.length, cap, 0, rows.length, rows.length, rfl, by omega, by omega, by omega, ⟨kk', rfl⟩, ⟨kk, rfl⟩, rfl, ?_⟩⟩
  have := k a ⟨a, rows.length, rfl, Nat.le_refl _, h3, h4⟩
  rw [Nat.zero_mul, map_add_zero, Nat.sub_zero]
  simpa using this
/-- A full sealed slice is appended to: it is laid anew. -/
theorem append_full {P : Program} {t t2 el : TypeId} {i i2 j : TI} {sz : Nat} (ht : TyOk P t i) (hk : i.k = .slice el) (ht2 : TyOk P t2 i2) (hk2 : i2.k = .slice el) (hj : TyOk P el j) (hsz : j.size = sz) (hb0 : j.bytes ≠ 0)
    (H : St g h w L) {a : Option Addr} {rows : List (List Value)} (hs : Sl h sz (.slice a rows.length rows.length) rows) (hone : ∀ r ∈ rows, oneCells r = true) {xv : Value} {new : List (List Value)} (hx : Src w sz xv new)
    (hne : new ≠ []) (hnew : ∀ r ∈ new, oneCells r = true) (hb : (2 * (rows.length + new.length) + 1024) * j.bytes ≤ 281474976710656) (ty : TypeId) :
    ∃ v' w' x', (Builtin.append_ #[t, t2] ty #[.slice a rows.length rows.length, xv]).run P w = .ok v' w' ∧ OwnSl el sz v' (rows ++ new) x' ∧ St g h w' (x' ++ L) := by
  have hx0 := hx
  have hsrc := hs.src H
  obtain ⟨d, hd, hdk, -⟩ := ht.underlying w
  obtain ⟨d2, hd2, hdk2, -⟩ := ht2.underlying w
  rw [hk] at hdk
  rw [hk2] at hdk2
  have hs' := hj.sizeOf w
  have hzs := hj.zsz
  obtain ⟨xi, hxi, _, hxb, _⟩ := hj.typeInfo w
  cases d <;> simp [dk] at hdk
  cases d2 <;> simp [dk] at hdk2
  rw [hdk] at hd
  rw [hdk2] at hd2
  clear hdk hdk2
  obtain ⟨hf, hl⟩ := hx.run (P := P)
  obtain ⟨ax, capx, rfl, hxr, hxc⟩ := hx
  have hrows := hs.rlen
  obtain ⟨hfo, hlo⟩ := hsrc.run (P := P)
  have hfl := flat_len rows hrows
  have hfn := flat_len new hxr
  have hpos : 0 < new.length := List.length_pos_iff.2 hne
  have hrn : ∀ r ∈ rows ++ new, r.length = sz ∧ oneCells r = true := fun r hr => by
    rcases List.mem_append.1 hr with hr | hr
    · exact ⟨hrows r hr, hone r hr⟩
    · exact ⟨hxr r hr, hnew r hr⟩
  have hnext := nextslicecap_le (n := rows.length + new.length) (c := rows.length) (by omega)
  have hnb : ¬ (Builtin.nextslicecap (rows.length + new.length) rows.length * xi.bytes > 281474976710656) := by
    have : Builtin.nextslicecap (rows.length + new.length) rows.length * j.bytes ≤ (2 * (rows.length + new.length) + 1024) * j.bytes := Nat.mul_le_mul_right _ hnext
    rw [hxb]; omega
  generalize hcap' : (w.tape w.drawn (.appendCap (rows.length + new.length) rows.length el)) = tp
  have hnb' : ¬ (Builtin.nextslicecap (rows.length + new.length) rows.length * xi.bytes > 2 ^ 48) := hnb
  generalize hnc : Question.cut (.appendCap (rows.length + new.length) rows.length el) tp = nc
  have hncle : rows.length + new.length ≤ nc := by rw [← hnc]; simp only [Question.cut]; omega
  have hzz : (Builtin.zeroCells j.zero.cells (nc - (rows.length + new.length))).size = (nc - (rows.length + new.length)) * sz := by
    simp only [Builtin.zeroCells, Array.size_map, Array.size_range]
    have : j.zero.cells.size = sz := by rw [← hsz, ← hzs]; simp
    rw [this]
  refine ⟨.slice (some ⟨w.heap.size, 0, none⟩) (rows.length + new.length) nc, w.drew.alloc (.cells (rows.flatten.toArray ++ new.flatten.toArray ++ Builtin.zeroCells j.zero.cells (nc - (rows.length + new.length))) el),
    [(w.heap.size, .cells (rows.flatten.toArray ++ new.flatten.toArray ++ Builtin.zeroCells j.zero.cells (nc - (rows.length + new.length))) el)], ?_,
    ⟨hrn, .inr ⟨_, _, nc, by simp, by simpa using hncle, ?_, ?_, rfl⟩⟩, H.drew.alloc _⟩
  · unfold Builtin.append_
    have hcond : (rows.length + new.length ≤ rows.length) = False := by simp; omega
    simp only [Sem.run_bind, List.getElem?_toArray, List.getElem?_cons_zero, List.getElem?_cons_succ, hd, hd2, Result.andThen_ok, hs', hsz, Sem.run_pure]
    simp only [Bool.false_eq_true, if_false, hl, Result.andThen_ok, hcond, Sem.run_bind, Sem.run_pure, Bool.not_false, if_true]
    simp only [hxi, Result.andThen_ok]
    rw [if_neg (by rintro ⟨_, hh | hh⟩ <;> first | exact hh | exact hb0 (hxb ▸ hh))]
    simp only [Sem.run_bind, hxi, Result.andThen_ok]
    rw [if_neg hnb']
    have hch : (choose (.appendCap (rows.length + new.length) rows.length el)).run P w = .ok nc w.drew := by
      rw [run_choose, if_neg (by simp [Question.forced]), hcap', hnc]; rfl
    obtain ⟨xi2, hxi2, _, _, _⟩ := hj.typeInfo w.drew
    have hz2 := hj.zeroValue w.drew
    have hf2 := ((hs.src H.drew).run (P := P)).1
    have hg2 : (Builtin.firstCells sz new.length (.slice ax new.length capx)).run P w.drew = .ok new.flatten.toArray w.drew := by
      have h0 : Src w.drew sz (.slice ax new.length capx) new := hx0
      exact (h0.run (P := P)).1
    simp only [Sem.run_bind, hch, Result.andThen_ok, hxi2, run_askRoom, hf2, hg2, hz2, run_newRow, Sem.run_pure]
    rfl
  · simp only [Array.size_append, List.size_toArray, hfl, hfn, hzz]
    rw [← Nat.add_mul, ← Nat.add_mul]; congr 1; omega
  · simp only [Array.toList_append, List.append_assoc, List.length_append, Nat.add_mul, List.flatten_append]
    rw [List.take_append, List.take_of_length_le (by rw [hfl]; omega), hfl, show rows.length * sz + new.length * sz - rows.length * sz = new.length * sz by omega, List.take_append, List.take_of_length_le (by rw [hfn]; omega), hfn, Nat.sub_self]
    simp
theorem RunO.appFull {P : Program} {tab : Tab} (hT : TabOk P tab) {t t2 el : TypeId} {i i2 j : TI} (hi : tab t = some i) (hk : i.k = .slice el) (hi2 : tab t2 = some i2) (hk2 : i2.k = .slice el) (hj : tab el = some j)
    (hb0 : Nat.beq j.bytes 0 = false) {d : Option Tmp} {s x : Operand} {ty : TypeId} {pos : String} {af : Array Edge} {gd : Option (Nat × Bool)} {e : Env} {rows new : List (List Value)} {a : Option Addr}
    (H : St g h w L) (hv : ev e s = .slice a rows.length rows.length) (hs : Sl h j.size (.slice a rows.length rows.length) rows) (hone : ∀ r ∈ rows, oneCells r = true) (hx : Src w j.size (ev e x) new) (hne : new ≠ [])
    (hnew : ∀ r ∈ new, oneCells r = true) (hb : (2 * (rows.length + new.length) + 1024) * j.bytes ≤ 281474976710656)
    {K : Value → World → Prop} (k : ∀ v' w' x', OwnSl el j.size v' (rows ++ new) x' → St g h w' (x' ++ L) → K v' w') :
    RunO P ⟨d, .call ⟨.builtin .append, #[s, x], #[t, t2]⟩, ty, pos, af, gd⟩ e w K := by
  obtain ⟨v', w', x', h1, h2, h3⟩ := append_full (hT.ty _ _ hi) hk (hT.ty _ _ hi2) hk2 (hT.ty _ _ hj) rfl (fun h0 => by rw [h0] at hb0; cases hb0) H hs hone hx hne hnew hb ty
  refine ⟨⟨v', w', .inl ?_, k v' w' x' h2 h3⟩⟩
  have he : execOp (ev e) ⟨d, .call ⟨.builtin .append, #[s, x], #[t, t2]⟩, ty, pos, af, gd⟩ = (Builtin.append_ #[t, t2] ty #[ev e s, ev e x] >>= fun r => pure (.value r)) := by
    show (Pure.pure _ >>= fun d : Deferred => invoke d.target d.args) = _
    rw [pure_bind]
    simp only [invoke, Go.builtin, List.map_toArray, List.map_cons, List.map_nil]
  rw [he, Sem.run_bind, hv, h1]; rfl
/-- A row that lies alone in an owned block may be read. -/
theorem St.srcOwn {b k sz : Nat} {c : Array Value} {e : TypeId} {fz : Nat × Nat} (H : St g h w L) (ha : At (b, .cells c e fz) k L) {rows : List (List Value)} (hr : ∀ r ∈ rows, r.length = sz) (hc : c.toList = rows.flatten) {n cap : Nat} (hn : n = rows.length) :
    Src w sz (.slice (some ⟨b, 0, none⟩) n cap) rows := by
  subst hn
  refine ⟨_, cap, rfl, hr, fun _ => ⟨b, 0, rfl, fun i hi => ?_⟩⟩
  have := H.own _ ha.mem
  simp only [World.cell?, this]
  rw [if_neg (by simp), ← hc]; simp
end
end RL
