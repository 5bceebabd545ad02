/- More on owned slices: a part of one as a source, what lies in one behind two copies. Conditions: none. -/
import Derived.Test.YtbdoinigeaaclaaGreatK12
set_option linter.all false
namespace RL
open Go
section
variable {g : World} {h : Hp} {w : World} {L : List (Nat × Obj)}
theorem SlcO.lo' {sz : Nat} {b o len cap n : Nat} {kk : IntKind} {z : Int} (hz : z = n) (hn : n ≤ len) (hc : len ≤ cap) (hlt : n < cap) {K : Value → Prop} (k : K (.slice (some ⟨b, o + n * sz, none⟩) (len - n) (cap - n))) :
    SlcO sz (.slice (some ⟨b, o, none⟩) len cap) (some (.int kk z)) none none K :=
  SlcO.lo hz hn hc (by rw [if_neg (by omega), Option.map_some, addr_add]; exact k)
theorem oneCells_flatten {rows : List (List Value)} (h : ∀ r ∈ rows, oneCells r = true) : oneCells rows.flatten = true := by
  unfold oneCells at h ⊢
  simp only [List.all_eq_true] at h ⊢
  intro v hv
  obtain ⟨r, hr, hvr⟩ := List.mem_flatten.1 hv
  exact h r hr v hvr
theorem flatten_take {sz : Nat} : ∀ {rows : List (List Value)} (_ : ∀ r ∈ rows, r.length = sz) (i : Nat), (rows.take i).flatten = rows.flatten.take (i * sz)
  | [], _, i => by simp
  | r :: rows, h, 0 => by simp
  | r :: rows, h, i + 1 => by
    have h1 := h r (.head _)
    have := flatten_take (fun x hx => h x (.tail _ hx)) i (rows := rows)
    simp only [List.take_succ_cons, List.flatten_cons, this]
    rw [Nat.add_mul, Nat.one_mul, Nat.add_comm, ← h1, List.take_length_add_append]
theorem flatten_drop {sz : Nat} : ∀ {rows : List (List Value)} (_ : ∀ r ∈ rows, r.length = sz) (i : Nat), (rows.drop i).flatten = rows.flatten.drop (i * sz)
  | [], _, i => by simp
  | r :: rows, h, 0 => by simp
  | r :: rows, h, i + 1 => by
    have h1 := h r (.head _)
    have := flatten_drop (fun x hx => h x (.tail _ hx)) i (rows := rows)
    simp only [List.drop_succ_cons, List.flatten_cons, this]
    rw [Nat.add_mul, Nat.one_mul, Nat.add_comm, ← h1, List.drop_length_add_append]
theorem take_get' {c : List Value} {n : Nat} {r : List Value} (h : c.take n = r) {o i : Nat} (hi : o + i < n) : c[o + i]? = (r.drop o)[i]? := by
  subst h; rw [List.getElem?_drop, List.getElem?_take, if_pos hi]
/-- The first rows of an owned slice, as a source. -/
theorem St.srcTake {sz el kk : Nat} {b cap : Nat} {c : Array Value} {rows : List (List Value)} (H : St g h w L) (ha : At (b, .cells c el (0, 0)) kk L) (hr : ∀ r ∈ rows, r.length = sz) (h3 : c.toList.take (rows.length * sz) = rows.flatten) {i : Nat} (hi : i ≤ rows.length) :
    Src w sz (.slice (some ⟨b, 0, none⟩) i cap) (rows.take i) := by
  have hl : (rows.take i).length = i := by rw [List.length_take]; omega
  refine ⟨some ⟨b, 0, none⟩, cap, by rw [hl], fun r h => hr r (List.mem_of_mem_take h), fun _ => ⟨b, 0, rfl, ?_⟩⟩
  refine H.cellsAt ha fun j hj => ?_
  rw [flatten_take hr] at hj ⊢
  rw [List.length_take] at hj
  have hfl := flat_len rows hr
  have := take_get h3 (i := j) (by rw [← hfl]; omega)
  rw [Nat.zero_add, this, List.getElem?_take, if_pos (by omega)]
theorem St.cellsDrop {sz el kk : Nat} {b : Nat} {c : Array Value} {rows : List (List Value)} (H : St g h w L) (ha : At (b, .cells c el (0, 0)) kk L) (hr : ∀ r ∈ rows, r.length = sz) (h3 : c.toList.take (rows.length * sz) = rows.flatten) {i : Nat} :
    Cells w b (0 + i * sz) (rows.drop i).flatten := by
  refine H.cellsAt ha fun j hj => ?_
  rw [flatten_drop hr] at hj ⊢
  have hfl := flat_len rows hr
  rw [List.length_drop, hfl] at hj
  rw [Nat.zero_add]
  exact take_get' h3 (by omega)
theorem St.cellsMem {b : Nat} {r : List Value} {e : TypeId} {fz : Nat × Nat} (H : St g h w L) (ha : (b, .cells r.toArray e fz) ∈ L) : Cells w b 0 r := fun i hi => by
  have := H.own _ ha
  simp only [World.cell?, this]
  rw [if_neg (by simp), Nat.zero_add]; simp
theorem LdQ.cells {S : World → Prop} {b n : Nat} {vs : List Value} (hc : ∀ w, S w → Cells w b 0 vs) (hn : Nat.beq vs.length n = true) {K : Value → Prop} (k : K (.agg vs.toArray)) :
    LdQ S true n (.pointer (some ⟨b, 0, none⟩)) K := ⟨⟨_, fun w hS => ⟨b, 0, rfl, vs, rfl, Nat.eq_of_beq_eq_true hn, hc w hS⟩, k⟩⟩
theorem bytes_le {n b : Nat} (hn : n ≤ 1000000) (hb : b ≤ 1024) : (2 * n + 1024) * b ≤ 281474976710656 := by
  have h1 : (2 * n + 1024) ≤ 2001024 := by omega
  exact Nat.le_trans (Nat.mul_le_mul h1 hb) (by decide)
/-- append to an owned slice, the bound said shortly. -/
theorem RunO.apps {P : Program} {tab : Tab} (hT : TabOk P tab) {t t2 el : TypeId} {i i2 j : TI} (hi : tab t = some i) (hk : i.k = .slice el) (hi2 : tab t2 = some i2) (hk2 : i2.k = .slice el) (hj : tab el = some j)
    (hb0 : Nat.beq j.bytes 0 = false) (hb1 : Nat.ble j.bytes 1024 = true) {d : Option Tmp} {s x : Operand} {ty : TypeId} {pos : String} {af : Array Edge} {gd : Option (Nat × Bool)} {e : Env} {rows new : List (List Value)} {xx : List (Nat × Obj)}
    (H : St g h w (xx ++ L)) (ho : OwnSl el j.size (ev e s) rows xx) (hx : Src w j.size (ev e x) new) (hnew : ∀ r ∈ new, oneCells r = true) {n m : Nat} (hn : rows.length = n) (hm : new.length = m) (hnm : n + m ≤ 1000000)
    {K : Value → World → Prop} (k : ∀ v' w' x', OwnSl el j.size v' (rows ++ new) x' → St g h w' (x' ++ L) → K v' w') :
    RunO P ⟨d, .call ⟨.builtin .append, #[s, x], #[t, t2]⟩, ty, pos, af, gd⟩ e w K := by
  have h1 : j.bytes ≤ 1024 := Nat.le_of_ble_eq_true hb1
  have h3 : (2 * (rows.length + new.length) + 1024) * j.bytes ≤ 281474976710656 := by
    subst hn hm
    exact bytes_le hnm h1
  exact RunO.app hT hi hk hi2 hk2 hj hb0 H ho hx hnew h3 k
/-- What lies behind two copies, the low one first. -/
theorem put_low {c : Array Value} {o : Nat} {T r D : List Value} (hT : c.toList.take o = T) (ho : T.length = o) (hs : o + r.length + D.length ≤ c.size) :
    (putA (putA c o r) (o + r.length) D).toList.take (o + r.length + D.length) = T ++ r ++ D := by
  have h1 := putA_toList r c o (by omega)
  have h2 := putA_toList D (putA c o r) (o + r.length) (by rw [putA_size]; omega)
  rw [h2, h1, hT]
  have h3 : (T ++ r ++ c.toList.drop (o + r.length)).take (o + r.length) = T ++ r := by
    rw [List.take_append_of_le_length (by simp; omega)]
    rw [List.take_of_length_le (by simp; omega)]
  rw [h3, List.take_append_of_le_length (by simp; omega), List.take_of_length_le (by simp; omega)]
/-- The high one first. -/
theorem put_high {c : Array Value} {o : Nat} {T r D : List Value} (hT : c.toList.take o = T) (ho : T.length = o) (hs : o + r.length + D.length ≤ c.size) :
    (putA (putA c (o + r.length) D) o r).toList.take (o + r.length + D.length) = T ++ r ++ D := by
  have h2 := putA_toList D c (o + r.length) (by omega)
  have h1 := putA_toList r (putA c (o + r.length) D) o (by rw [putA_size]; omega)
  have hcl : c.toList.length = c.size := by simp
  have h4 : (c.toList.take (o + r.length)).length = o + r.length := by rw [List.length_take]; omega
  have h5 : (putA c (o + r.length) D).toList.take o = T := by
    rw [h2, List.append_assoc, List.take_append_of_le_length (by omega), List.take_take, Nat.min_eq_left (by omega), hT]
  have h6 : (putA c (o + r.length) D).toList.drop (o + r.length) = D ++ c.toList.drop (o + r.length + D.length) := by
    rw [h2, List.append_assoc, List.drop_append_of_le_length (by omega), List.drop_of_length_le (by omega), List.nil_append]
  rw [h1, h5, h6, ← List.append_assoc, List.take_append_of_le_length (by simp; omega), List.take_of_length_le (by simp; omega)]
theorem OwnSl.lenM {el sz : Nat} {v : Value} {x : List (Nat × Obj)} {α : Type} {f : α → List Value} {xs : List α} (ho : OwnSl el sz v (xs.map f) x) : ∃ a cap, v = .slice a xs.length cap := by
  obtain ⟨a, cap, h1, _⟩ := ho.len
  rw [List.length_map] at h1
  exact ⟨a, cap, h1⟩
theorem IdxO.at0 {sz b len cap i : Nat} {kk : IntKind} {z : Int} (hz : z = i) (hi : i < len) {K : Value → Prop} (k : K (.pointer (some ⟨b, i * sz, none⟩))) : IdxO sz (.slice (some ⟨b, 0, none⟩) len cap) (.int kk z) K := by
  subst hz
  refine ⟨⟨b, 0, len, cap, kk, i, rfl, rfl, by omega, by omega, ?_⟩⟩
  rw [Nat.zero_add]; exact k
theorem putA_one (c : Array Value) (o : Nat) (v : Value) : (putA c o [v]).toList = c.toList.set o v := by
  rw [putA_step, putA_nil]; simp
theorem flatten_set {sz : Nat} (v : Value) {j : Nat} (hj : j < sz) : ∀ {rows : List (List Value)} (_ : ∀ r ∈ rows, r.length = sz) (i : Nat), rows.flatten.set (i * sz + j) v = (rows.modify i (·.set j v)).flatten
  | [], _, i => by simp
  | r :: rows, h, 0 => by
    have h1 := h r (.head _)
    simp only [List.flatten_cons, Nat.zero_mul, Nat.zero_add, List.modify_zero_cons]
    rw [List.set_append_left _ _ (by omega)]
  | r :: rows, h, i + 1 => by
    have h1 := h r (.head _)
    have := flatten_set v hj (fun x hx => h x (.tail _ hx)) i (rows := rows)
    simp only [List.flatten_cons, List.modify_succ_cons]
    rw [List.set_append_right _ _ (by rw [h1, Nat.add_mul]; omega), ← this]
    congr 2
    rw [h1, Nat.add_mul]; omega
theorem St.pull {A x : List (Nat × Obj)} (H : St g h w (A ++ (x ++ L))) : St g h w (x ++ (A ++ L)) := H.perm (List.perm_append_comm_assoc _ _ _)
/-- A region that draws its order, what its quiet loads need said apart. -/
theorem DrawO.wi {P : Program} {tab : Tab} {ops : Array Oper} {K : Env → List Deferred → World → Prop} {e : Env} {ds : List Deferred} (H : St g h w L) (S : World → Prop) (hS : ∀ w, St g h w L → S w) (p : Plan) (hp : planAll ops p = true)
    (k : ∀ w', St g h w' L → TD P tab ops.toList S (fun _ => false) p [] K e ds w') : DrawO P tab ops K e ds w := ⟨⟨S, _, p, closeOk_none _, hp, hS _ H.drew, k _ H.drew⟩⟩
theorem DrawO.wx {P : Program} {tab : Tab} {ops : Array Oper} {K : Env → List Deferred → World → Prop} {e : Env} {ds : List Deferred} (H : St g h w L) (S : World → Prop) (hS : ∀ w, St g h w L → S w) (D : Nat → Bool) (hD : closeOk ops D = true) (p : Plan) (hp : planAll ops p = true)
    (k : ∀ w', St g h w' L → TD P tab ops.toList S D p [] K e ds w') : DrawO P tab ops K e ds w := ⟨⟨S, D, p, hD, hp, hS _ H.drew, k _ H.drew⟩⟩
theorem DrawO.free {P : Program} {tab : Tab} {ops : Array Oper} {K : Env → List Deferred → World → Prop} {e : Env} {ds : List Deferred} (H : St g h w L) (p : Plan) (hp : planAll ops p = true)
    (k : ∀ w', St g h w' L → TD P tab ops.toList (fun _ => True) (fun _ => false) p [] K e ds w') : DrawO P tab ops K e ds w := DrawO.wi H _ (fun _ _ => trivial) p hp k
theorem ownSl_mk {el sz : Nat} {b : Nat} {c : Array Value} {cap n : Nat} {rows : List (List Value)} (hn : n = rows.length) (hr : ∀ r ∈ rows, r.length = sz ∧ oneCells r = true) (h1 : n ≤ cap) (h2 : c.size = cap * sz) (h3 : c.toList.take (n * sz) = rows.flatten) :
    OwnSl el sz (.slice (some ⟨b, 0, none⟩) n cap) rows [(b, .cells c el (0, 0))] := by
  subst hn
  exact ⟨hr, .inr ⟨b, c, cap, rfl, h1, h2, h3, rfl⟩⟩
end
end RL
