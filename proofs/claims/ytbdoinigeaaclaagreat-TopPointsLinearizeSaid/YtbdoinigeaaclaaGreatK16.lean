/- Operations on bits: shifting left by a constant, or, and. Conditions: as each theorem says. -/
import Derived.Test.YtbdoinigeaaclaaGreatK15
set_option linter.all false
namespace RL
open Go
variable {P : Program} {d : Option Tmp} {x y : Operand} {t ty yt : TypeId} {pos : String} {af : Array Edge} {gd : Option (Nat × Bool)} {e : Env}
theorem wrap64_ok (z : Int) (h1 : -9223372036854775808 ≤ z) (h2 : z ≤ 9223372036854775807) : IntKind.i64.wrap z = z := wrap64_in z h1 h2
theorem PurO.shlU {a n : Int} (hx : ev e x = .int .i64 a) (hy : ev e y = .int .u64 n) (hn : 0 ≤ n) (hn2 : n ≤ 63) {K : Value → Prop} (k : K (.int .i64 (IntKind.i64.wrap (a * 2 ^ n.toNat)))) :
    PurO P ⟨d, .binOp .shl t x y yt, ty, pos, af, gd⟩ e K := by
  refine ⟨⟨_, fun w => ?_, k⟩⟩
  have he : execOp (ev e) ⟨d, .binOp .shl t x y yt, ty, pos, af, gd⟩ = ((do eqGuard .shl t x y (ev e x) (ev e y); Go.binOp .shl t (ev e x) (ev e y)) >>= fun r => pure (.value r)) := rfl
  rw [he, hx, hy]
  have hm : min n.toNat IntKind.i64.bits = n.toNat := Nat.min_eq_left (by show n.toNat ≤ 64; omega)
  simp [eqGuard, Go.binOp, Op.shift, Int.not_lt.2 hn, hm]
theorem ofInt_nat (n : Nat) (h : n < 18446744073709551616) : (BitVec.ofInt 64 (n : Int)).toNat = n := by
  rw [BitVec.ofInt_natCast, BitVec.toNat_ofNat]
  exact Nat.mod_eq_of_lt h
theorem PurO.orI {a b : Nat} (hx : ev e x = .int .i64 a) (hy : ev e y = .int .i64 b) (ha : a < 4611686018427387904) (hb : b < 4611686018427387904) {K : Value → Prop} (k : K (.int .i64 ((a ||| b : Nat) : Int))) :
    PurO P ⟨d, .binOp .or t x y yt, ty, pos, af, gd⟩ e K := by
  refine ⟨⟨_, fun w => ?_, k⟩⟩
  have he : execOp (ev e) ⟨d, .binOp .or t x y yt, ty, pos, af, gd⟩ = ((do eqGuard .or t x y (ev e x) (ev e y); Go.binOp .or t (ev e x) (ev e y)) >>= fun r => pure (.value r)) := rfl
  rw [he, hx, hy]
  have h2 : a ||| b < 2 ^ 62 := Nat.or_lt_two_pow ha hb
  have h3 : IntKind.i64.wrap ((a ||| b : Nat) : Int) = ((a ||| b : Nat) : Int) := wrap64_ok _ (by omega) (by omega)
  simp [eqGuard, Go.binOp, Op.intBits]
  have ea : a % 2 ^ IntKind.i64.bits = a := Nat.mod_eq_of_lt (by show a < 18446744073709551616; omega)
  have eb : b % 2 ^ IntKind.i64.bits = b := Nat.mod_eq_of_lt (by show b < 18446744073709551616; omega)
  rw [ea, eb, h3]
theorem PurO.andI {a b : Nat} (hx : ev e x = .int .i64 a) (hy : ev e y = .int .i64 b) (ha : a < 4611686018427387904) (hb : b < 4611686018427387904) {K : Value → Prop} (k : K (.int .i64 ((a &&& b : Nat) : Int))) :
    PurO P ⟨d, .binOp .and t x y yt, ty, pos, af, gd⟩ e K := by
  refine ⟨⟨_, fun w => ?_, k⟩⟩
  have he : execOp (ev e) ⟨d, .binOp .and t x y yt, ty, pos, af, gd⟩ = ((do eqGuard .and t x y (ev e x) (ev e y); Go.binOp .and t (ev e x) (ev e y)) >>= fun r => pure (.value r)) := rfl
  rw [he, hx, hy]
  have h2 : a &&& b ≤ b := Nat.and_le_right
  have h3 : IntKind.i64.wrap ((a &&& b : Nat) : Int) = ((a &&& b : Nat) : Int) := wrap64_ok _ (by omega) (by omega)
  simp [eqGuard, Go.binOp, Op.intBits]
  have ea : a % 2 ^ IntKind.i64.bits = a := Nat.mod_eq_of_lt (by show a < 18446744073709551616; omega)
  have eb : b % 2 ^ IntKind.i64.bits = b := Nat.mod_eq_of_lt (by show b < 18446744073709551616; omega)
  rw [ea, eb, h3]
theorem or_low (g s i : Nat) (h : s < 2 ^ i) : 2 ^ i * g ||| s = 2 ^ i * g + s := (Nat.two_pow_add_eq_or_of_lt h g).symm
section
variable {g : World} {h : Hp} {w : World} {L : List (Nat × Obj)} {b o : Nat}
theorem LdO.ownE (H : St g h w L) {c : Array Value} {e : TypeId} {fz : Nat × Nat} {k : Nat} (ha : At (b, .cells c e fz) k L) {v : Value} (hv : c.toList[o]? = some v) {n : Nat} {K : Value → Prop} (kk : K v) :
    LdO false n w (.pointer (some ⟨b, o, none⟩)) K := LdO.own H ha (by rw [nth_eq]; exact hv) kk
theorem LdO.ownsE (H : St g h w L) {c : Array Value} {e : TypeId} {fz : Nat × Nat} {k : Nat} (ha : At (b, .cells c e fz) k L) {n : Nat} {vs : List Value} (he : (c.toList.drop o).take n = vs) (hn : vs.length = n) {K : Value → Prop}
    (kk : K (.agg vs.toArray)) : LdO true n w (.pointer (some ⟨b, o, none⟩)) K := LdO.owns H ha (by rw [he, hn]; exact Nat.beq_refl n) (by rw [he]; exact kk)
theorem LdQ.ownE {c : Array Value} {e : TypeId} {fz : Nat × Nat} {k : Nat} (ha : At (b, .cells c e fz) k L) {v : Value} (hv : c.toList[o]? = some v) {n : Nat} {K : Value → Prop} (kk : K v) :
    LdQ (fun w => St g h w L) false n (.pointer (some ⟨b, o, none⟩)) K := LdQ.own ha (by rw [nth_eq]; exact hv) kk
theorem LdQ.ownsE {c : Array Value} {e : TypeId} {fz : Nat × Nat} {k : Nat} (ha : At (b, .cells c e fz) k L) {n : Nat} {vs : List Value} (he : (c.toList.drop o).take n = vs) (hn : vs.length = n) {K : Value → Prop}
    (kk : K (.agg vs.toArray)) : LdQ (fun w => St g h w L) true n (.pointer (some ⟨b, o, none⟩)) K := LdQ.owns ha (by rw [he, hn]; exact Nat.beq_refl n) (by rw [he]; exact kk)
theorem StO.ownE (H : St g h w L) {c c' : Array Value} {e : TypeId} {k n : Nat} (ha : At (b, .cells c e (0, 0)) k L) {v : Value} (hn : Nat.beq v.cells.toList.length n = true) (h1 : oneCells v.cells.toList = true)
    (hs : o + n ≤ c.size) (he : putA c o v.cells.toList = c') {K : World → Prop} (kk : ∀ w', St g h w' (setAt k (.cells c' e (0, 0)) L) → K w') : StO n w (.pointer (some ⟨b, o, none⟩)) v K :=
  StO.own H ha hn h1 (Nat.ble_eq_true_of_le hs) (by rw [he]; exact kk)
theorem HC.new (h : Hp) (b : Nat) (c : Array Value) (e : TypeId) (fz : Nat × Nat) : HC (h.add b (.cells c e fz)) b 0 c.toList :=
  ⟨c, e, fz, Hp.add_same _ _ _, fun i hi => by rw [Nat.zero_add]; simp⟩
/-- A row put into an owned slice. -/
theorem OwnSl.put {el sz : Nat} {v : Value} {rows : List (List Value)} {x : List (Nat × Obj)} (ho : OwnSl el sz v rows x) {i : Nat} (hi : i < rows.length) :
    ∃ b c cap, v = .slice (some ⟨b, 0, none⟩) rows.length cap ∧ x = [(b, .cells c el (0, 0))] ∧ i * sz + sz ≤ c.size ∧
      (∀ j, j < sz → c.toList[i * sz + j]? = rows[i][j]?) ∧ (c.toList.drop (i * sz)).take sz = rows[i] ∧
      ∀ row : List Value, row.length = sz → oneCells row = true → OwnSl el sz v (rows.set i row) [(b, .cells (putA c (i * sz) row) el (0, 0))] := by
  obtain ⟨hr, ⟨rfl, rfl, rfl⟩ | ⟨b, c, cap, rfl, hcap, hcs, hc3, rfl⟩⟩ := ho
  · exact absurd hi (Nat.not_lt_zero i)
  have hsz : ∀ r ∈ rows, r.length = sz := fun r h => (hr r h).1
  have hfl := flat_len rows hsz
  have hle : i * sz + sz ≤ rows.length * sz := by
    have := Nat.mul_le_mul_right sz (Nat.succ_le_of_lt hi)
    rw [Nat.succ_mul] at this
    exact this
  have hle2 : rows.length * sz ≤ cap * sz := Nat.mul_le_mul_right sz hcap
  have hd : (c.toList.drop (i * sz)).take sz = rows[i] := by
    rw [← flatten_take_drop rows i hsz hi, ← hc3, List.drop_take, List.take_take, Nat.min_eq_left (by omega)]
  refine ⟨b, c, cap, rfl, rfl, by omega, fun j hj => ?_, hd, fun row hl h1 => ⟨fun r h => ?_, .inr ⟨b, putA c (i * sz) row, cap, by rw [List.length_set], by rw [List.length_set]; exact hcap, by rw [putA_size]; exact hcs, ?_, rfl⟩⟩⟩
  · rw [← hd, List.getElem?_take, if_pos hj, List.getElem?_drop]
  · rcases List.mem_or_eq_of_mem_set h with h | h
    · exact hr r h
    · rw [h]; exact ⟨hl, h1⟩
  · rw [List.length_set, putA_toList _ _ _ (by rw [hl]; omega), List.set_eq_take_append_cons_drop, if_pos hi, List.flatten_append, List.flatten_cons, flatten_take hsz, flatten_drop hsz, ← hc3, hl]
    have e1 : (c.toList.take (rows.length * sz)).take (i * sz) = c.toList.take (i * sz) := by rw [List.take_take, Nat.min_eq_left (by omega)]
    have e2 : (c.toList.take (i * sz)).length = i * sz := by rw [List.length_take, Nat.min_eq_left]; simp; omega
    have e3 : (i + 1) * sz = i * sz + sz := Nat.succ_mul i sz
    rw [e1, List.append_assoc, List.take_append, e2, List.take_of_length_le (by rw [e2]; omega), List.take_append, hl, List.take_of_length_le (l := row) (by omega), e3, List.drop_take]
    congr 3
    omega
theorem OwnSl.at {el sz : Nat} {n cap : Nat} {rows : List (List Value)} {c : Array Value} (ho : OwnSl el sz (.slice (some ⟨b, 0, none⟩) n cap) rows [(b, .cells c el (0, 0))]) {i : Nat} (hi : i < rows.length) :
    i * sz + sz ≤ c.size ∧ (c.toList.drop (i * sz)).take sz = rows[i] ∧
      ∀ row : List Value, row.length = sz → oneCells row = true → OwnSl el sz (.slice (some ⟨b, 0, none⟩) n cap) (rows.set i row) [(b, .cells (putA c (i * sz) row) el (0, 0))] := by
  obtain ⟨b', c', cap', hv, hx, h1, _, h3, h4⟩ := ho.put hi
  simp only [List.cons.injEq, Prod.mk.injEq, Obj.cells.injEq, and_true] at hx
  obtain ⟨rfl, rfl⟩ := hx
  exact ⟨h1, h3, h4⟩
theorem OwnSl.blk {el sz : Nat} {v : Value} {rows : List (List Value)} {x : List (Nat × Obj)} (ho : OwnSl el sz v rows x) (hne : 0 < rows.length) :
    ∃ b c cap, v = .slice (some ⟨b, 0, none⟩) rows.length cap ∧ x = [(b, .cells c el (0, 0))] := by
  obtain ⟨b, c, cap, h1, h2, _⟩ := ho.put hne
  exact ⟨b, c, cap, h1, h2⟩
end
end RL
