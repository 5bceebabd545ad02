/- The transformer is sound over the given rules: operations. Conditions: the table fits the program's types. -/
import Derived.Test.YtbdoinigeaaclaaGreatK2
set_option linter.all false
namespace RL
open Go

section
variable {P : Program} {tab : Tab}
/-- What an operation's run leaves. -/
def runK (P : Program) (K : Value → World → Prop) : Result Next → Prop
  | .ok (.value v) w' => K v w'
  | .ok .skip w' => K undef w'
  | .ok (.enter g as) w' => Calls P g as w' fun x w'' => ∃ v, x = .returned v ∧ K v w''
  | _ => False
theorem runK_wp {o : Oper} {a : Act} {w : World} {next : Act → World → Prop} {Q : Exit → Act → World → Prop}
    (h : runK P (fun v w' => next (a.put o.dst v) w') ((execOp a.eval o).run P w)) : o.wp P a w next Q := by
  unfold Oper.wp
  generalize (execOp a.eval o).run P w = r at *
  cases r with
  | halt x w' => exact h.elim
  | ok nx w' =>
    cases nx <;> simp only [runK] at h <;> simp only [Oper.upon] <;> try exact h
    exact h.mono fun x w'' ⟨v, hx, hv⟩ => by subst hx; exact hv

theorem SlcO_run {t el : TypeId} {i j : TI} (ht : TyOk P t i) (hk : i.k = .slice el) (hj : TyOk P el j) {x : Value} {lo hi mx : Option Value} {K : Value → Prop}
    (h : SlcO j.size x lo hi mx K) : ∃ v, K v ∧ ∀ w, (Instr.sliceAt t x lo hi mx).run P w = .ok v w := by
  obtain ⟨a, len, cap, l, h, m, rfl, h1, h2, h3, hm, hh, hl, hK⟩ := h
  refine ⟨_, hK, fun w => ?_⟩
  obtain ⟨d, hd, hdk, -⟩ := ht.underlying w
  have hs := hj.sizeOf w
  rw [hk] at hdk
  cases d <;> simp [dk] at hdk
  subst hdk
  rename_i el
  have e1 : ∀ (k : IntKind) (n y : Nat) (c : BoundsCode), n ≤ y → (Instr.sliceBound (.int k n) y c).run P w = .ok n w := by
    intro k n y c hn
    simp [Instr.sliceBound, asIntOf, hn]
  have hb : (Instr.sliceBounds true len cap lo hi mx).run P w = .ok (l, h, m) w := by
    unfold Instr.sliceBounds
    cases mx with
    | none =>
      subst hm
      cases hi with
      | none =>
        obtain ⟨rfl, _⟩ := hh
        cases lo with
        | none => subst hl; simp
        | some v => obtain ⟨k, rfl⟩ := hl; simp [e1 _ _ _ _ h1]
      | some u =>
        obtain ⟨k, rfl⟩ := hh
        cases lo with
        | none => subst hl; simp [e1 _ _ _ _ h2]
        | some v => obtain ⟨k, rfl⟩ := hl; simp [e1 _ _ _ _ h1, e1 _ _ _ _ h2]
    | some z =>
      obtain ⟨k0, rfl⟩ := hm
      cases hi with
      | none => exact absurd hh.2 (by simp)
      | some u =>
        obtain ⟨k, rfl⟩ := hh
        cases lo with
        | none => subst hl; simp [e1 _ _ _ _ h2, e1 _ _ _ _ h3]
        | some v => obtain ⟨k, rfl⟩ := hl; simp [e1 _ _ _ _ h1, e1 _ _ _ _ h2, e1 _ _ _ _ h3]
  simp [Instr.sliceAt, hd, Instr.slice, hb, hs]
theorem IdxO_run {t el : TypeId} {i j : TI} (ht : TyOk P t i) (hk : i.k = .slice el) (hj : TyOk P el j) {x ix : Value} {K : Value → Prop}
    (h : IdxO j.size x ix K) : ∃ v, K v ∧ ∀ w, (Instr.indexAt t x ix).run P w = .ok v w := by
  obtain ⟨b, o, len, cap, k, n, rfl, rfl, h1, h2, hK⟩ := h
  refine ⟨_, hK, fun w => ?_⟩
  obtain ⟨d, hd, hdk, -⟩ := ht.underlying w
  have hs := hj.sizeOf w
  rw [hk] at hdk
  cases d <;> simp [dk] at hdk
  subst hdk
  simp [Instr.indexAt, asIntOf, hd, h1, h2, hs, addr_add]
theorem IdaO_run {t el : TypeId} {i j : TI} {len : Nat} (ht : TyOk P t i) (hk : i.k = .arr len el) (hj : TyOk P el j) {x ix : Value} {K : Value → Prop}
    (h : IdaO len j.size x ix K) : ∃ v, K v ∧ ∀ w, (Instr.indexAt t x ix).run P w = .ok v w := by
  obtain ⟨b, o, k, n, rfl, rfl, h1, h2, hK⟩ := h
  refine ⟨_, hK, fun w => ?_⟩
  obtain ⟨d, hd, hdk, -⟩ := ht.underlying w
  have hs := hj.sizeOf w
  rw [hk] at hdk
  cases d <;> simp [dk] at hdk
  obtain ⟨rfl, rfl⟩ := hdk
  simp [Instr.indexAt, Instr.sureAddr, asIntOf, hd, h1, h2, hs, addr_add]
theorem binT_run {o : Oper} {e : Env} {op : BinOp} {t yt : TypeId} {x y : Operand} (hT : TabOk P tab) (ho : o.op = .binOp op t x y yt) {K : Value → Prop}
    (h : binT P tab o e op t (ev e x) (ev e y) K) : ∃ v, K v ∧ ∀ w, (execOp (ev e) o).run P w = .ok (.value v) w := by
  obtain ⟨dst, op', ty', pos, af, gd⟩ := o
  simp only at ho
  subst ho
  have pur : PurO P ⟨dst, .binOp op t x y yt, ty', pos, af, gd⟩ e K → ∃ v, K v ∧ ∀ w, (execOp (ev e) ⟨dst, .binOp op t x y yt, ty', pos, af, gd⟩).run P w = .ok (.value v) w := fun ⟨⟨v, h1, h2⟩⟩ => ⟨v, h2, h1⟩
  unfold binT at h
  have he : execOp (ev e) ⟨dst, .binOp op t x y yt, ty', pos, af, gd⟩ = ((do eqGuard op t x y (ev e x) (ev e y); binOp op t (ev e x) (ev e y)) >>= fun r => pure (.value r)) := rfl
  split at h
  · rename_i k a k' b hx hy
    split at h
    · rename_i hkk
      have hkk : k = k' := by simpa using hkk
      subst hkk
      have hg : ∀ w, (eqGuard op t x y (.int k a) (.int k b)).run P w = .ok () w := fun w => by
        unfold eqGuard; cases op <;> simp
      rw [hx, hy] at he
      cases op <;> simp only at h <;> first
        | exact pur h
        | (refine ⟨_, h.1, fun w => ?_⟩
           rw [he]; simp [hg, Go.binOp, Op.intArith, Op.intCmp]; done)
        | (refine ⟨_, h, fun w => ?_⟩
           rw [he]; simp [hg, Go.binOp, Op.intArith, Op.intCmp]; done)
        | (refine ⟨_, h, fun w => ?_⟩
           rw [he]; simp [hg, Go.binOp, Op.intArith, Op.intCmp]
           try (first | rfl | (rw [Bool.eq_iff_iff]; simp)))
        | (obtain ⟨h1, h2⟩ := h; refine ⟨_, h2, fun w => ?_⟩; rw [he]; simp [hg, Go.binOp, Op.intDiv, Op.shift, h1, Int.not_lt.2]; done)
        | (obtain ⟨h1, h2⟩ := h; refine ⟨_, h2, fun w => ?_⟩; rw [he]; simp [hg, Go.binOp, Op.intDiv, Op.shift, h1]; try omega)
    · exact pur h
  · rename_i a b hx hy
    rw [hx, hy] at he
    split at h
    · rename_i i hi
      split at h
      · rename_i hk
        have ht := hT.ty _ _ hi
        have hg : ∀ w, (eqGuard op t x y (.bool a) (.bool b)).run P w = .ok () w := fun w => by
          unfold eqGuard; cases op <;> simp
        have hu : ∀ w, (Op.equal t (.bool a) (.bool b)).run P w = .ok (a == b) w := fun w => by
          obtain ⟨d, hd, hdk, -⟩ := ht.underlying w
          rw [hk] at hdk
          cases d <;> simp [dk] at hdk
          unfold Op.equal Op.maxDepth Op.equalIn
          simp [hd]
        cases op <;> simp only at h <;> first
          | exact h.elim
          | (refine ⟨_, h, fun w => ?_⟩; rw [he]; simp [hg, Go.binOp, hu])
      · exact h.elim
    · exact h.elim
  · rename_i a l c l' c' hx hy
    rw [hx, hy] at he
    split at h
    · rename_i i hi
      split at h
      · rename_i el hk
        have ht := hT.ty _ _ hi
        have hg : ∀ w, (eqGuard op t x y (.slice a l c) (.slice none l' c')).run P w = .ok () w := fun w => by
          unfold eqGuard; cases op <;> simp
        have hu : ∀ w, (Op.equal t (.slice a l c) (.slice none l' c')).run P w = .ok a.isNone w := fun w => by
          obtain ⟨d, hd, hdk, -⟩ := ht.underlying w
          rw [hk] at hdk
          cases d <;> simp [dk] at hdk
          unfold Op.equal Op.maxDepth Op.equalIn
          cases a <;> simp [hd]
        cases op <;> simp only at h <;> first
          | exact h.elim
          | (refine ⟨_, h, fun w => ?_⟩; rw [he]; simp [hg, Go.binOp, hu])
      · exact h.elim
    · exact h.elim
  · rename_i a hx hy
    rw [hx, hy] at he
    split at h
    · rename_i i hi
      split at h
      · rename_i el hk
        have ht := hT.ty _ _ hi
        have hg : ∀ w, (eqGuard op t x y (.pointer a) (.pointer none)).run P w = .ok () w := fun w => by
          unfold eqGuard; cases op <;> simp
        have hu : ∀ w, (Op.equal t (.pointer a) (.pointer none)).run P w = .ok a.isNone w := fun w => by
          obtain ⟨d, hd, hdk, -⟩ := ht.underlying w
          rw [hk] at hdk
          cases d <;> simp [dk] at hdk
          unfold Op.equal Op.maxDepth Op.equalIn
          cases a <;> simp [hd]
        cases op <;> simp only at h <;> first
          | exact h.elim
          | (refine ⟨_, h, fun w => ?_⟩; rw [he]; simp [hg, Go.binOp, hu])
      · exact h.elim
    · exact h.elim
  · exact pur h
end
end RL
