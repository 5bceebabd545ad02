/- An insertion's Step. Conditions: the store is in order; a mutex is held where one is released.
   A cancellation running: its block, its Step. Conditions: the store is in order. -/
import Derived.Test.YtbdoinigeaaclaaGreatB9
set_option linter.all false
set_option maxRecDepth 20000
namespace Go.Proofs.YtbdoinigeaaclaaGreat
open Go RL PQ
variable {g : World} {h h' : Hp} {w : World} {L : List (Nat × Obj)}
section
variable {D : SD} {V : SV} {s : Sto} {N : Nat} {t : Int} {bo : Nat} {P : InsP} {o : InsOp} {nv : Value} {bl : Bool}
/-- What a step of an insertion wants. -/
structure InsPre (s : Sto) (o : InsOp) (K : Int) : Prop where
  sok : SOk s K
  k : K ≤ 1000000
  few : o.held.length ≤ 10
  held : o.st = some .undo ∨ o.st = some .put ∨ o.st = some .release → ∃ (hd : List Int) (m : Nat), o.held = hd ++ [(m : Int)] ∧ m < 4
  slot : o.st = some .put → ∀ x, o.h = some x → ∃ n : Nat, slotOf x = (n : Int) ∧ ∃ hn : n < s.slots.length, TimeOk s.slots[n].1
theorem TryPost.toQ {m : Nat} {tv v0 v : Value} {w : World} {th : InsSt} (q : TryPost g h D t bo m s o nv tv v0 N L v w) (htv : ∀ {h'}, h.le h' → FnI h' bo tv (some th)) (hv0 : ∀ {h'}, h.le h' → FnI h' bo v0 o.st) :
    InsQ g h D t bo (tryI s t o m th).1 (tryI s t o m th).2 N L v w := by
  obtain ⟨h', V, P, bl, hle, hv, q⟩ := q
  unfold tryI
  by_cases hok : (lockS s t m).2 = true
  · rw [if_pos hok] at q ⊢
    obtain ⟨rfl, hp, H⟩ := q
    exact ⟨h', V, P, nv, bl, hle, hv, ⟨hp.own, hp.put, hp.pend, hp.res⟩, htv hle, H⟩
  · rw [if_neg hok] at q ⊢
    obtain ⟨rfl, hp, H⟩ := q
    have e : (lockS s t m).1 = s := by
      unfold lockS at hok ⊢
      split
      · rename_i h1; rw [if_pos h1] at hok; exact absurd rfl hok
      · rfl
    rw [e] at hv H
    exact ⟨h', V, P, nv, bl, hle, hv, hp, hv0 hle, H⟩
theorem insCall (H : St g h w (insL D t bo P o nv bl (stoL D V s L))) (hv : V.ok h s N) (hp : P.ok h bo o) (hN : N ≤ 499990) {K : Int} (hpre : InsPre s o K) {st : InsSt} (hst : o.st = some st) (hf : FnI h bo nv (some st)) :
    ∃ k fst caps, nv = .func (.func k) fst caps ∧ Ret Tryz.prog k (fst.toList ++ [] ++ caps.toList) w (InsQ g h D t bo (nextI s t o st).1 (nextI s t o st).2 (N + 1) L) := by
  have hm := hpre.sok.ml
  have hk := hpre.sok
  have hfew := hpre.few
  cases st with
  | start => exact ⟨_, _, _, hf, insStart H hv hp hN⟩
  | tryTop =>
    obtain ⟨b1, b2, b3, b4, h0, c1, c2, c3, c4⟩ := hf
    refine ⟨_, _, _, h0, (insTry H hv hp hN hm (by omega) hfew c1 c2 c3 c4).mono ?_⟩
    intro v w q
    exact q.toQ (fun _ => rfl) (fun hle => by rw [hst]; exact IsLock.le ⟨b1, b2, b3, b4, h0, c1, c2, c3, c4⟩ hle)
  | confirm => exact ⟨_, _, _, hf, insConfirm H hv hp hN⟩
  | undo =>
    obtain ⟨b1, h0, c1⟩ := hf
    obtain ⟨hd, m, hh, hm4⟩ := hpre.held (.inl hst)
    have hl : hd.length ≤ 10 := by rw [hh] at hfew; simp at hfew; omega
    exact ⟨_, _, _, h0, insUndo H hv hp hN hm hh hm4 hl c1⟩
  | tryRungs =>
    obtain ⟨b1, b2, b3, b4, h0, c1, c2, c3, c4⟩ := hf
    refine ⟨_, _, _, h0, (insTry H hv hp hN hm (by omega) hfew c1 c2 c3 c4).mono ?_⟩
    intro v w q
    exact q.toQ (fun _ => rfl) (fun hle => by rw [hst]; exact IsLock.le ⟨b1, b2, b3, b4, h0, c1, c2, c3, c4⟩ hle)
  | choose => exact ⟨_, _, _, hf, insChoose H hv hp hk.q hm⟩
  | tryBot =>
    obtain ⟨v', ⟨b1, b2, b3, b4, h0, c1, c2, c3, c4⟩, h5⟩ := hf
    refine ⟨_, _, _, h0, (insTry H hv hp hN hm (by omega) hfew c1 c2 c3 c4).mono ?_⟩
    intro v w q
    exact q.toQ (fun hle => IsLock.le h5 hle) (fun hle => by rw [hst]; exact ⟨v', IsLock.le ⟨b1, b2, b3, b4, h0, c1, c2, c3, c4⟩ hle, IsLock.le h5 hle⟩)
  | tryArena =>
    obtain ⟨b1, b2, b3, b4, h0, c1, c2, c3, c4⟩ := hf
    refine ⟨_, _, _, h0, (insTry H hv hp hN hm (by omega) hfew c1 c2 c3 c4).mono ?_⟩
    intro v w q
    exact q.toQ (fun _ => rfl) (fun hle => by rw [hst]; exact IsLock.le ⟨b1, b2, b3, b4, h0, c1, c2, c3, c4⟩ hle)
  | alloc => exact ⟨_, _, _, hf, insAlloc H hv hp hN hk hpre.k⟩
  | leave => exact ⟨_, _, _, hf, insLeave H hv hp hN hm⟩
  | put =>
    obtain ⟨b1, h0, c1⟩ := hf
    obtain ⟨hd, m, hh, hm4⟩ := hpre.held (.inr (.inl hst))
    have hl : hd.length ≤ 10 := by rw [hh] at hfew; simp at hfew; omega
    exact ⟨_, _, _, h0, insLeave1 H hv hp hN hk c1 hh hm4 hl (hpre.slot hst)⟩
  | release =>
    obtain ⟨hd, m, hh, hm4⟩ := hpre.held (.inr (.inr hst))
    have hl : hd.length ≤ 10 := by rw [hh] at hfew; simp at hfew; omega
    exact ⟨_, _, _, hf, insRelease H hv hp hN hm hh hm4 hl⟩
theorem FnI.isFunc {v : Value} {st : InsSt} (hf : FnI h bo v (some st)) : ∃ k fst caps, v = .func (.func k) fst caps := by
  cases st with
  | start => exact ⟨_, _, _, hf⟩
  | tryTop => obtain ⟨b1, b2, b3, b4, h0, _⟩ := hf; exact ⟨_, _, _, h0⟩
  | confirm => exact ⟨_, _, _, hf⟩
  | undo => obtain ⟨b1, h0, _⟩ := hf; exact ⟨_, _, _, h0⟩
  | tryRungs => obtain ⟨b1, b2, b3, b4, h0, _⟩ := hf; exact ⟨_, _, _, h0⟩
  | choose => exact ⟨_, _, _, hf⟩
  | tryBot => obtain ⟨v', ⟨b1, b2, b3, b4, h0, _⟩, _⟩ := hf; exact ⟨_, _, _, h0⟩
  | tryArena => obtain ⟨b1, b2, b3, b4, h0, _⟩ := hf; exact ⟨_, _, _, h0⟩
  | alloc => exact ⟨_, _, _, hf⟩
  | leave => exact ⟨_, _, _, hf⟩
  | put => obtain ⟨b1, h0, _⟩ := hf; exact ⟨_, _, _, h0⟩
  | release => exact ⟨_, _, _, hf⟩
/-- An insertion in memory, with the store. -/
def InsW (g : World) (h : Hp) (D : SD) (t : Int) (bo : Nat) (s : Sto) (o : InsOp) (N : Nat) (L : List (Nat × Obj)) (w : World) : Prop :=
  ∃ (h' : Hp) (V : SV) (P : InsP) (nv : Value) (bl : Bool), h.le h' ∧ V.ok h' s N ∧ P.ok h' bo o ∧ FnI h' bo nv o.st ∧ St g h' w (insL D t bo P o nv bl (stoL D V s L))
theorem run_equalIn_nilfun {P : Program} (w : World) (d : Nat) (t : TypeId) {a b : Array TypeId} {c : Bool} (hu : P.underlying t = some (.func a b c)) : (Op.equalIn (d + 1) t .nilFunc .nilFunc).run P w = .ok true w := by
  simp [Op.equalIn, run_underlying hu]
theorem run_equalIn_fun_nil {P : Program} (w : World) (d : Nat) (t : TypeId) {a b : Array TypeId} {c : Bool} (hu : P.underlying t = some (.func a b c)) (f : Fn) (fst caps : Array Value) : (Op.equalIn (d + 1) t (.func f fst caps) .nilFunc).run P w = .ok false w := by
  simp [Op.equalIn, run_underlying hu]
theorem funEqNil {d : Option Tmp} {x y : Operand} {ty : TypeId} {pos : String} {af : Array Edge} {gd : Option (Nat × Bool)} {e : Env} (hx : ev e x = .nilFunc) (hy : ev e y = .nilFunc)
    {K : Value → Prop} (k : K (.bool true)) : PurO Tryz.prog ⟨d, .binOp .eql 149 x y 149, ty, pos, af, gd⟩ e K := by
  refine ⟨⟨_, fun w => ?_, k⟩⟩
  have he : execOp (ev e) ⟨d, .binOp .eql 149 x y 149, ty, pos, af, gd⟩ = ((do eqGuard .eql 149 x y (ev e x) (ev e y); Go.binOp .eql 149 (ev e x) (ev e y)) >>= fun r => pure (.value r)) := rfl
  have h1 : (eqGuard .eql 149 x y .nilFunc .nilFunc).run Tryz.prog w = .ok () w := by simp [eqGuard]
  have h2 : (Op.equal 149 .nilFunc .nilFunc).run Tryz.prog w = .ok true w := run_equalIn_nilfun w 9999 _ Tryz.underlying149
  have h3 : (Go.binOp .eql 149 .nilFunc .nilFunc).run Tryz.prog w = .ok (.bool true) w := by
    simp only [Go.binOp, Sem.run_bind, h2, Result.andThen_ok, Sem.run_pure]
  rw [he, hx, hy]
  simp only [Sem.run_bind, h1, h3, Result.andThen_ok, Sem.run_pure]
theorem funEqFun {d : Option Tmp} {x y : Operand} {ty : TypeId} {pos : String} {af : Array Edge} {gd : Option (Nat × Bool)} {e : Env} {f : Fn} {fst caps : Array Value} (hx : ev e x = .func f fst caps) (hy : ev e y = .nilFunc)
    {K : Value → Prop} (k : K (.bool false)) : PurO Tryz.prog ⟨d, .binOp .eql 149 x y 149, ty, pos, af, gd⟩ e K := by
  refine ⟨⟨_, fun w => ?_, k⟩⟩
  have he : execOp (ev e) ⟨d, .binOp .eql 149 x y 149, ty, pos, af, gd⟩ = ((do eqGuard .eql 149 x y (ev e x) (ev e y); Go.binOp .eql 149 (ev e x) (ev e y)) >>= fun r => pure (.value r)) := rfl
  have h1 : (eqGuard .eql 149 x y (.func f fst caps) .nilFunc).run Tryz.prog w = .ok () w := by simp [eqGuard]
  have h2 : (Op.equal 149 (.func f fst caps) .nilFunc).run Tryz.prog w = .ok false w := run_equalIn_fun_nil w 9999 _ Tryz.underlying149 f fst caps
  have h3 : (Go.binOp .eql 149 (.func f fst caps) .nilFunc).run Tryz.prog w = .ok (.bool false) w := by
    simp only [Go.binOp, Sem.run_bind, h2, Result.andThen_ok, Sem.run_pure]
  rw [he, hx, hy]
  simp only [Sem.run_bind, h1, h3, Result.andThen_ok, Sem.run_pure]
set_option maxHeartbeats 1000000 in
theorem insStep (q : InsW g h D t bo s o N L w) (hN : N ≤ 499990) {K : Int} (hpre : InsPre s o K) {st : InsSt} (hst : o.st = some st) :
    Ret Tryz.prog 175 [.pointer (some ⟨bo, 0, none⟩)] w fun v w' => v = .bool (stepI s t o).2.2 ∧ InsW g h D t bo (stepI s t o).1 (stepI s t o).2.1 (N + 1) L w' := by
  refine q.elim fun h1 q => q.elim fun V q => q.elim fun P q => q.elim fun nv q => q.elim fun bl q => ?_
  have hle1 := q.1; have hv := q.2.1; have hp := q.2.2.1; have hf := q.2.2.2.1; have H := q.2.2.2.2; clear q
  rw [hst] at hf
  have hss : stepI s t o = ((nextI s t { o with eff := false } st).1, if (nextI s t { o with eff := false } st).2.st = none then { (nextI s t { o with eff := false } st).2 with res := (nextI s t { o with eff := false } st).2.pend } else (nextI s t { o with eff := false } st).2, decide ((nextI s t { o with eff := false } st).2.st = none)) := by
    unfold stepI; rw [hst]
  have hp2 : P.ok h1 bo { o with eff := false } := ⟨hp.own, hp.put, hp.pend, hp.res⟩
  have hpre2 : InsPre s { o with eff := false } K := ⟨hpre.sok, hpre.k, hpre.few, hpre.held, hpre.slot⟩
  have hst2 : ({ o with eff := false } : InsOp).st = some st := hst
  obtain ⟨o2, ho2⟩ : ∃ o2, o2 = ({ o with eff := false } : InsOp) := ⟨_, rfl⟩
  rw [← ho2] at hp2 hpre2 hst2 hss
  obtain ⟨k, fst, caps, hnv⟩ := hf.isFunc
  subst hnv
  refine Ret.enter tabOk Tryz.func175 rfl (by rfl) rfl (by rfl) (by kernel_rfl) ?_
  refine StO.own H .head rfl rfl rfl fun w H => ?_
  refine StO.own H .head rfl rfl rfl fun w H => ?_
  have H : St g h1 w (insL D t bo P o2 (.func (.func k) fst caps) false (stoL D V s L)) := by rw [ho2]; exact H
  refine LdO.own H .head rfl ?_
  refine (insCall H hv hp2 hN hpre2 hst2 hf).elim fun k' q => q.elim fun fst' q => q.elim fun caps' q => ?_
  have e := q.1
  have hr := q.2
  clear q
  cases e
  refine hr.mono ?_; intro v w q
  obtain ⟨p, hpe⟩ : ∃ p, p = nextI s t o2 st := ⟨_, rfl⟩
  rw [← hpe] at hss q
  refine q.elim fun h2 q => q.elim fun V q => q.elim fun P q => q.elim fun nv q => q.elim fun bl q => ?_
  have hle := q.1; have hv := q.2.1; have hp := q.2.2.1; have hf := q.2.2.2.1; have H := q.2.2.2.2; clear q
  rw [hss]
  cases hn : p.2.st with
  | none =>
    rw [hn] at hf
    have hf : v = .nilFunc := hf
    subst hf
    refine StO.own H .head rfl rfl rfl fun w H => ?_
    refine LdO.own H .head rfl ?_
    refine funEqNil rfl rfl ?_
    refine CondT.mk ?_
    refine LdO.owns H .head rfl ?_
    refine StO.own H .head rfl rfl rfl fun w H => ?_
    refine LdO.own H .head rfl ?_
    refine funEqNil rfl rfl ?_
    rw [if_pos rfl]
    refine ⟨rfl, h2, V, P, .nilFunc, bl, Hp.le_trans hle1 hle, hv, ⟨hp.own, hp.put, hp.pend, hp.pend⟩, ?_, H⟩
    show FnI h2 bo .nilFunc p.2.st
    rw [hn]; rfl
  | some st2 =>
    rw [hn] at hf
    obtain ⟨k, fst, caps, hnv⟩ := hf.isFunc
    subst hnv
    refine StO.own H .head rfl rfl rfl fun w H => ?_
    refine LdO.own H .head rfl ?_
    refine funEqFun rfl rfl ?_
    refine CondT.mk ?_
    refine LdO.own H .head rfl ?_
    refine funEqFun rfl rfl ?_
    rw [if_neg (by simp)]
    refine ⟨rfl, h2, V, P, .func (.func k) fst caps, bl, Hp.le_trans hle1 hle, hv, hp, ?_, H⟩
    rw [hn]; exact hf
end
end Go.Proofs.YtbdoinigeaaclaaGreat
set_option maxRecDepth 20000
namespace Go.Proofs.YtbdoinigeaaclaaGreat
open Go RL PQ
variable {g : World} {h h' : Hp} {w : World} {L : List (Nat × Obj)}
section
variable {D : SD} {V : SV} {s : Sto} {N : Nat} {t : Int} {bo : Nat} {o : CanOp} {bl : Bool}
def canRow (D : SD) (t : Int) (o : CanOp) (bl : Bool) : List Value :=
  [.pointer (some ⟨D.bs, 0, none⟩), .int .i64 t, .int .i64 o.handle, .int .i64 o.ph, .int .i64 o.seen, .int .i64 0, .int .i64 0, .bool o.canc, .slice none 0 0, .bool bl]
def canL (D : SD) (t : Int) (bo : Nat) (o : CanOp) (bl : Bool) (R : List (Nat × Obj)) : List (Nat × Obj) := (bo, .cells (canRow D t o bl).toArray 155 (0, 0)) :: R
def CanW (g : World) (h : Hp) (D : SD) (t : Int) (bo : Nat) (s : Sto) (o : CanOp) (N : Nat) (L : List (Nat × Obj)) (w : World) : Prop :=
  ∃ (h' : Hp) (V : SV) (bl : Bool), h.le h' ∧ V.ok h' s N ∧ St g h' w (canL D t bo o bl (stoL D V s L))
theorem canIn {c : Nat × Obj} (H : St g h w (c :: stoL D V s L)) : St g h w (stoL D V s (c :: L)) := stoIn (A := [c]) H
theorem canOut {c : Nat × Obj} (H : St g h w (stoL D V s (c :: L))) : St g h w (c :: stoL D V s L) := stoOut (A := [c]) H
theorem wStale (H : St g h w L) {a : Int} (h0 : 0 ≤ a) (h1 : a ≤ 1125899906842624) (gen : Int) : Ret Tryz.prog 185 [.int .i64 a, .int .i64 gen] w fun v w' => v = .bool (stale a gen) ∧ St g h w' L := by
  refine Ret.enter tabOk Tryz.func185 rfl (by rfl) rfl (by rfl) (by kernel_rfl) ?_
  refine (hState H h0 h1).mono ?_; intro v w q
  have hv := q.1; have H := q.2; clear q
  subst hv
  refine (hGen H a).mono ?_; intro v w q
  have hv := q.1; have H := q.2; clear q
  subst hv
  unfold stale
  refine CondT.bool (fun hn => ?_) (fun he => ?_)
  · have : genOf a ≠ gen := by simpa using hn
    refine CondT.mk ?_
    exact ⟨Eq.trans (b := .bool true) rfl (by rw [decide_eq_true this]; rfl), H⟩
  · have : genOf a = gen := by simpa using he
    refine CondT.dec (fun h2 => ?_) (fun h2 => ?_)
    · exact ⟨Eq.trans (b := .bool true) rfl (by rw [decide_eq_true h2]; simp), H⟩
    · exact ⟨Eq.trans (b := .bool (decide (stOf a = 3))) rfl (by rw [he, decide_eq_false h2]; rfl), H⟩
theorem wClaimed (H : St g h w L) {a : Int} (h0 : 0 ≤ a) (h1 : a ≤ 1125899906842624) : Ret Tryz.prog 187 [.int .i64 a] w fun v w' => v = .bool (decide (stOf a = 2)) ∧ St g h w' L := by
  refine Ret.enter tabOk Tryz.func187 rfl (by rfl) rfl (by rfl) (by kernel_rfl) ?_
  refine (hState H h0 h1).mono ?_; intro v w q
  have hv := q.1; have H := q.2; clear q
  subst hv
  exact ⟨rfl, H⟩
theorem wCancelled (H : St g h w L) {a : Int} (h0 : 0 ≤ genOf a) (h1 : genOf a ≤ 1000000) : Ret Tryz.prog 184 [.int .i64 a] w fun v w' => v = .int .i64 (wordOf (genOf a) 3) ∧ St g h w' L := by
  refine Ret.enter tabOk Tryz.func184 rfl (by rfl) rfl (by rfl) (by kernel_rfl) ?_
  refine (hGen H a).mono ?_; intro v w q
  have hv := q.1; have H := q.2; clear q
  subst hv
  refine (hWord H h0 (by omega) (st := 3) (by omega) (by omega)).mono ?_; intro v w q
  have hv := q.1; have H := q.2; clear q
  subst hv
  exact ⟨rfl, H⟩
theorem canIndex (H : St g h w (canL D t bo o bl (stoL D V s L))) :
    Ret Tryz.prog 180 [.pointer (some ⟨bo, 0, none⟩)] w fun v w' => v = .tuple #[.int .i64 (1 + slotOf o.handle), .bool (decide (0 ≤ slotOf o.handle) && decide (slotOf o.handle < s.slots.length))] ∧ St g h w' (canL D t bo o bl (stoL D V s L)) := by
  refine Ret.enter tabOk Tryz.func180 rfl (by rfl) rfl (by rfl) (by kernel_rfl) ?_
  refine LdO.own H .head rfl ?_
  refine (hSlot H o.handle).mono ?_; intro v w q
  have hv := q.1; have H := q.2; clear q
  subst hv
  have hb : slotOf o.handle ≤ 64 ∧ -1 ≤ slotOf o.handle := by unfold slotOf; split <;> omega
  refine ArO.i64 ?_ (by omega) (by omega)
  refine CondT.dec (fun h0 => ?_) (fun h0 => ?_)
  · refine LdO.own H .head rfl ?_
    refine (stoCapacity (canIn H)).mono ?_; intro v w q
    have hv := q.1; have H := canOut q.2; clear q
    subst hv
    exact ⟨Eq.trans (b := .tuple #[.int .i64 (1 + slotOf o.handle), .bool (decide (slotOf o.handle < s.slots.length))]) rfl (by rw [decide_eq_true h0]; rfl), H⟩
  · exact ⟨Eq.trans (b := .tuple #[.int .i64 (1 + slotOf o.handle), .bool false]) rfl (by rw [decide_eq_false h0]; rfl), H⟩
def CanS (D : SD) (t : Int) (bo : Nat) (o : CanOp) (w : World) : Prop :=
  w.cell? ⟨bo, 0, none⟩ = some (.pointer (some ⟨D.bs, 0, none⟩)) ∧ w.cell? ⟨bo, 1, none⟩ = some (.int .i64 t) ∧ w.cell? ⟨bo, 2, none⟩ = some (.int .i64 o.handle) ∧ w.cell? ⟨bo, 4, none⟩ = some (.int .i64 o.seen)
theorem canS (H : St g h w (canL D t bo o bl L)) : CanS D t bo o w := ⟨H.ocell .head rfl, H.ocell .head rfl, H.ocell .head rfl, H.ocell .head rfl⟩
def CanPost (g : World) (h : Hp) (D : SD) (t : Int) (bo : Nat) (s : Sto) (o : CanOp) (N : Nat) (L : List (Nat × Obj)) (w : World) : Prop := CanW g h D t bo s o N L w
theorem canLoad (H : St g h w (canL D t bo o bl (stoL D V s L))) (hv : V.ok h s N) (hN : N ≤ 499990) {K : Int} (hk : SOk s K) (hK : K ≤ 1000000) {n : Nat} (hn : slotOf o.handle = n) :
    Ret Tryz.prog 182 [.pointer (some ⟨bo, 0, none⟩), .int .i64 (1 + slotOf o.handle)] w fun _ w' => CanW g h D t bo s
      (if stale (wordS s (1 + slotOf o.handle)) (hgenOf o.handle) = true then { o with seen := wordS s (1 + slotOf o.handle), ph := 2 } else if stOf (wordS s (1 + slotOf o.handle)) = 2 then { o with seen := wordS s (1 + slotOf o.handle) } else { o with seen := wordS s (1 + slotOf o.handle), ph := 1 }) (N + 1) L w' := by
  have hw := hk.wd (slotOf o.handle) (by omega)
  refine Ret.enter tabOk Tryz.func182 rfl (by rfl) rfl (by rfl) (by kernel_rfl) ?_
  refine DrawO.wx H (CanS D t bo o) (fun w H => canS H) (fun j => Nat.beq j 14) (by kernel_rfl) (pl [0, 1, 2, 3, 4, 6, 7, 8, 9, 10, 1005, 1011, 12, 13, 1014] .nil) (by kernel_rfl) fun w H => ?_
  refine LdQ.cell (fun _ hs => hs.1) ?_
  refine LdQ.cell (fun _ hs => hs.2.1) ?_
  refine (stoMemory (canIn H)).mono ?_; intro v w q
  have hv2 := q.1; have H := canOut q.2; clear q
  subst hv2
  refine ⟨canS H, ?_⟩
  refine (stoLoad (canIn H) hv (by omega) t (1 + slotOf o.handle)).mono ?_; intro v w q
  have hv2 := q.1; have q2 := q.2; clear q
  subst hv2
  refine q2.go fun h2 V hle hv H => ?_
  have H := canOut H
  refine ⟨canS H, ?_⟩
  refine StO.own H .head rfl rfl rfl fun w H => ⟨rfl, ?_⟩
  obtain ⟨z, hz⟩ : ∃ z, z = wordS s (1 + slotOf o.handle) := ⟨_, rfl⟩
  rw [← hz] at hw ⊢
  have H : St g h2 w (canL D t bo { o with seen := z } bl (stoL D V s L)) := by rw [hz]; exact H
  refine DrawO.wi H (CanS D t bo { o with seen := z }) (fun w H => canS H) (pl [0, 1, 2, 3, 4, 5, 6, 7, 1008, 1009, 10] .nil) (by kernel_rfl) fun w H => ?_
  refine LdQ.cell (fun _ hs => hs.2.2.2) ?_
  refine LdQ.cell (fun _ hs => hs.2.2.1) ?_
  refine (hGeneration H o.handle).mono ?_; intro v w q
  have hv2 := q.1; have H := q.2; clear q
  subst hv2
  refine ⟨canS H, ?_⟩
  refine (wStale H (a := z) hw.1 (by omega) (hgenOf o.handle)).mono ?_; intro v w q
  have hv2 := q.1; have H := q.2; clear q
  subst hv2
  refine ⟨canS H, ?_⟩
  refine CondT.bool (fun hst => ?_) (fun hst => ?_)
  · rw [if_pos hst]
    refine StO.own H .head rfl rfl rfl fun w H => ?_
    exact ⟨h2, V, bl, hle, hv, H⟩
  rw [if_neg (by rw [hst]; decide)]
  refine LdO.own H .head rfl ?_
  refine (wClaimed H (a := z) hw.1 (by omega)).mono ?_; intro v w q
  have hv2 := q.1; have H := q.2; clear q
  subst hv2
  refine CondT.dec (fun hc => ?_) (fun hc => ?_)
  · rw [if_pos hc]
    refine StO.own H .head rfl rfl rfl fun w H => ?_
    exact ⟨h2, V, true, hle, hv, H⟩
  · rw [if_neg hc]
    refine StO.own H .head rfl rfl rfl fun w H => ?_
    exact ⟨h2, V, bl, hle, hv, H⟩
theorem canSwap (H : St g h w (canL D t bo o bl (stoL D V s L))) (hv : V.ok h s N) (hN : N ≤ 499990) {K : Int} (hk : SOk s K) (hK : K ≤ 1000000) {n : Nat} (hn : slotOf o.handle = n) (hns : n < s.slots.length) (hse : 0 ≤ o.seen ∧ o.seen ≤ 4 * K + 3) :
    Ret Tryz.prog 181 [.pointer (some ⟨bo, 0, none⟩), .int .i64 (1 + slotOf o.handle)] w fun _ w' => CanW g h D t bo (casS s (1 + slotOf o.handle) o.seen (wordOf (genOf o.seen) 3)).1
      (if (casS s (1 + slotOf o.handle) o.seen (wordOf (genOf o.seen) 3)).2 = true then { o with ph := 2, canc := true } else { o with ph := 0 }) (N + 1) L w' := by
  have hg := gen_bounds hse
  have hwl := hk.wl
  have hcast : 1 + slotOf o.handle = ((n + 1 : Nat) : Int) := by omega
  refine Ret.enter tabOk Tryz.func181 rfl (by rfl) rfl (by rfl) (by kernel_rfl) ?_
  refine StO.own H .head rfl rfl rfl fun w H => ?_
  have H : St g h w (canL D t bo { o with ph := 0 } bl (stoL D V s L)) := H
  refine DrawO.wi H (CanS D t bo { o with ph := 0 }) (fun w H => canS H) (pl [0, 1, 2, 3, 5, 6, 7, 8, 9, 10, 11, 12, 13, 14, 15, 16, 17, 1004, 1018, 1019] .nil) (by kernel_rfl) fun w H => ?_
  refine LdQ.cell (fun _ hs => hs.1) ?_
  refine LdQ.cell (fun _ hs => hs.2.1) ?_
  refine LdQ.cell (fun _ hs => hs.2.2.2) ?_
  refine LdQ.cell (fun _ hs => hs.2.2.2) ?_
  refine (stoMemory (canIn H)).mono ?_; intro v w q
  have hv2 := q.1; have H := canOut q.2; clear q
  subst hv2
  refine ⟨canS H, ?_⟩
  refine (wCancelled H (a := o.seen) hg.1 (by omega)).mono ?_; intro v w q
  have hv2 := q.1; have H := q.2; clear q
  subst hv2
  refine ⟨canS H, ?_⟩
  rw [hcast]
  refine (stoCas (canIn H) hv (by omega) t (n := n + 1) o.seen (wordOf (genOf o.seen) 3) (by omega)).mono ?_; intro v w q
  have hv2 := q.1; have q2 := q.2; clear q
  subst hv2
  refine q2.go fun h2 V hle hv H => ?_
  have H := canOut H
  refine ⟨canS H, ?_⟩
  refine CondT.bool (fun hc => ?_) (fun hc => ?_)
  · rw [if_pos hc]
    refine StO.own H .head rfl rfl rfl fun w H => ?_
    refine StO.own H .head rfl rfl rfl fun w H => ?_
    exact ⟨h2, V, bl, hle, hv, H⟩
  · rw [if_neg (by rw [hc]; decide)]
    exact ⟨h2, V, bl, hle, hv, H⟩
theorem canStep (q : CanW g h D t bo s o N L w) (hN : N ≤ 499990) {K : Int} (hk : SOk s K) (hK : K ≤ 1000000) (hph : o.ph = 0 ∨ o.ph = 1) (hse : o.ph = 1 → 0 ≤ o.seen ∧ o.seen ≤ 4 * K + 3) :
    Ret Tryz.prog 179 [.pointer (some ⟨bo, 0, none⟩)] w fun v w' => v = .bool (stepC s o).2.2 ∧ CanW g h D t bo (stepC s o).1 (stepC s o).2.1 (N + 1) L w' := by
  refine q.elim fun h1 q => q.elim fun V q => q.elim fun bl q => ?_
  have hle1 := q.1; have hv := q.2.1; have H := q.2.2; clear q
  refine Ret.enter tabOk Tryz.func179 rfl (by rfl) rfl (by rfl) (by kernel_rfl) ?_
  refine StO.own H .head rfl rfl rfl fun w H => ?_
  have H : St g h1 w (canL D t bo o false (stoL D V s L)) := H
  refine (canIndex H).mono ?_; intro v w q
  have hv2 := q.1; have H := q.2; clear q
  subst hv2
  by_cases hin : slotOf o.handle < 0 ∨ (s.slots.length : Int) ≤ slotOf o.handle
  · have he : stepC s o = (s, { o with ph := 2 }, true) := if_pos hin
    refine CondT.of (u := true) (by rcases hin with h1 | h1 <;> simp <;> omega) ?_
    refine StO.own H .head rfl rfl rfl fun w H => ?_
    refine LdO.own H .head rfl ?_
    rw [he]
    exact ⟨rfl, h1, V, false, hle1, hv.mono (Nat.le_succ N), H⟩
  · obtain ⟨n, hn⟩ := Int.eq_ofNat_of_zero_le (show 0 ≤ slotOf o.handle by omega)
    refine CondT.of (u := false) (by simp; omega) ?_
    refine LdO.own H .head rfl ?_
    refine CondT.dec (fun hp => ?_) (fun hp => ?_)
    · have he : stepC s o = if (casS s (1 + slotOf o.handle) o.seen (wordOf (genOf o.seen) 3)).2 = true then ((casS s (1 + slotOf o.handle) o.seen (wordOf (genOf o.seen) 3)).1, { o with ph := 2, canc := true }, true) else (s, { o with ph := 0 }, false) := by
        unfold stepC; simp only [if_neg hin, if_pos hp]
      refine (canSwap H hv hN hk hK hn (by omega) (hse hp)).mono ?_; intro v w q
      refine q.elim fun h2 q => q.elim fun V q => q.elim fun bl q => ?_
      have hle := q.1; have hv := q.2.1; have H := q.2.2; clear q
      rw [he]
      by_cases hc : (casS s (1 + slotOf o.handle) o.seen (wordOf (genOf o.seen) 3)).2 = true
      · simp only [if_pos hc] at H ⊢
        refine LdO.own H .head rfl ?_
        exact ⟨rfl, h2, V, bl, Hp.le_trans hle1 hle, hv, H⟩
      · have hs1 : (casS s (1 + slotOf o.handle) o.seen (wordOf (genOf o.seen) 3)).1 = s := by
          unfold casS at hc ⊢
          split
          · rename_i h; rw [if_pos h] at hc; exact absurd rfl hc
          · rfl
        simp only [if_neg hc] at H ⊢
        rw [hs1] at hv H
        refine LdO.own H .head rfl ?_
        exact ⟨rfl, h2, V, bl, Hp.le_trans hle1 hle, hv, H⟩
    · have he : stepC s o = if stale (wordS s (1 + slotOf o.handle)) (hgenOf o.handle) = true then (s, { o with seen := wordS s (1 + slotOf o.handle), ph := 2 }, true)
          else if stOf (wordS s (1 + slotOf o.handle)) = 2 then (s, { o with seen := wordS s (1 + slotOf o.handle) }, decide (o.ph = 2)) else (s, { o with seen := wordS s (1 + slotOf o.handle), ph := 1 }, false) := by
        unfold stepC; simp only [if_neg hin, if_neg hp]
      refine (canLoad H hv hN hk hK hn).mono ?_; intro v w q
      refine q.elim fun h2 q => q.elim fun V q => q.elim fun bl q => ?_
      have hle := q.1; have hv := q.2.1; have H := q.2.2; clear q
      rw [he]
      by_cases h1 : stale (wordS s (1 + slotOf o.handle)) (hgenOf o.handle) = true
      · simp only [if_pos h1] at H ⊢
        refine LdO.own H .head rfl ?_
        exact ⟨rfl, h2, V, bl, Hp.le_trans hle1 hle, hv, H⟩
      · by_cases h2 : stOf (wordS s (1 + slotOf o.handle)) = 2
        · simp only [if_neg h1, if_pos h2] at H ⊢
          refine LdO.own H .head rfl ?_
          exact ⟨rfl, _, V, bl, Hp.le_trans hle1 hle, hv, H⟩
        · simp only [if_neg h1, if_neg h2] at H ⊢
          refine LdO.own H .head rfl ?_
          exact ⟨rfl, _, V, bl, Hp.le_trans hle1 hle, hv, H⟩
end
end Go.Proofs.YtbdoinigeaaclaaGreat
