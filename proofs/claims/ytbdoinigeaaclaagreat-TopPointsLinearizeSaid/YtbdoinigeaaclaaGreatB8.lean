/- The shared memory, seen through the store: locks, words. Conditions: the log is short.
   An insertion running: its block and its closures. Conditions: none.
   An insertion's small functions: far, near, arena, unlock. Conditions: a mutex is held where one is released.
   An insertion's steps: trying a lock; the start. Conditions: a mutex is held where one is released. -/
import Derived.Test.YtbdoinigeaaclaaGreatB7
set_option linter.all false
set_option maxRecDepth 20000
namespace Go.Proofs.YtbdoinigeaaclaaGreat
open Go RL PQ
variable {g : World} {h h' : Hp} {w : World} {L : List (Nat × Obj)}
theorem stoTryLock {D : SD} {V : SV} {s : Sto} {N : Nat} (H : St g h w (stoL D V s L)) (hv : V.ok h s N) (hN : N ≤ 500000) (t : Int) {n : Nat} (hn : n < s.mus.length) :
    Ret Tryz.prog 90 [.pointer (some ⟨D.B.bm, 0, none⟩), .int .i64 t, .int .i64 n] w fun v w' => v = .bool (lockS s t n).2 ∧ StoW g h D (lockS s t n).1 (N + 1) L w' := by
  refine (memTryLock D.B (toMem H) hv.log hN t hn).mono ?_; intro v w q
  have hv2 := q.1
  refine q.2.elim fun G' q => ?_
  have hlk : lockS s t n = if s.mus[n] = none then ({ s with mus := s.mus.set n (some t) }, true) else (s, false) := by
    unfold lockS; rw [List.getElem?_eq_getElem hn]; simp only [Option.some.injEq]
  rw [hlk]
  by_cases hm : s.mus[n] = none
  · rw [if_pos hm]
    have H := q.2
    rw [if_pos hm] at H
    have H := ofMem H (s' := { s with mus := s.mus.set n (some t) }) rfl rfl rfl
    rw [hv2, decide_eq_true hm]
    exact ⟨rfl, StoW.mk (Hp.le_refl _) (V := { V with G := G' }) ⟨q.1, hv.sl, hv.id, hv.p, hv.q⟩ H⟩
  · rw [if_neg hm]
    have H := q.2
    rw [if_neg hm] at H
    have H := ofMem H (s' := s) rfl rfl rfl
    rw [hv2, decide_eq_false hm]
    exact ⟨rfl, StoW.mk (Hp.le_refl _) (V := { V with G := G' }) ⟨q.1, hv.sl, hv.id, hv.p, hv.q⟩ H⟩
theorem stoUnlock {D : SD} {V : SV} {s : Sto} {N : Nat} (H : St g h w (stoL D V s L)) (hv : V.ok h s N) (hN : N ≤ 500000) (t : Int) {n : Nat} (hn : n < s.mus.length) :
    Ret Tryz.prog 104 [.pointer (some ⟨D.B.bm, 0, none⟩), .int .i64 t, .int .i64 n] w fun _ w' => StoW g h D (unlockS s t n) (N + 1) L w' := by
  refine (memUnlock D.B (toMem H) hv.log hN t hn).mono ?_; intro v w q
  refine q.2.elim fun G' q => ?_
  have hlk : unlockS s t n = if s.mus[n] = some t then { s with mus := s.mus.set n none } else s := by
    unfold unlockS; rw [if_neg (by omega), Int.toNat_natCast, List.getElem?_eq_getElem hn]; simp only [Option.some.injEq]
  rw [hlk]
  by_cases hm : s.mus[n] = some t
  · rw [if_pos hm]
    have H := q.2
    rw [if_pos hm] at H
    have H := ofMem H (s' := { s with mus := s.mus.set n none }) rfl rfl rfl
    exact StoW.mk (Hp.le_refl _) (V := { V with G := G' }) ⟨q.1, hv.sl, hv.id, hv.p, hv.q⟩ H
  · rw [if_neg hm]
    have H := q.2
    rw [if_neg hm] at H
    have H := ofMem H (s' := s) rfl rfl rfl
    exact StoW.mk (Hp.le_refl _) (V := { V with G := G' }) ⟨q.1, hv.sl, hv.id, hv.p, hv.q⟩ H
theorem stoLoad {D : SD} {V : SV} {s : Sto} {N : Nat} (H : St g h w (stoL D V s L)) (hv : V.ok h s N) (hN : N ≤ 500000) (t i : Int) :
    Ret Tryz.prog 88 [.pointer (some ⟨D.B.bm, 0, none⟩), .int .i64 t, .int .i64 i] w fun v w' => v = .int .i64 (wordS s i) ∧ StoW g h D s (N + 1) L w' := by
  refine (memLoad D.B (toMem H) hv.log hN t i).mono ?_; intro v w q
  have hv2 := q.1
  refine q.2.elim fun G' q => ?_
  have H := ofMem q.2 (s' := s) rfl rfl rfl
  exact ⟨hv2, StoW.mk (Hp.le_refl _) (V := { V with G := G' }) ⟨q.1, hv.sl, hv.id, hv.p, hv.q⟩ H⟩
theorem stoCas {D : SD} {V : SV} {s : Sto} {N : Nat} (H : St g h w (stoL D V s L)) (hv : V.ok h s N) (hN : N ≤ 500000) (t : Int) {n : Nat} (old new : Int) (hi : n < s.words.length) :
    Ret Tryz.prog 183 [.pointer (some ⟨D.B.bm, 0, none⟩), .int .i64 t, .int .i64 n, .int .i64 old, .int .i64 new] w fun v w' => v = .bool (casS s n old new).2 ∧ StoW g h D (casS s n old new).1 (N + 1) L w' := by
  refine (memCas D.B (toMem H) hv.log hN t n old new ⟨by omega, by omega⟩).mono ?_; intro v w q
  have hv2 := q.1
  refine q.2.elim fun G' q => ?_
  have hcs : casS s n old new = if wordAt s.words n = old then (setW s n new, true) else (s, false) := rfl
  rw [hcs]
  by_cases ho : wordAt s.words n = old
  · rw [if_pos ho]
    have H := q.2
    have e : setW s n new = { s with words := s.words.set (n : Int).toNat new } := if_neg (by omega)
    have e2 : setAtW s.words n new = s.words.set (n : Int).toNat new := if_neg (by omega)
    rw [if_pos ho, e2] at H
    have H := ofMem H (s' := { s with words := s.words.set (n : Int).toNat new }) rfl rfl rfl
    rw [hv2, decide_eq_true ho, e]
    exact ⟨rfl, StoW.mk (Hp.le_refl _) (V := { V with G := G' }) ⟨q.1, hv.sl, hv.id, hv.p, hv.q⟩ H⟩
  · rw [if_neg ho]
    have H := q.2
    rw [if_neg ho] at H
    have H := ofMem H (s' := s) rfl rfl rfl
    rw [hv2, decide_eq_false ho]
    exact ⟨rfl, StoW.mk (Hp.le_refl _) (V := { V with G := G' }) ⟨q.1, hv.sl, hv.id, hv.p, hv.q⟩ H⟩
end Go.Proofs.YtbdoinigeaaclaaGreat
set_option maxRecDepth 20000
namespace Go.Proofs.YtbdoinigeaaclaaGreat
open Go RL PQ
variable {g : World} {h h' : Hp} {w : World} {L : List (Nat × Obj)}
/-- The closure that tries a lock. -/
def IsLock (h : Hp) (bo m : Nat) (tv v : Value) : Prop :=
  ∃ b1 b2 b3 b4 : Nat, v = .func (.func 89) #[] #[.pointer (some ⟨b1, 0, none⟩), .pointer (some ⟨b2, 0, none⟩), .pointer (some ⟨b3, 0, none⟩), .pointer (some ⟨b4, 0, none⟩)] ∧
    HC h b1 0 [.pointer (some ⟨bo, 0, none⟩)] ∧ HC h b2 0 [.int .i64 m] ∧ HC h b3 0 [v] ∧ HC h b4 0 [tv]
/-- What stands for a step of an insertion. -/
def FnI (h : Hp) (bo : Nat) (v : Value) : Option InsSt → Prop
  | none => v = .nilFunc
  | some .start => v = .func (.func 70) #[.pointer (some ⟨bo, 0, none⟩)] #[]
  | some .tryTop => IsLock h bo 0 (.func (.func 81) #[.pointer (some ⟨bo, 0, none⟩)] #[]) v
  | some .confirm => v = .func (.func 81) #[.pointer (some ⟨bo, 0, none⟩)] #[]
  | some .undo => ∃ b1, v = .func (.func 92) #[] #[.pointer (some ⟨b1, 0, none⟩)] ∧ HC h b1 0 [.pointer (some ⟨bo, 0, none⟩)]
  | some .tryRungs => IsLock h bo 1 (.func (.func 94) #[.pointer (some ⟨bo, 0, none⟩)] #[]) v
  | some .choose => v = .func (.func 94) #[.pointer (some ⟨bo, 0, none⟩)] #[]
  | some .tryBot => ∃ v', IsLock h bo 2 v' v ∧ IsLock h bo 3 (.func (.func 103) #[.pointer (some ⟨bo, 0, none⟩)] #[]) v'
  | some .tryArena => IsLock h bo 3 (.func (.func 103) #[.pointer (some ⟨bo, 0, none⟩)] #[]) v
  | some .alloc => v = .func (.func 103) #[.pointer (some ⟨bo, 0, none⟩)] #[]
  | some .leave => v = .func (.func 114) #[.pointer (some ⟨bo, 0, none⟩)] #[]
  | some .put => ∃ b1, v = .func (.func 126) #[] #[.pointer (some ⟨b1, 0, none⟩)] ∧ HC h b1 0 [.pointer (some ⟨bo, 0, none⟩)]
  | some .release => v = .func (.func 127) #[.pointer (some ⟨bo, 0, none⟩)] #[]
theorem IsLock.le {bo m : Nat} {tv v : Value} (q : IsLock h bo m tv v) (hl : h.le h') : IsLock h' bo m tv v := by
  obtain ⟨b1, b2, b3, b4, h0, h1, h2, h3, h4⟩ := q
  exact ⟨b1, b2, b3, b4, h0, h1.le hl, h2.le hl, h3.le hl, h4.le hl⟩
theorem FnI.le {bo : Nat} {v : Value} {st : Option InsSt} (q : FnI h bo v st) (hl : h.le h') : FnI h' bo v st := by
  match st, q with
  | none, q => exact q
  | some .start, q => exact q
  | some .tryTop, q => exact IsLock.le q hl
  | some .confirm, q => exact q
  | some .undo, q => obtain ⟨b, h0, h1⟩ := q; exact ⟨b, h0, h1.le hl⟩
  | some .tryRungs, q => exact IsLock.le q hl
  | some .choose, q => exact q
  | some .tryBot, q => obtain ⟨v', h0, h1⟩ := q; exact ⟨v', IsLock.le h0 hl, IsLock.le h1 hl⟩
  | some .tryArena, q => exact IsLock.le q hl
  | some .alloc, q => exact q
  | some .leave, q => exact q
  | some .put, q => obtain ⟨b, h0, h1⟩ := q; exact ⟨b, h0, h1.le hl⟩
  | some .release, q => exact q
def PutIs (h : Hp) (bo : Nat) (v : Value) : Option Int → Prop
  | none => v = .func (.func 69) #[] #[]
  | some hd => ∃ b1 b2, v = .func (.func 111) #[] #[.pointer (some ⟨b1, 0, none⟩), .pointer (some ⟨b2, 0, none⟩)] ∧ HC h b1 0 [.pointer (some ⟨bo, 0, none⟩)] ∧ HC h b2 0 [.int .i64 hd]
theorem PutIs.le {bo : Nat} {v : Value} {o : Option Int} (q : PutIs h bo v o) (hl : h.le h') : PutIs h' bo v o := by
  match o, q with
  | none, q => exact q
  | some hd, q => obtain ⟨b1, b2, h0, h1, h2⟩ := q; exact ⟨b1, b2, h0, h1.le hl, h2.le hl⟩
structure InsP where
  ha : Option Addr
  hc : Nat
  x : List (Nat × Obj)
  pv : Value
def insRow (D : SD) (t : Int) (P : InsP) (o : InsOp) (nv : Value) (bl : Bool) : List Value :=
  [.pointer (some ⟨D.bs, 0, none⟩), .int .i64 t, .int .i64 o.time, nv, .slice P.ha o.held.length P.hc, P.pv, .int .i64 o.pend.err, .int .i64 o.pend.rh, .bool false, .slice none 0 0,
   .int .i64 o.res.err, .int .i64 o.res.rh, .bool false, .slice none 0 0, .bool o.eff, .bool bl]
structure InsP.ok (h : Hp) (bo : Nat) (P : InsP) (o : InsOp) : Prop where
  own : OwnSl 3 1 (.slice P.ha o.held.length P.hc) (o.held.map intR) P.x
  put : PutIs h bo P.pv o.h
  pend : o.pend.canc = false ∧ o.pend.evs = []
  res : o.res.canc = false ∧ o.res.evs = []
theorem InsP.ok.le {bo : Nat} {P : InsP} {o : InsOp} (q : P.ok h bo o) (hl : h.le h') : P.ok h' bo o := ⟨q.own, q.put.le hl, q.pend, q.res⟩
/-- The insertion's blocks and the store's. -/
def insL (D : SD) (t : Int) (bo : Nat) (P : InsP) (o : InsOp) (nv : Value) (bl : Bool) (R : List (Nat × Obj)) : List (Nat × Obj) := (bo, .cells (insRow D t P o nv bl).toArray 151 (0, 0)) :: (P.x ++ R)
def InsQ (g : World) (h : Hp) (D : SD) (t : Int) (bo : Nat) (s : Sto) (o : InsOp) (N : Nat) (L : List (Nat × Obj)) (v : Value) (w : World) : Prop :=
  ∃ (h' : Hp) (V : SV) (P : InsP) (nv : Value) (bl : Bool), h.le h' ∧ V.ok h' s N ∧ P.ok h' bo o ∧ FnI h' bo v o.st ∧ St g h' w (insL D t bo P o nv bl (stoL D V s L))
theorem insIn {D : SD} {V : SV} {s : Sto} {p : Nat × Obj} {x : List (Nat × Obj)} (H : St g h w (p :: (x ++ stoL D V s L))) : St g h w (stoL D V s (p :: (x ++ L))) := stoIn (A := p :: x) H
theorem insOut {D : SD} {V : SV} {s : Sto} {p : Nat × Obj} {x : List (Nat × Obj)} (H : St g h w (stoL D V s (p :: (x ++ L)))) : St g h w (p :: (x ++ stoL D V s L)) := stoOut (A := p :: x) H
theorem sealC {b : Nat} {c : Array Value} {e : TypeId} {fz : Nat × Nat} (H : St g h w ((b, .cells c e fz) :: L)) : ∃ h', h.le h' ∧ HC h' b 0 c.toList ∧ St g h' w L :=
  ⟨_, H.seal_le, HC.new _ _ _ _ _, H.sealIt⟩
theorem lockF (H : St g h w L) (bo m k : Nat) (fst caps : Array Value) :
    Ret Tryz.prog 80 [.pointer (some ⟨bo, 0, none⟩), .int .i64 m, .func (.func k) fst caps] w fun v w' => ∃ h', h.le h' ∧ IsLock h' bo m (.func (.func k) fst caps) v ∧ St g h' w' L := by
  refine Ret.enter tabOk Tryz.func80 rfl (by rfl) rfl (by rfl) (by kernel_rfl) ?_
  refine AllocO.own H fun b1 w H => ?_
  refine (sealC (c := #[.pointer (some ⟨bo, 0, none⟩)]) H).elim fun h1 q => ?_
  have l1 := q.1; have c1 := q.2.1; have H := q.2.2; clear q
  refine AllocO.own H fun b2 w H => ?_
  refine (sealC (c := #[.int .i64 m]) H).elim fun h2 q => ?_
  have l2 := q.1; have c2 := q.2.1; have H := q.2.2; clear q
  refine AllocO.own H fun b4 w H => ?_
  refine (sealC (c := #[.func (.func k) fst caps]) H).elim fun h3 q => ?_
  have l3 := q.1; have c4 := q.2.1; have H := q.2.2; clear q
  refine AllocO.own H fun b3 w H => ?_
  refine StO.own H .head rfl rfl rfl fun w H => ?_
  refine LdO.own H .head rfl ?_
  refine (sealC (c := #[.func (.func 89) #[] #[.pointer (some ⟨b1, 0, none⟩), .pointer (some ⟨b2, 0, none⟩), .pointer (some ⟨b3, 0, none⟩), .pointer (some ⟨b4, 0, none⟩)]]) H).elim fun h4 q => ?_
  have l4 := q.1; have c3 := q.2.1; have H := q.2.2; clear q
  exact ⟨h4, Hp.le_trans l1 (Hp.le_trans l2 (Hp.le_trans l3 l4)), ⟨b1, b2, b3, b4, rfl, c1.le (Hp.le_trans l2 (Hp.le_trans l3 l4)), c2.le (Hp.le_trans l3 l4), c3, c4.le l4⟩, H⟩
end Go.Proofs.YtbdoinigeaaclaaGreat
set_option maxRecDepth 20000
namespace Go.Proofs.YtbdoinigeaaclaaGreat
open Go RL PQ
variable {g : World} {h h' : Hp} {w : World} {L : List (Nat × Obj)}
theorem insNear (H : St g h w L) (bo : Nat) : Ret Tryz.prog 82 [.pointer (some ⟨bo, 0, none⟩)] w fun v w' => ∃ h', h.le h' ∧ FnI h' bo v (some .tryRungs) ∧ St g h' w' L := by
  refine Ret.enter tabOk Tryz.func82 rfl (by rfl) rfl (by rfl) (by kernel_rfl) ?_
  refine (lockF H bo 1 94 #[.pointer (some ⟨bo, 0, none⟩)] #[]).mono ?_; intro v w q
  exact q
theorem insArena (H : St g h w L) (bo : Nat) : Ret Tryz.prog 91 [.pointer (some ⟨bo, 0, none⟩)] w fun v w' => ∃ h', h.le h' ∧ FnI h' bo v (some .tryArena) ∧ St g h' w' L := by
  refine Ret.enter tabOk Tryz.func91 rfl (by rfl) rfl (by rfl) (by kernel_rfl) ?_
  refine (lockF H bo 3 103 #[.pointer (some ⟨bo, 0, none⟩)] #[]).mono ?_; intro v w q
  exact q
def OpS (D : SD) (t time : Int) (bo : Nat) (w : World) : Prop :=
  w.cell? ⟨bo, 0, none⟩ = some (.pointer (some ⟨D.bs, 0, none⟩)) ∧ w.cell? ⟨bo, 1, none⟩ = some (.int .i64 t) ∧ w.cell? ⟨bo, 2, none⟩ = some (.int .i64 time)
theorem opS {D : SD} {t : Int} {bo : Nat} {P : InsP} {o : InsOp} {nv : Value} {bl : Bool} (H : St g h w (insL D t bo P o nv bl L)) : OpS D t o.time bo w :=
  ⟨H.ocell .head rfl, H.ocell .head rfl, H.ocell .head rfl⟩
theorem insFar {D : SD} {V : SV} {s : Sto} {N : Nat} {t : Int} {bo : Nat} {P : InsP} {o : InsOp} {nv : Value} {bl : Bool} (H : St g h w (insL D t bo P o nv bl (stoL D V s L))) (hv : V.ok h s N) (hN : N ≤ 499990) :
    Ret Tryz.prog 79 [.pointer (some ⟨bo, 0, none⟩)] w fun v w' => v = .bool (farS s o.time) ∧ ∃ h' V, h.le h' ∧ V.ok h' s (N + 1) ∧ St g h' w' (insL D t bo P o nv bl (stoL D V s L)) := by
  refine Ret.enter tabOk Tryz.func79 rfl (by rfl) rfl (by rfl) (by kernel_rfl) ?_
  refine DrawO.wi H (OpS D t o.time bo) (fun w H => opS H) (pl [0, 1, 2, 3, 4, 5, 6, 7, 9, 10, 11, 12, 1008, 1013, 14, 15] .nil) (by kernel_rfl) fun w H => ?_
  refine LdQ.cell (fun _ hs => hs.2.2) ?_
  refine LdQ.cell (fun _ hs => hs.1) ?_
  refine LdQ.cell (fun _ hs => hs.2.1) ?_
  refine (stoMemory (insIn H)).mono ?_; intro v w q
  have hv2 := q.1; have H := q.2; clear q
  subst hv2
  refine ⟨opS (insOut H), ?_⟩
  refine (stoLoad H hv (by omega) t 0).mono ?_; intro v w q
  have hv2 := q.1; have q2 := q.2; clear q
  subst hv2
  refine q2.go fun h2 V hle hv H => ?_
  have H := insOut H
  exact ⟨opS H, rfl, h2, V, hle, hv, H⟩
theorem ownTake {el sz : Nat} {a : Option Addr} {n cap k : Nat} {rows : List (List Value)} {x : List (Nat × Obj)} (ho : OwnSl el sz (.slice a n cap) rows x) (hk : k ≤ rows.length) : OwnSl el sz (.slice a k cap) (rows.take k) x := by
  obtain ⟨hr, ⟨hv, hr0, hx⟩ | ⟨b, c, cap', hv, h1, h2, h3, hx⟩⟩ := ho
  · subst hr0
    cases hv
    have : k = 0 := by simpa using hk
    subst this
    exact ⟨by simp, .inl ⟨rfl, rfl, hx⟩⟩
  · cases hv
    have hl : (rows.take k).length = k := by rw [List.length_take, Nat.min_eq_left hk]
    refine ⟨fun r h => hr r (List.mem_of_mem_take h), .inr ⟨b, c, cap, by rw [hl], by rw [hl]; omega, h2, ?_, hx⟩⟩
    have hk2 : k * sz ≤ rows.length * sz := Nat.mul_le_mul_right sz hk
    rw [hl, flatten_take (fun r h => (hr r h).1), ← h3, List.take_take, Nat.min_eq_left hk2]
set_option maxHeartbeats 1000000 in
theorem insUnlock {D : SD} {V : SV} {s : Sto} {N : Nat} {t : Int} {bo : Nat} {P : InsP} {o : InsOp} {nv : Value} {bl : Bool} (H : St g h w (insL D t bo P o nv bl (stoL D V s L))) (hv : V.ok h s N) (hp : P.ok h bo o) (hN : N ≤ 499990)
    (hm : s.mus.length = 4) {hd : List Int} {m : Nat} (hh : o.held = hd ++ [(m : Int)]) (hm4 : m < 4) (hl : hd.length ≤ 10) :
    Ret Tryz.prog 93 [.pointer (some ⟨bo, 0, none⟩)] w fun _ w' => ∃ h' V P', h.le h' ∧ V.ok h' (unlockS s t m) (N + 1) ∧ P'.ok h' bo { o with held := hd } ∧ St g h' w' (insL D t bo P' { o with held := hd } nv bl (stoL D V (unlockS s t m) L)) := by
  obtain ⟨ha, hc, x, pv⟩ := P
  have ho := hp.own
  have hhl : o.held.length = hd.length + 1 := by rw [hh]; simp
  have hrl : (o.held.map intR).length = hd.length + 1 := by rw [List.length_map, hhl]
  obtain ⟨b, c, cap', hv2, hx⟩ := OwnSl.blk ho (by rw [hrl]; omega)
  simp only at hv2 hx ho
  rw [hrl, hhl] at hv2
  cases hv2
  subst hx
  have i1 : hd.length < (o.held.map intR).length := by omega
  have a1 := OwnSl.at ho i1
  have e1 : (o.held.map intR)[hd.length] = intR (m : Int) := by
    rw [List.getElem_map]; congr 1; simp [hh]
  rw [e1] at a1
  have hc0 : c.toList[hd.length * 1]? = some (.int .i64 m) := by
    have := congrArg List.head? a1.2.1
    simpa [List.head?_take, List.head?_drop, intR] using this
  have hcell : ∀ {w : World} {V : SV} {s : Sto} {h : Hp}, St g h w (insL D t bo ⟨some ⟨b, 0, none⟩, hc, [(b, .cells c 3 (0, 0))], pv⟩ o nv bl (stoL D V s L)) → w.cell? ⟨b, hd.length * 1, none⟩ = some (.int .i64 m) := fun {w V s h} H =>
    H.ocell (.tail .head) (by rw [nth_eq]; exact hc0)
  have htk := ownTake ho (k := hd.length) (by omega)
  have hmt : (o.held.map intR).take hd.length = hd.map intR := by rw [hh, List.map_append, List.take_left' (by simp)]
  rw [hmt] at htk
  refine Ret.enter tabOk Tryz.func93 rfl (by rfl) rfl (by rfl) (by kernel_rfl) ?_
  refine LdO.own H .head rfl ?_
  refine ArO.i64 ?_ (by omega) (by omega)
  have hcast : (o.held.length : Int) - 1 = (hd.length : Int) := by omega
  rw [hcast]
  refine DrawO.wi H (fun w => OpS D t o.time bo w ∧ w.cell? ⟨bo, 4, none⟩ = some (.slice (some ⟨b, 0, none⟩) o.held.length hc) ∧ w.cell? ⟨b, hd.length * 1, none⟩ = some (.int .i64 m)) (fun w H => ⟨opS H, H.ocell .head rfl, hcell H⟩)
    (pl [0, 1, 2, 3, 5, 6, 7, 8, 9, 10, 11, 12, 13, 14, 15, 1004, 1016] .nil) (by kernel_rfl) fun w H => ?_
  refine LdQ.cell (fun _ hs => hs.1.1) ?_
  refine LdQ.cell (fun _ hs => hs.1.2.1) ?_
  refine LdQ.cell (fun _ hs => hs.2.1) ?_
  refine IdxO.at0 (i := hd.length) rfl (by omega) ?_
  refine LdQ.cell (fun _ hs => hs.2.2) ?_
  refine (stoMemory (insIn H)).mono ?_; intro v w q
  have hv2 := q.1; have H := insOut q.2; clear q
  subst hv2
  refine ⟨⟨opS H, H.ocell .head rfl, hcell H⟩, ?_⟩
  refine (stoUnlock (insIn H) hv (by omega) t (n := m) (by omega)).mono ?_; intro v w q
  refine q.go fun h2 V hle hv H => ?_
  have H := insOut H
  refine ⟨⟨opS H, H.ocell .head rfl, hcell H⟩, ?_⟩
  refine LdO.own H .head rfl ?_
  have hcap : hd.length ≤ hc := by
    have := OwnSl.len htk
    obtain ⟨a', c', e, h3⟩ := this
    have e3 := (Value.slice.inj e).2.2
    rw [List.length_map, ← e3] at h3; exact h3
  refine SlcO.hi (n := hd.length) rfl hcap ?_
  refine StO.own H .head rfl rfl rfl fun w H => ?_
  exact ⟨h2, V, ⟨some ⟨b, 0, none⟩, hc, [(b, .cells c 3 (0, 0))], pv⟩, hle, hv, ⟨htk, hp.put.le hle, hp.pend, hp.res⟩, H⟩
end Go.Proofs.YtbdoinigeaaclaaGreat
set_option maxRecDepth 20000
namespace Go.Proofs.YtbdoinigeaaclaaGreat
open Go RL PQ
variable {g : World} {h h' : Hp} {w : World} {L : List (Nat × Obj)}
/-- What trying a lock leaves. -/
def TryPost (g : World) (h : Hp) (D : SD) (t : Int) (bo m : Nat) (s : Sto) (o : InsOp) (nv tv v0 : Value) (N : Nat) (L : List (Nat × Obj)) (v : Value) (w : World) : Prop :=
  ∃ (h' : Hp) (V : SV) (P : InsP) (bl : Bool), h.le h' ∧ V.ok h' (lockS s t m).1 N ∧
    (if (lockS s t m).2 = true then v = tv ∧ P.ok h' bo { o with held := if m = 3 then o.held else o.held ++ [(m : Int)] } ∧ St g h' w (insL D t bo P { o with held := if m = 3 then o.held else o.held ++ [(m : Int)] } nv bl (stoL D V (lockS s t m).1 L))
     else v = v0 ∧ P.ok h' bo o ∧ St g h' w (insL D t bo P o nv bl (stoL D V (lockS s t m).1 L)))
set_option maxHeartbeats 1000000 in
theorem insTry {D : SD} {V : SV} {s : Sto} {N : Nat} {t : Int} {bo m : Nat} {P : InsP} {o : InsOp} {nv tv v0 : Value} {bl : Bool} (H : St g h w (insL D t bo P o nv bl (stoL D V s L))) (hv : V.ok h s N) (hp : P.ok h bo o) (hN : N ≤ 499990)
    (hm : s.mus.length = 4) (hm4 : m < 4) (hl : o.held.length ≤ 10) {b1 b2 b3 b4 : Nat} (c1 : HC h b1 0 [.pointer (some ⟨bo, 0, none⟩)]) (c2 : HC h b2 0 [.int .i64 m]) (c3 : HC h b3 0 [v0]) (c4 : HC h b4 0 [tv]) :
    Ret Tryz.prog 89 [.pointer (some ⟨b1, 0, none⟩), .pointer (some ⟨b2, 0, none⟩), .pointer (some ⟨b3, 0, none⟩), .pointer (some ⟨b4, 0, none⟩)] w (TryPost g h D t bo m s o nv tv v0 (N + 1) L) := by
  refine Ret.enter tabOk Tryz.func89 rfl (by rfl) rfl (by rfl) (by kernel_rfl) ?_
  refine DrawO.wi H (fun w => OpS D t o.time bo w ∧ w.cell? ⟨b1, 0, none⟩ = some (.pointer (some ⟨bo, 0, none⟩)) ∧ w.cell? ⟨b2, 0, none⟩ = some (.int .i64 m)) (fun w H => ⟨opS H, H.hcell c1 (j := 0) rfl, H.hcell c2 (j := 0) rfl⟩)
    (pl [0, 1, 2, 3, 5, 6, 7, 8, 9, 1004, 1010, 11] .nil) (by kernel_rfl) fun w H => ?_
  refine LdQ.cell (fun _ hs => hs.2.1) ?_
  refine LdQ.cell (fun _ hs => hs.1.1) ?_
  refine LdQ.cell (fun _ hs => hs.2.1) ?_
  refine LdQ.cell (fun _ hs => hs.1.2.1) ?_
  refine LdQ.cell (fun _ hs => hs.2.2) ?_
  refine (stoMemory (insIn H)).mono ?_; intro v w q
  have hv2 := q.1; have H := insOut q.2; clear q
  subst hv2
  refine ⟨⟨opS H, H.hcell c1 (j := 0) rfl, H.hcell c2 (j := 0) rfl⟩, ?_⟩
  refine (stoTryLock (insIn H) hv (by omega) t (n := m) (by omega)).mono ?_; intro v w q
  have hv2 := q.1; have q2 := q.2; clear q
  subst hv2
  refine q2.go fun h2 V hle hv H => ?_
  have H := insOut H
  have c1 := c1.le hle
  have c2 := c2.le hle
  refine ⟨⟨opS H, H.hcell c1 (j := 0) rfl, H.hcell c2 (j := 0) rfl⟩, ?_⟩
  refine CondT.bool (fun hf => ?_) (fun hok => ?_)
  · have hf2 : (lockS s t m).2 = false := by simpa using hf
    refine LdO.hc H c1 (j := 0) rfl ?_
    refine StO.own H .head rfl rfl rfl fun w H => ?_
    refine LdO.hc H (c3.le hle) (j := 0) rfl ?_
    exact ⟨h2, V, P, true, hle, hv, ite_neg' (by rw [hf2]; decide) ⟨rfl, hp.le hle, H⟩⟩
  · have hok2 : (lockS s t m).2 = true := by simpa using hok
    refine LdO.hc H c2 (j := 0) rfl ?_
    refine CondT.bool (fun hne => ?_) (fun heq => ?_)
    · have hne2 : m ≠ 3 := by
        have : ((m : Int) ≠ 3) := by simpa using hne
        omega
      obtain ⟨ha, hc, x, pv⟩ := P
      have ho := hp.own
      refine DrawO.wx H (fun w => w.cell? ⟨b1, 0, none⟩ = some (.pointer (some ⟨bo, 0, none⟩)) ∧ w.cell? ⟨b2, 0, none⟩ = some (.int .i64 m) ∧ w.cell? ⟨bo, 4, none⟩ = some (.slice ha o.held.length hc)) (fun w H => ⟨H.hcell c1 (j := 0) rfl, H.hcell c2 (j := 0) rfl, H.ocell .head rfl⟩)
        (fun j => Nat.beq j 10) (by kernel_rfl) (pl [0, 1, 2, 3, 4, 5, 1006, 1007, 8, 9, 1010] .nil) (by kernel_rfl) fun w H => ?_
      refine LdQ.cell (fun _ hs => hs.1) ?_
      refine LdQ.cell (fun _ hs => hs.1) ?_
      refine LdQ.cell (fun _ hs => hs.2.2) ?_
      refine LdQ.cell (fun _ hs => hs.2.1) ?_
      refine AllocO.own H fun b29 w H => ⟨⟨H.hcell c1 (j := 0) rfl, H.hcell c2 (j := 0) rfl, H.ocell (.tail .head) rfl⟩, ?_⟩
      have hsrc : Src w 1 (.slice (some ⟨b29, 0, none⟩) 1 1) [intR m] := H.srcOwn .head (by simp [intR]) rfl rfl
      have H := St.pull (A := [_, _]) H
      refine RunO.apps (n := o.held.length) (m := 1) tabOk rfl rfl rfl rfl rfl rfl rfl H ho hsrc (by simp [oneCells, intR, Value.oneCell']) (by rw [List.length_map]) rfl (by omega) fun v w x' ho' H => ?_
      have H := (St.pull (x := [_, _]) H).tail
      refine ⟨⟨H.hcell c1 (j := 0) rfl, H.hcell c2 (j := 0) rfl, H.ocell .head rfl⟩, ?_⟩
      refine (OwnSl.len ho').elim fun a' q => q.elim fun c' q => ?_
      have q := q.1
      rw [List.length_append, List.length_map] at q
      subst q
      refine StO.own H .head rfl rfl rfl fun w H => ⟨rfl, ?_⟩
      refine LdO.hc H (c4.le hle) (j := 0) rfl ?_
      have hl2 : (o.held ++ [(m : Int)]).length = o.held.length + 1 := by simp
      have hm2 : o.held.map intR ++ [intR (m : Int)] = (o.held ++ [(m : Int)]).map intR := by rw [List.map_append]; rfl
      refine ⟨h2, V, ⟨a', c', x', pv⟩, bl, hle, hv, ite_pos' hok2 ?_⟩
      rw [if_neg hne2]
      refine ⟨rfl, ⟨?_, hp.put.le hle, hp.pend, hp.res⟩, ?_⟩
      · show OwnSl 3 1 (.slice a' (o.held ++ [(m : Int)]).length c') ((o.held ++ [(m : Int)]).map intR) x'
        rw [hl2, ← hm2]; exact ho'
      · unfold insL insRow
        rw [hl2]; exact H
    · have heq2 : m = 3 := by
        have : ((m : Int) = 3) := by simpa using heq
        omega
      refine LdO.hc H (c4.le hle) (j := 0) rfl ?_
      refine ⟨h2, V, P, bl, hle, hv, ite_pos' hok2 ?_⟩
      rw [if_pos heq2]
      exact ⟨rfl, hp.le hle, H⟩
end Go.Proofs.YtbdoinigeaaclaaGreat
