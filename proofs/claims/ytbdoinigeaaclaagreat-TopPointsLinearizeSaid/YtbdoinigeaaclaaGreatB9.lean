/- An insertion's steps: start, confirm, undo, choose. Conditions: a mutex is held where one is released.
   An insertion's steps: allocating, leaving the arena. Conditions: the store is in order.
   An insertion's steps: putting, releasing. Conditions: the store is in order; a mutex is held. -/
import Derived.Test.YtbdoinigeaaclaaGreatB8
set_option linter.all false
set_option maxRecDepth 20000
namespace Go.Proofs.YtbdoinigeaaclaaGreat
open Go RL PQ
variable {g : World} {h h' : Hp} {w : World} {L : List (Nat × Obj)}
section
variable {D : SD} {V : SV} {s : Sto} {N : Nat} {t : Int} {bo : Nat} {P : InsP} {o : InsOp} {nv : Value} {bl : Bool}
theorem insStart (H : St g h w (insL D t bo P o nv bl (stoL D V s L))) (hv : V.ok h s N) (hp : P.ok h bo o) (hN : N ≤ 499990) :
    Ret Tryz.prog 70 [.pointer (some ⟨bo, 0, none⟩)] w (InsQ g h D t bo (nextI s t o .start).1 (nextI s t o .start).2 (N + 1) L) := by
  refine Ret.enter tabOk Tryz.func70 rfl (by rfl) rfl (by rfl) (by kernel_rfl) ?_
  refine LdO.own H .head rfl ?_
  have hbad : o.time < 0 ∨ 1152921504606846976 < o.time → nextI s t o .start = (s, { o with st := none, eff := true, pend := { o.pend with err := 1 } }) := fun hc => if_pos hc
  refine CondT.dec (fun h1 => ?_) (fun h1 => ?_)
  · refine CondT.mk ?_
    refine StO.own H .head rfl rfl rfl fun w H => ?_
    refine StO.own H .head rfl rfl rfl fun w H => ?_
    rw [hbad (.inl h1)]
    exact ⟨h, V, P, nv, bl, Hp.le_refl h, hv.mono (Nat.le_succ N), ⟨hp.own, hp.put, hp.pend, hp.res⟩, rfl, H⟩
  refine LdO.own H .head rfl ?_
  refine CondT.dec (fun h2 => ?_) (fun h2 => ?_)
  · refine StO.own H .head rfl rfl rfl fun w H => ?_
    refine StO.own H .head rfl rfl rfl fun w H => ?_
    rw [hbad (.inr h2)]
    exact ⟨h, V, P, nv, bl, Hp.le_refl h, hv.mono (Nat.le_succ N), ⟨hp.own, hp.put, hp.pend, hp.res⟩, rfl, H⟩
  refine (insFar H hv hN).mono ?_; intro v w q
  have hv2 := q.1; have q2 := q.2; clear q
  subst hv2
  refine q2.elim fun h2 q => q.elim fun V q => ?_
  have hle := q.1; have hv := q.2.1; have H := q.2.2; clear q
  have hgood : nextI s t o .start = if farS s o.time = true then (s, { o with st := some .tryTop }) else (s, { o with st := some .tryRungs }) := if_neg (by omega)
  refine CondT.bool (fun hf => ?_) (fun hf => ?_)
  · refine (lockF H bo 0 81 #[.pointer (some ⟨bo, 0, none⟩)] #[]).mono ?_; intro v w q
    refine q.elim fun h3 q => ?_
    rw [hgood, if_pos hf]
    exact ⟨h3, V, P, nv, bl, Hp.le_trans hle q.1, hv.le q.1, ⟨hp.own, (hp.put.le hle).le q.1, hp.pend, hp.res⟩, q.2.1, q.2.2⟩
  · refine (insNear H bo).mono ?_; intro v w q
    refine q.elim fun h3 q => ?_
    rw [hgood, if_neg (by rw [hf]; decide)]
    exact ⟨h3, V, P, nv, bl, Hp.le_trans hle q.1, hv.le q.1, ⟨hp.own, (hp.put.le hle).le q.1, hp.pend, hp.res⟩, q.2.1, q.2.2⟩
theorem insConfirm (H : St g h w (insL D t bo P o nv bl (stoL D V s L))) (hv : V.ok h s N) (hp : P.ok h bo o) (hN : N ≤ 499990) :
    Ret Tryz.prog 81 [.pointer (some ⟨bo, 0, none⟩)] w (InsQ g h D t bo (nextI s t o .confirm).1 (nextI s t o .confirm).2 (N + 1) L) := by
  refine Ret.enter tabOk Tryz.func81 rfl (by rfl) rfl (by rfl) (by kernel_rfl) ?_
  refine AllocO.own H fun b1 w H => ?_
  refine (sealC (c := #[.pointer (some ⟨bo, 0, none⟩)]) H).elim fun h1 q => ?_
  have l1 := q.1; have c1 := q.2.1; have H := q.2.2; clear q
  refine LdO.hc H c1 (j := 0) rfl ?_
  refine (insFar H (hv.le l1) hN).mono ?_; intro v w q
  have hv2 := q.1; have q2 := q.2; clear q
  subst hv2
  refine q2.elim fun h2 q => q.elim fun V q => ?_
  have hle := q.1; have hv := q.2.1; have H := q.2.2; clear q
  have he : nextI s t o .confirm = (s, { o with st := if farS s o.time = true then some .tryArena else some .undo }) := rfl
  refine CondT.bool (fun hf => ?_) (fun hf => ?_)
  · refine LdO.hc H (c1.le hle) (j := 0) rfl ?_
    refine (insArena H bo).mono ?_; intro v w q
    refine q.elim fun h3 q => ?_
    rw [he, if_pos hf]
    exact ⟨h3, V, P, nv, bl, Hp.le_trans l1 (Hp.le_trans hle q.1), hv.le q.1, ⟨hp.own, ((hp.put.le l1).le hle).le q.1, hp.pend, hp.res⟩, q.2.1, q.2.2⟩
  · rw [he, if_neg (by rw [hf]; decide)]
    exact ⟨h2, V, P, nv, bl, Hp.le_trans l1 hle, hv, ⟨hp.own, (hp.put.le l1).le hle, hp.pend, hp.res⟩, ⟨b1, rfl, c1.le hle⟩, H⟩
theorem insUndo (H : St g h w (insL D t bo P o nv bl (stoL D V s L))) (hv : V.ok h s N) (hp : P.ok h bo o) (hN : N ≤ 499990) (hm : s.mus.length = 4) {hd : List Int} {m : Nat} (hh : o.held = hd ++ [(m : Int)]) (hm4 : m < 4) (hl : hd.length ≤ 10)
    {b1 : Nat} (c1 : HC h b1 0 [.pointer (some ⟨bo, 0, none⟩)]) :
    Ret Tryz.prog 92 [.pointer (some ⟨b1, 0, none⟩)] w (InsQ g h D t bo (nextI s t o .undo).1 (nextI s t o .undo).2 (N + 1) L) := by
  refine Ret.enter tabOk Tryz.func92 rfl (by rfl) rfl (by rfl) (by kernel_rfl) ?_
  refine LdO.hc H c1 (j := 0) rfl ?_
  refine (insUnlock H hv hp hN hm hh hm4 hl).mono ?_; intro v w q
  refine q.elim fun h2 q => q.elim fun V q => q.elim fun P q => ?_
  have hle := q.1; have hv := q.2.1; have hp := q.2.2.1; have H := q.2.2.2; clear q
  refine LdO.hc H (c1.le hle) (j := 0) rfl ?_
  refine (insNear H bo).mono ?_; intro v w q
  refine q.elim fun h3 q => ?_
  have he : nextI s t o .undo = (unlockS s t m, { o with held := hd, st := some .tryRungs }) := by
    unfold nextI unlockLast; simp [hh]
  rw [he]
  exact ⟨h3, V, P, nv, bl, Hp.le_trans hle q.1, hv.le q.1, ⟨hp.own, hp.put.le q.1, hp.pend, hp.res⟩, q.2.1, q.2.2⟩
theorem insChoose (H : St g h w (insL D t bo P o nv bl (stoL D V s L))) (hv : V.ok h s N) (hp : P.ok h bo o) (hk : LdOk s.q) (hm : s.mus.length = 4) :
    Ret Tryz.prog 94 [.pointer (some ⟨bo, 0, none⟩)] w (InsQ g h D t bo (nextI s t o .choose).1 (nextI s t o .choose).2 (N + 1) L) := by
  refine Ret.enter tabOk Tryz.func94 rfl (by rfl) rfl (by rfl) (by kernel_rfl) ?_
  refine DrawO.wi H (OpS D t o.time bo) (fun w H => opS H) (pl [0, 1, 2, 3, 4, 5, 6, 7, 8, 9, 10, 11, 1012] .nil) (by kernel_rfl) fun w H => ?_
  refine LdQ.cell (fun _ hs => hs.1) ?_
  refine LdQ.cell (fun _ hs => hs.2.1) ?_
  refine LdQ.cell (fun _ hs => hs.2.2) ?_
  refine (stoAccepts (StoW.mk (Hp.le_refl h) hv (insIn H)) hk hm t o.time).mono ?_; intro v w q
  have hv2 := q.1; have q2 := q.2; clear q
  subst hv2
  refine q2.go fun h2 V hle hv H => ?_
  have H := insOut H
  refine ⟨opS H, ?_⟩
  have hv := hv.mono (Nat.le_succ N)
  have he : nextI s t o .choose = (s, { o with st := if acceptsS s o.time = true then some .tryArena else some .tryBot }) := rfl
  refine CondT.bool (fun hf => ?_) (fun hf => ?_)
  · refine (insArena H bo).mono ?_; intro v w q
    refine q.elim fun h3 q => ?_
    rw [he, if_pos hf]
    exact ⟨h3, V, P, nv, bl, Hp.le_trans hle q.1, hv.le q.1, ⟨hp.own, (hp.put.le hle).le q.1, hp.pend, hp.res⟩, q.2.1, q.2.2⟩
  · refine (insArena H bo).mono ?_; intro v w q
    refine q.elim fun h3 q => ?_
    have l3 := q.1; have H := q.2.2
    obtain ⟨c1, c2, c3, c4, hv3, k1, k2, k3, k4⟩ := q.2.1
    have hil := q.2.1
    subst hv3
    refine (lockF H bo 2 89 #[] #[.pointer (some ⟨c1, 0, none⟩), .pointer (some ⟨c2, 0, none⟩), .pointer (some ⟨c3, 0, none⟩), .pointer (some ⟨c4, 0, none⟩)]).mono ?_; intro v w q
    refine q.elim fun h4 q => ?_
    rw [he, if_neg (by rw [hf]; decide)]
    exact ⟨h4, V, P, nv, bl, Hp.le_trans hle (Hp.le_trans l3 q.1), (hv.le l3).le q.1, ⟨hp.own, ((hp.put.le hle).le l3).le q.1, hp.pend, hp.res⟩, ⟨_, q.2.1, IsLock.le hil q.1⟩, q.2.2⟩
end
end Go.Proofs.YtbdoinigeaaclaaGreat
set_option maxRecDepth 20000
namespace Go.Proofs.YtbdoinigeaaclaaGreat
open Go RL PQ
variable {g : World} {h h' : Hp} {w : World} {L : List (Nat × Obj)}
section
variable {D : SD} {V : SV} {s : Sto} {N : Nat} {t : Int} {bo : Nat} {P : InsP} {o : InsOp} {nv : Value} {bl : Bool}
set_option maxHeartbeats 1000000 in
theorem insAlloc (H : St g h w (insL D t bo P o nv bl (stoL D V s L))) (hv : V.ok h s N) (hp : P.ok h bo o) (hN : N ≤ 499990) {K : Int} (hk : SOk s K) (hK : K ≤ 1000000) :
    Ret Tryz.prog 103 [.pointer (some ⟨bo, 0, none⟩)] w (InsQ g h D t bo (nextI s t o .alloc).1 (nextI s t o .alloc).2 (N + 1) L) := by
  refine Ret.enter tabOk Tryz.func103 rfl (by rfl) rfl (by rfl) (by kernel_rfl) ?_
  refine AllocO.own H fun b1 w H => ?_
  refine (sealC (c := #[.pointer (some ⟨bo, 0, none⟩)]) H).elim fun h1 q => ?_
  have l1 := q.1; have c1 := q.2.1; have H := q.2.2; clear q
  refine DrawO.wi H (fun w => OpS D t o.time bo w ∧ w.cell? ⟨b1, 0, none⟩ = some (.pointer (some ⟨bo, 0, none⟩))) (fun w H => ⟨opS H, H.hcell c1 (j := 0) rfl⟩)
    (pl [0, 1, 2, 3, 4, 5, 6, 7, 8, 9, 10, 11] (.ll 12 (pl [13, 14, 15, 1016, 1017, 18] .nil) 16 (pl [1012, 13, 14, 15, 1017, 18] .nil))) (by kernel_rfl) fun w H => ?_
  refine LdQ.cell (fun _ hs => hs.2) ?_
  refine LdQ.cell (fun _ hs => hs.1.1) ?_
  refine LdQ.cell (fun _ hs => hs.2) ?_
  refine LdQ.cell (fun _ hs => hs.1.2.1) ?_
  refine LdQ.cell (fun _ hs => hs.2) ?_
  refine LdQ.cell (fun _ hs => hs.1.2.2) ?_
  refine ⟨?_, ?_⟩
  · refine (stoAlloc (StoW.mk (Hp.le_refl _) (hv.le l1) (insIn H)) hk hK hN t o.time).mono ?_; intro v w q
    have hv2 := q.1; have q2 := q.2; clear q
    subst hv2
    refine q2.go fun h2 V hle hv H => ?_
    have H := insOut H
    refine ⟨⟨opS H, H.hcell (c1.le hle) (j := 0) rfl⟩, ?_⟩
    refine AllocO.own H fun b3 w H => ⟨⟨opS H.tail, H.hcell (c1.le hle) (j := 0) rfl⟩, ?_⟩
    refine StO.own H .head rfl rfl rfl fun w H => ⟨⟨opS H.tail, H.hcell (c1.le hle) (j := 0) rfl⟩, ?_⟩
    refine (sealC (c := #[.int .i64 ((allocS s o.time).2.getD 0)]) H).elim fun h3 q => ?_
    have l3 := q.1; have c3 := q.2.1; have H := q.2.2; clear q
    have c1 := (c1.le hle).le l3
    refine LdO.hc H c1 (j := 0) rfl ?_
    refine StO.own H .head rfl rfl rfl fun w H => ?_
    cases ha : (allocS s o.time).2 with
    | none =>
      refine CondT.of (u := false) rfl ?_
      refine LdO.hc H c1 (j := 0) rfl ?_
      refine StO.own H .head rfl rfl rfl fun w H => ?_
      refine LdO.hc H c1 (j := 0) rfl ?_
      have he : nextI s t o .alloc = ((allocS s o.time).1, { o with st := some .leave, eff := true, pend := { o.pend with err := 10 } }) := by unfold nextI; simp only [ha]
      rw [he]
      exact ⟨h3, V, P, nv, bl, Hp.le_trans l1 (Hp.le_trans hle l3), hv.le l3, ⟨hp.own, ((hp.put.le l1).le hle).le l3, hp.pend, hp.res⟩, rfl, H⟩
    | some hd =>
      refine CondT.of (u := true) rfl ?_
      rw [ha] at c3
      refine LdO.hc H c1 (j := 0) rfl ?_
      refine LdO.hc H c3 (j := 0) rfl ?_
      refine StO.own H .head rfl rfl rfl fun w H => ?_
      refine LdO.hc H c1 (j := 0) rfl ?_
      refine StO.own H .head rfl rfl rfl fun w H => ?_
      refine LdO.hc H c1 (j := 0) rfl ?_
      have he : nextI s t o .alloc = ((allocS s o.time).1, { o with st := some .leave, eff := true, h := some hd, pend := { o.pend with rh := hd } }) := by unfold nextI; simp only [ha]
      rw [he]
      exact ⟨h3, V, { P with pv := .func (.func 111) #[] #[.pointer (some ⟨b1, 0, none⟩), .pointer (some ⟨b3, 0, none⟩)] }, nv, bl, Hp.le_trans l1 (Hp.le_trans hle l3), hv.le l3, ⟨hp.own, ⟨b1, b3, rfl, c1, c3⟩, hp.pend, hp.res⟩, rfl, H⟩
  · refine AllocO.own H fun b3 w H => ⟨⟨opS H.tail, H.hcell c1 (j := 0) rfl⟩, ?_⟩
    have H : St g h1 w ((b3, .cells #[.int .i64 0] 3 (0, 0)) :: insL D t bo P o nv bl (stoL D V s L)) := H
    have H := insIn (x := (bo, .cells (insRow D t P o nv bl).toArray 151 (0, 0)) :: P.x) H
    refine (stoAlloc (StoW.mk (Hp.le_refl _) (hv.le l1) H) hk hK hN t o.time).mono ?_; intro v w q
    have hv2 := q.1; have q2 := q.2; clear q
    subst hv2
    refine q2.go fun h2 V hle hv H => ?_
    have H := insOut (x := (bo, .cells (insRow D t P o nv bl).toArray 151 (0, 0)) :: P.x) H
    have H : St g h2 w ((b3, .cells #[.int .i64 0] 3 (0, 0)) :: insL D t bo P o nv bl (stoL D V (allocS s o.time).1 L)) := H
    refine ⟨⟨opS H.tail, H.hcell (c1.le hle) (j := 0) rfl⟩, ?_⟩
    refine StO.own H .head rfl rfl rfl fun w H => ⟨⟨opS H.tail, H.hcell (c1.le hle) (j := 0) rfl⟩, ?_⟩
    refine (sealC (c := #[.int .i64 ((allocS s o.time).2.getD 0)]) H).elim fun h3 q => ?_
    have l3 := q.1; have c3 := q.2.1; have H := q.2.2; clear q
    have c1 := (c1.le hle).le l3
    refine LdO.hc H c1 (j := 0) rfl ?_
    refine StO.own H .head rfl rfl rfl fun w H => ?_
    cases ha : (allocS s o.time).2 with
    | none =>
      refine CondT.of (u := false) rfl ?_
      refine LdO.hc H c1 (j := 0) rfl ?_
      refine StO.own H .head rfl rfl rfl fun w H => ?_
      refine LdO.hc H c1 (j := 0) rfl ?_
      have he : nextI s t o .alloc = ((allocS s o.time).1, { o with st := some .leave, eff := true, pend := { o.pend with err := 10 } }) := by unfold nextI; simp only [ha]
      rw [he]
      exact ⟨h3, V, P, nv, bl, Hp.le_trans l1 (Hp.le_trans hle l3), hv.le l3, ⟨hp.own, ((hp.put.le l1).le hle).le l3, hp.pend, hp.res⟩, rfl, H⟩
    | some hd =>
      refine CondT.of (u := true) rfl ?_
      rw [ha] at c3
      refine LdO.hc H c1 (j := 0) rfl ?_
      refine LdO.hc H c3 (j := 0) rfl ?_
      refine StO.own H .head rfl rfl rfl fun w H => ?_
      refine LdO.hc H c1 (j := 0) rfl ?_
      refine StO.own H .head rfl rfl rfl fun w H => ?_
      refine LdO.hc H c1 (j := 0) rfl ?_
      have he : nextI s t o .alloc = ((allocS s o.time).1, { o with st := some .leave, eff := true, h := some hd, pend := { o.pend with rh := hd } }) := by unfold nextI; simp only [ha]
      rw [he]
      exact ⟨h3, V, { P with pv := .func (.func 111) #[] #[.pointer (some ⟨b1, 0, none⟩), .pointer (some ⟨b3, 0, none⟩)] }, nv, bl, Hp.le_trans l1 (Hp.le_trans hle l3), hv.le l3, ⟨hp.own, ⟨b1, b3, rfl, c1, c3⟩, hp.pend, hp.res⟩, rfl, H⟩
theorem insLeave (H : St g h w (insL D t bo P o nv bl (stoL D V s L))) (hv : V.ok h s N) (hp : P.ok h bo o) (hN : N ≤ 499990) (hm : s.mus.length = 4) :
    Ret Tryz.prog 114 [.pointer (some ⟨bo, 0, none⟩)] w (InsQ g h D t bo (nextI s t o .leave).1 (nextI s t o .leave).2 (N + 1) L) := by
  refine Ret.enter tabOk Tryz.func114 rfl (by rfl) rfl (by rfl) (by kernel_rfl) ?_
  refine AllocO.own H fun b1 w H => ?_
  refine (sealC (c := #[.pointer (some ⟨bo, 0, none⟩)]) H).elim fun h1 q => ?_
  have l1 := q.1; have c1 := q.2.1; have H := q.2.2; clear q
  refine DrawO.wi H (fun w => OpS D t o.time bo w ∧ w.cell? ⟨b1, 0, none⟩ = some (.pointer (some ⟨bo, 0, none⟩))) (fun w H => ⟨opS H, H.hcell c1 (j := 0) rfl⟩)
    (pl [0, 1, 2, 3, 5, 6, 7, 8, 1004, 1009] .nil) (by kernel_rfl) fun w H => ?_
  refine LdQ.cell (fun _ hs => hs.2) ?_
  refine LdQ.cell (fun _ hs => hs.1.1) ?_
  refine LdQ.cell (fun _ hs => hs.2) ?_
  refine LdQ.cell (fun _ hs => hs.1.2.1) ?_
  refine (stoMemory (insIn H)).mono ?_; intro v w q
  have hv2 := q.1; have H := insOut q.2; clear q
  subst hv2
  refine ⟨⟨opS H, H.hcell c1 (j := 0) rfl⟩, ?_⟩
  refine (stoUnlock (insIn H) (hv.le l1) (by omega) t (n := 3) (by omega)).mono ?_; intro v w q
  refine q.go fun h2 V hle hv H => ?_
  have H := insOut H
  refine ⟨⟨opS H, H.hcell (c1.le hle) (j := 0) rfl⟩, ?_⟩
  exact ⟨h2, V, P, nv, bl, Hp.le_trans l1 hle, hv, ⟨hp.own, (hp.put.le l1).le hle, hp.pend, hp.res⟩, ⟨b1, rfl, c1.le hle⟩, H⟩
end
end Go.Proofs.YtbdoinigeaaclaaGreat
set_option maxRecDepth 20000
namespace Go.Proofs.YtbdoinigeaaclaaGreat
open Go RL PQ
variable {g : World} {h h' : Hp} {w : World} {L : List (Nat × Obj)}
section
variable {D : SD} {V : SV} {s : Sto} {N : Nat} {t : Int} {bo : Nat} {P : InsP} {o : InsOp} {nv : Value} {bl : Bool}
theorem insPut (H : St g h w (insL D t bo P o nv bl (stoL D V s L))) (hv : V.ok h s N) {K : Int} (hk : SOk s K) {b1 b2 : Nat} {hd : Int} (c1 : HC h b1 0 [.pointer (some ⟨bo, 0, none⟩)]) (c2 : HC h b2 0 [.int .i64 hd])
    {n : Nat} (hs : slotOf hd = (n : Int)) (hn : n < s.slots.length) (ht : TimeOk s.slots[n].1) :
    Ret Tryz.prog 111 [.pointer (some ⟨b1, 0, none⟩), .pointer (some ⟨b2, 0, none⟩)] w fun _ w' => ∃ h' V, h.le h' ∧ V.ok h' (putS s n) N ∧ St g h' w' (insL D t bo P o nv bl (stoL D V (putS s n) L)) := by
  refine Ret.enter tabOk Tryz.func111 rfl (by rfl) rfl (by rfl) (by kernel_rfl) ?_
  refine DrawO.wi H (fun w => OpS D t o.time bo w ∧ w.cell? ⟨b1, 0, none⟩ = some (.pointer (some ⟨bo, 0, none⟩)) ∧ w.cell? ⟨b2, 0, none⟩ = some (.int .i64 hd)) (fun w H => ⟨opS H, H.hcell c1 (j := 0) rfl, H.hcell c2 (j := 0) rfl⟩)
    (pl [0, 1, 2, 3, 4, 5, 6, 7, 8, 1009, 1010] .nil) (by kernel_rfl) fun w H => ?_
  refine LdQ.cell (fun _ hs => hs.2.1) ?_
  refine LdQ.cell (fun _ hs => hs.1.1) ?_
  refine LdQ.cell (fun _ hs => hs.2.1) ?_
  refine LdQ.cell (fun _ hs => hs.1.2.1) ?_
  refine LdQ.cell (fun _ hs => hs.2.2) ?_
  refine (hSlot H hd).mono ?_; intro v w q
  have hv2 := q.1; have H := q.2; clear q
  rw [hs] at hv2
  subst hv2
  refine ⟨⟨opS H, H.hcell c1 (j := 0) rfl, H.hcell c2 (j := 0) rfl⟩, ?_⟩
  refine (stoPut (StoW.mk (Hp.le_refl h) hv (insIn H)) hk t hn ht).mono ?_; intro v w q
  refine q.go fun h2 V hle hv H => ?_
  have H := insOut H
  exact ⟨⟨opS H, H.hcell (c1.le hle) (j := 0) rfl, H.hcell (c2.le hle) (j := 0) rfl⟩, h2, V, hle, hv, H⟩
theorem insRelease (H : St g h w (insL D t bo P o nv bl (stoL D V s L))) (hv : V.ok h s N) (hp : P.ok h bo o) (hN : N ≤ 499990) (hm : s.mus.length = 4) {hd : List Int} {m : Nat} (hh : o.held = hd ++ [(m : Int)]) (hm4 : m < 4) (hl : hd.length ≤ 10) :
    Ret Tryz.prog 127 [.pointer (some ⟨bo, 0, none⟩)] w (InsQ g h D t bo (releaseI s t o).1 (releaseI s t o).2 (N + 1) L) := by
  refine Ret.enter tabOk Tryz.func127 rfl (by rfl) rfl (by rfl) (by kernel_rfl) ?_
  refine (insUnlock H hv hp hN hm hh hm4 hl).mono ?_; intro v w q
  refine q.elim fun h2 q => q.elim fun V q => q.elim fun P q => ?_
  have hle := q.1; have hv := q.2.1; have hp := q.2.2.1; have H := q.2.2.2; clear q
  have he : releaseI s t o = (unlockS s t m, { o with held := hd, st := if hd.isEmpty then none else some .release }) := by
    unfold releaseI unlockLast; simp [hh]
  rw [he]
  refine LdO.own H .head rfl ?_
  refine CondT.dec (fun hz => ?_) (fun hnz => ?_)
  · have hnil : hd = [] := List.length_eq_zero_iff.1 (by have : (hd.length : Int) = 0 := hz; omega)
    subst hnil
    exact ⟨h2, V, P, nv, bl, hle, hv, ⟨hp.own, hp.put, hp.pend, hp.res⟩, rfl, H⟩
  · have hne : hd.isEmpty = false := by
      cases hd with
      | nil => exact absurd rfl hnz
      | cons a r => rfl
    refine ⟨h2, V, P, nv, bl, hle, hv, ⟨hp.own, hp.put, hp.pend, hp.res⟩, ?_, H⟩
    rw [hne]; rfl
theorem insLeave1 (H : St g h w (insL D t bo P o nv bl (stoL D V s L))) (hv : V.ok h s N) (hp : P.ok h bo o) (hN : N ≤ 499990) {K : Int} (hk : SOk s K) {b1 : Nat} (c1 : HC h b1 0 [.pointer (some ⟨bo, 0, none⟩)])
    {hd : List Int} {m : Nat} (hh : o.held = hd ++ [(m : Int)]) (hm4 : m < 4) (hl : hd.length ≤ 10)
    (hs : ∀ x, o.h = some x → ∃ n : Nat, slotOf x = (n : Int) ∧ ∃ hn : n < s.slots.length, TimeOk s.slots[n].1) :
    Ret Tryz.prog 126 [.pointer (some ⟨b1, 0, none⟩)] w (InsQ g h D t bo (nextI s t o .put).1 (nextI s t o .put).2 (N + 1) L) := by
  obtain ⟨ha, hc, x, pv⟩ := P
  have hput := hp.put
  simp only at hput
  have hm := hk.ml
  cases ho : o.h with
  | none =>
    have he : nextI s t o .put = releaseI s t o := by unfold nextI; rw [ho]
    rw [ho] at hput
    have hput2 : pv = .func (.func 69) #[] #[] := hput
    subst hput2
    rw [he]
    refine Ret.enter tabOk Tryz.func126 rfl (by rfl) rfl (by rfl) (by kernel_rfl) ?_
    refine LdO.hc H c1 (j := 0) rfl ?_
    refine LdO.own H .head rfl ?_
    have hnew : Ret Tryz.prog 69 [] w fun _ w' => w' = w := by
      refine Ret.enter tabOk Tryz.func69 rfl (by rfl) rfl (by rfl) (by kernel_rfl) ?_
      rfl
    refine hnew.mono ?_; intro v w' q
    subst q
    refine LdO.hc H c1 (j := 0) rfl ?_
    refine (insRelease H hv hp hN hm hh hm4 hl).mono ?_; intro v w q
    exact q
  | some x0 =>
    have he : nextI s t o .put = releaseI (putS s (slotOf x0)) t o := by unfold nextI; rw [ho]
    obtain ⟨n, hsl, hn, ht⟩ := hs x0 ho
    rw [he, hsl]
    rw [ho] at hput
    obtain ⟨d1, d2, hpv, k1, k2⟩ := hput
    subst hpv
    refine Ret.enter tabOk Tryz.func126 rfl (by rfl) rfl (by rfl) (by kernel_rfl) ?_
    refine LdO.hc H c1 (j := 0) rfl ?_
    refine LdO.own H .head rfl ?_
    refine (insPut H hv hk k1 k2 hsl hn ht).mono ?_; intro v w q
    refine q.elim fun h2 q => q.elim fun V q => ?_
    have hle := q.1; have hv := q.2.1; have H := q.2.2; clear q
    refine LdO.hc H (c1.le hle) (j := 0) rfl ?_
    refine (insRelease H hv (hp.le hle) hN hm hh hm4 hl).mono ?_; intro v w q
    refine q.elim fun h3 q => q.elim fun V q => q.elim fun P q => q.elim fun nv q => q.elim fun bl q => ?_
    exact ⟨h3, V, P, nv, bl, Hp.le_trans hle q.1, q.2⟩
end
end Go.Proofs.YtbdoinigeaaclaaGreat
