/- A batch running: its block; dropping an item, claiming one. Conditions: the store is in order. -/
import Derived.Test.YtbdoinigeaaclaaGreatB10
set_option linter.all false
set_option maxRecDepth 20000
namespace Go.Proofs.YtbdoinigeaaclaaGreat
open Go RL PQ
variable {g : World} {h h' : Hp} {w : World} {L : List (Nat × Obj)}
/-- Where a batch's slices lie. -/
structure BatP where
  ra : Option Addr
  rc : Nat
  x : List (Nat × Obj)
  ea : Option Addr
  ec : Nat
  y : List (Nat × Obj)
  qa : Option Addr
  qc : Nat
structure BatP.ok (h : Hp) (P : BatP) (o : BatOp) : Prop where
  rem : OwnSl 3 1 (.slice P.ra o.removed.length P.rc) (o.removed.map intR) P.x ∨ (o.scanned = true ∧ Sl h 1 (.slice P.ra o.removed.length P.rc) (o.removed.map intR) ∧ P.x = [])
  evs : OwnSl 48 2 (.slice P.ea o.events.length P.ec) (o.events.map evR) P.y
  rv : (o.res.evs = [] ∧ P.qa = none ∧ P.qc = 0) ∨ (o.scanned = true ∧ o.held = 0 ∧ o.res.evs = o.events ∧ P.qa = P.ea ∧ P.qc = P.ec)
  rc : o.res.canc = false
theorem BatP.ok.le {P : BatP} {o : BatOp} (q : P.ok h o) (hl : h.le h') : P.ok h' o :=
  ⟨q.rem.elim .inl fun r => .inr ⟨r.1, r.2.1.le hl, r.2.2⟩, q.evs, q.rv, q.rc⟩
def batRow (D : SD) (t : Int) (P : BatP) (o : BatOp) (bl : Bool) : List Value :=
  [.pointer (some ⟨D.bs, 0, none⟩), .int .i64 t, .int .i64 o.call.kind, .int .i64 o.call.time, .int .i64 o.call.handle, .int .i64 o.call.max, .int .i64 o.call.bound, .int .i64 o.held, .bool o.scanned,
   .int .i64 o.item.time, .int .i64 o.item.seq, .int .i64 o.item.slot, .int .i64 o.word, .bool o.claim, .slice P.ra o.removed.length P.rc, .slice P.ea o.events.length P.ec,
   .int .i64 o.res.err, .int .i64 o.res.rh, .bool false, .slice P.qa o.res.evs.length P.qc, .bool o.eff, .bool bl]
def batL (D : SD) (t : Int) (bo : Nat) (P : BatP) (o : BatOp) (bl : Bool) (R : List (Nat × Obj)) : List (Nat × Obj) := (bo, .cells (batRow D t P o bl).toArray 159 (0, 0)) :: (P.x ++ (P.y ++ R))
/-- A batch in memory, with the store. -/
def BatW (g : World) (h : Hp) (D : SD) (t : Int) (bo : Nat) (s : Sto) (o : BatOp) (N : Nat) (L : List (Nat × Obj)) (w : World) : Prop :=
  ∃ (h' : Hp) (V : SV) (P : BatP) (bl : Bool), h.le h' ∧ V.ok h' s N ∧ P.ok h' o ∧ St g h' w (batL D t bo P o bl (stoL D V s L))
section
variable {D : SD} {V : SV} {s : Sto} {N : Nat} {t : Int} {bo : Nat} {P : BatP} {o : BatOp} {bl : Bool}
theorem app3 (p : Nat × Obj) (x y R : List (Nat × Obj)) : p :: (x ++ (y ++ R)) = (p :: (x ++ y)) ++ R := by simp
theorem batIn (H : St g h w (batL D t bo P o bl (stoL D V s L))) : St g h w (stoL D V s (batL D t bo P o bl L)) := by
  unfold batL at H ⊢
  rw [app3] at H ⊢
  exact stoIn H
theorem batOut (H : St g h w (stoL D V s (batL D t bo P o bl L))) : St g h w (batL D t bo P o bl (stoL D V s L)) := by
  unfold batL at H ⊢
  rw [app3] at H ⊢
  exact stoOut H
/-- What a batch's region reads of its block. -/
def BatS (D : SD) (t : Int) (bo : Nat) (P : BatP) (o : BatOp) (w : World) : Prop :=
  w.cell? ⟨bo, 0, none⟩ = some (.pointer (some ⟨D.bs, 0, none⟩)) ∧ w.cell? ⟨bo, 1, none⟩ = some (.int .i64 t) ∧ w.cell? ⟨bo, 7, none⟩ = some (.int .i64 o.held) ∧ w.cell? ⟨bo, 9, none⟩ = some (.int .i64 o.item.time) ∧
  w.cell? ⟨bo, 11, none⟩ = some (.int .i64 o.item.slot) ∧ w.cell? ⟨bo, 12, none⟩ = some (.int .i64 o.word) ∧ w.cell? ⟨bo, 14, none⟩ = some (.slice P.ra o.removed.length P.rc) ∧ w.cell? ⟨bo, 15, none⟩ = some (.slice P.ea o.events.length P.ec)
theorem batS (H : St g h w (batL D t bo P o bl L)) : BatS D t bo P o w :=
  ⟨H.ocell .head rfl, H.ocell .head rfl, H.ocell .head rfl, H.ocell .head rfl, H.ocell .head rfl, H.ocell .head rfl, H.ocell .head rfl, H.ocell .head rfl⟩
set_option maxHeartbeats 1000000 in
theorem batDrop (H : St g h w (batL D t bo P o bl (stoL D V s L))) (hv : V.ok h s N) (hp : P.ok h o) (hN : N ≤ 499990) {K : Int} (hk : SOk s K) (hsc : o.scanned = false) (hl : o.removed.length ≤ 1000) :
    Ret Tryz.prog 194 [.pointer (some ⟨bo, 0, none⟩)] w fun _ w' => BatW g h D t bo (dropB s o).1 (dropB s o).2 (N + 1) L w' := by
  have ho0 := hp.rem.resolve_right (fun r => by rw [hsc] at r; exact Bool.noConfusion r.1)
  refine Ret.enter tabOk Tryz.func194 rfl (by rfl) rfl (by rfl) (by kernel_rfl) ?_
  refine DrawO.wi H (BatS D t bo P o) (fun w H => batS H) (pl [0, 1, 2, 3, 4, 5, 6, 7, 1008] .nil) (by kernel_rfl) fun w H => ?_
  refine LdQ.cell (fun _ hs => hs.1) ?_
  refine LdQ.cell (fun _ hs => hs.2.1) ?_
  refine (stoDrop (StoW.mk (Hp.le_refl h) hv (batIn H)) hk hN t).mono ?_; intro v w q
  refine q.go fun h2 V hle hv H => ?_
  have H := batOut H
  refine ⟨batS H, ?_⟩
  obtain ⟨ra, rc, x, ea, ec, y, qa, qc⟩ := P
  have hevs := hp.evs
  refine DrawO.wx H (BatS D t bo ⟨ra, rc, x, ea, ec, y, qa, qc⟩ o) (fun w H => batS H) (fun j => Nat.beq j 14) (by kernel_rfl) (pl [0, 1, 2, 3, 4, 5, 6, 7, 8, 9, 1010, 1011, 12, 13, 1014] .nil) (by kernel_rfl) fun w H => ?_
  refine LdQ.cell (fun _ hs => hs.2.2.2.2.2.2.1) ?_
  refine LdQ.cell (fun _ hs => hs.2.2.2.2.1) ?_
  refine AllocO.own H fun b29 w H => ⟨batS H.tail, ?_⟩
  have hsrc : Src w 1 (.slice (some ⟨b29, 0, none⟩) 1 1) [intR o.item.slot] := H.srcOwn .head (by simp [intR]) rfl rfl
  have H := St.pull (A := [_, _]) H
  refine RunO.apps (n := o.removed.length) (m := 1) tabOk rfl rfl rfl rfl rfl rfl rfl H ho0 hsrc (by simp [oneCells, intR, Value.oneCell']) (by rw [List.length_map]) rfl (by omega) fun v w x' ho' H => ?_
  have H := (St.pull (x := [_, _]) H).tail
  refine ⟨batS (P := ⟨ra, rc, x', ea, ec, y, qa, qc⟩) H, ?_⟩
  refine (OwnSl.len ho').elim fun a' q => q.elim fun c' q => ?_
  have q := q.1
  rw [List.length_append, List.length_map] at q
  subst q
  refine StO.own H .head rfl rfl rfl fun w H => ⟨rfl, ?_⟩
  have hl2 : (o.removed ++ [o.item.slot]).length = o.removed.length + 1 := by simp
  have hm2 : o.removed.map intR ++ [intR o.item.slot] = (o.removed ++ [o.item.slot]).map intR := by rw [List.map_append]; rfl
  refine ⟨h2, V, ⟨a', c', x', ea, ec, y, qa, qc⟩, bl, hle, hv, ⟨.inl ?_, hevs, hp.rv, hp.rc⟩, ?_⟩
  · show OwnSl 3 1 (.slice a' (o.removed ++ [o.item.slot]).length c') ((o.removed ++ [o.item.slot]).map intR) x'
    rw [hl2, ← hm2]; exact ho'
  · show St g h2 w ((bo, .cells (batRow D t ⟨a', c', x', ea, ec, y, qa, qc⟩ (dropB s o).2 bl).toArray 159 (0, 0)) :: (x' ++ (y ++ stoL D V (dropS s) L)))
    have e : batRow D t ⟨a', c', x', ea, ec, y, qa, qc⟩ (dropB s o).2 bl = (batRow D t ⟨ra, rc, x', ea, ec, y, qa, qc⟩ o bl).set 14 (.slice a' (o.removed.length + 1) c') := by
      unfold batRow dropB
      simp only [hl2]
      rfl
    rw [e]; exact H
/-- What claiming leaves. -/
def takeB (s : Sto) (o : BatOp) : Sto × BatOp :=
  if (casS s (1 + o.item.slot) o.word (wordOf (genOf o.word) 2)).2 = true then
    ((dropB (casS s (1 + o.item.slot) o.word (wordOf (genOf o.word) 2)).1 { o with claim := false }).1,
     { (dropB (casS s (1 + o.item.slot) o.word (wordOf (genOf o.word) 2)).1 { o with claim := false }).2 with events := o.events ++ [⟨o.item.time, hdlOf o.item.slot (genOf o.word)⟩] })
  else (s, { o with claim := false })
set_option maxHeartbeats 1000000 in
theorem batTake (H : St g h w (batL D t bo P o bl (stoL D V s L))) (hv : V.ok h s N) (hp : P.ok h o) (hN : N ≤ 499980) {K : Int} (hk : SOk s K) (hK : K ≤ 1000000) (hsc : o.scanned = false) (hl : o.removed.length ≤ 1000) (hl2 : o.events.length ≤ 1000)
    {n : Nat} (hn : o.item.slot = n) (hns : n < s.slots.length) (hw : 0 ≤ o.word ∧ o.word ≤ 4 * K + 3) :
    Ret Tryz.prog 196 [.pointer (some ⟨bo, 0, none⟩)] w fun _ w' => BatW g h D t bo (takeB s o).1 (takeB s o).2 (N + 3) L w' := by
  have hg := gen_bounds hw
  have hwl := hk.wl
  have hsl := hk.sl
  have hcast : 1 + o.item.slot = ((n + 1 : Nat) : Int) := by omega
  have hcas : SOk (casS s ((n + 1 : Nat) : Int) o.word (wordOf (genOf o.word) 2)).1 K := hk.cas (by unfold wordOf; omega)
  refine Ret.enter tabOk Tryz.func196 rfl (by rfl) rfl (by rfl) (by kernel_rfl) ?_
  refine StO.own H .head rfl rfl rfl fun w H => ?_
  have H : St g h w (batL D t bo P { o with claim := false } bl (stoL D V s L)) := H
  obtain ⟨o2, ho2⟩ : ∃ o2, o2 = ({ o with claim := false } : BatOp) := ⟨_, rfl⟩
  have hp : P.ok h o2 := by rw [ho2]; exact ⟨hp.rem, hp.evs, hp.rv, hp.rc⟩
  have e1 : o2.word = o.word := by rw [ho2]
  have e2 : o2.item = o.item := by rw [ho2]
  have e3 : o2.events = o.events := by rw [ho2]
  have e4 : o2.removed = o.removed := by rw [ho2]
  have e5 : o2.scanned = o.scanned := by rw [ho2]
  have htk : takeB s o = if (casS s ((n + 1 : Nat) : Int) o2.word (wordOf (genOf o2.word) 2)).2 = true then
    ((dropB (casS s ((n + 1 : Nat) : Int) o2.word (wordOf (genOf o2.word) 2)).1 o2).1,
     { (dropB (casS s ((n + 1 : Nat) : Int) o2.word (wordOf (genOf o2.word) 2)).1 o2).2 with events := o2.events ++ [⟨o2.item.time, hdlOf (n : Int) (genOf o2.word)⟩] })
    else (s, o2) := by
    unfold takeB; rw [ho2]; simp only [hcast, ← hn]
  rw [← ho2] at H
  rw [← e1] at hw hg hcas
  rw [← e5] at hsc
  rw [← e4] at hl
  rw [← e3] at hl2
  rw [← e2] at hn hcast
  clear e1 e2 e3 e4 e5 ho2
  refine LdO.own H .head rfl ?_
  refine (hGen H o2.word).mono ?_; intro v w q
  have hv2 := q.1; have H := q.2; clear q
  subst hv2
  refine DrawO.wi H (BatS D t bo P o2) (fun w H => batS H) (pl [0, 1, 2, 3, 5, 6, 7, 8, 9, 10, 11, 12, 13, 14, 15, 16, 17, 18, 19, 1004, 1020, 1021, 22] .nil) (by kernel_rfl) fun w H => ?_
  refine LdQ.cell (fun _ hs => hs.1) ?_
  refine LdQ.cell (fun _ hs => hs.2.1) ?_
  refine LdQ.cell (fun _ hs => hs.2.2.2.2.1) ?_
  refine ArO.i64 ?_ (by omega) (by omega)
  refine LdQ.cell (fun _ hs => hs.2.2.2.2.2.1) ?_
  refine (stoMemory (batIn H)).mono ?_; intro v w q
  have hv2 := q.1; have H := batOut q.2; clear q
  subst hv2
  refine ⟨batS H, ?_⟩
  refine (hWord H hg.1 (by omega) (st := 2) (by omega) (by omega)).mono ?_; intro v w q
  have hv2 := q.1; have H := q.2; clear q
  subst hv2
  refine ⟨batS H, ?_⟩
  rw [hcast]
  refine (stoCas (batIn H) hv (by omega) t (n := n + 1) o2.word (wordOf (genOf o2.word) 2) (by omega)).mono ?_; intro v w q
  have hv2 := q.1; have q2 := q.2; clear q
  subst hv2
  refine q2.go fun h2 V hle hv H => ?_
  have H := batOut H
  refine ⟨batS H, ?_⟩
  refine CondT.bool (fun hc => ?_) (fun hc => ?_)
  · have hc2 : (casS s ((n + 1 : Nat) : Int) o2.word (wordOf (genOf o2.word) 2)).2 = false := by simpa using hc
    rw [if_neg (by rw [hc2]; decide)] at htk
    have hs1 : (casS s ((n + 1 : Nat) : Int) o2.word (wordOf (genOf o2.word) 2)).1 = s := by
      unfold casS at hc2 ⊢
      split
      · rename_i h; rw [if_pos h] at hc2; cases hc2
      · rfl
    rw [hs1] at hv H
    have fin : BatW g h D t bo (takeB s o).1 (takeB s o).2 (N + 3) L w := by
      rw [htk]
      exact ⟨h2, V, P, bl, hle, hv.mono (by omega), hp.le hle, H⟩
    exact fin
  · have hc2 : (casS s ((n + 1 : Nat) : Int) o2.word (wordOf (genOf o2.word) 2)).2 = true := by simpa using hc
    rw [if_pos hc2] at htk
    refine (batDrop H hv (hp.le hle) (by omega) hcas hsc hl).mono ?_; intro v w q
    obtain ⟨s2, hs2⟩ : ∃ s2, s2 = (dropB (casS s ((n + 1 : Nat) : Int) o2.word (wordOf (genOf o2.word) 2)).1 o2).1 := ⟨_, rfl⟩
    obtain ⟨o3, ho3⟩ : ∃ o3, o3 = (dropB (casS s ((n + 1 : Nat) : Int) o2.word (wordOf (genOf o2.word) 2)).1 o2).2 := ⟨_, rfl⟩
    have f1 : o3.word = o2.word := by rw [ho3]; rfl
    have f2 : o3.item = o2.item := by rw [ho3]; rfl
    have f3 : o3.events = o2.events := by rw [ho3]; rfl
    rw [← hs2, ← ho3] at q htk
    rw [← f1] at htk hg
    rw [← f2] at hn htk
    rw [← f3] at hl2 htk
    refine q.elim fun h3 q => q.elim fun V q => q.elim fun P q => q.elim fun bl q => ?_
    have hle3 := q.1; have hv := q.2.1; have hp := q.2.2.1; have H := q.2.2.2; clear q
    obtain ⟨ra, rc, x, ea, ec, y, qa, qc⟩ := P
    have hevs := hp.evs
    have hrv := hp.rv
    refine DrawO.wx H (BatS D t bo ⟨ra, rc, x, ea, ec, y, qa, qc⟩ o3) (fun w H => batS H) (fun j => Nat.beq j 22) (by kernel_rfl) (pl [0, 1, 2, 3, 4, 5, 6, 7, 8, 9, 10, 11, 12, 13, 14, 15, 1016, 17, 1018, 1019, 20, 21, 1022] .nil) (by kernel_rfl) fun w H => ?_
    refine LdQ.cell (fun _ hs => hs.2.2.2.2.2.2.2) ?_
    refine LdQ.cell (fun _ hs => hs.2.2.2.1) ?_
    refine LdQ.cell (fun _ hs => hs.2.2.2.2.1) ?_
    rw [hn]
    refine (hMake H (gen := genOf o2.word) (slot := (n : Int)) (by rw [← f1]; exact hg.1) (by rw [← f1]; omega) (by omega) (by omega)).mono ?_; intro v w q
    have hv2 := q.1; have H := q.2; clear q
    subst hv2
    refine ⟨batS H, ?_⟩
    refine AllocO.own H fun b29 w H => ⟨batS H.tail, ?_⟩
    have hsrc : Src w 2 (.slice (some ⟨b29, 0, none⟩) 1 1) [evR ⟨o3.item.time, hdlOf (n : Int) (genOf o2.word)⟩] := H.srcOwn .head (by simp [evR]) rfl rfl
    have H := St.pull (A := [_, _] ++ x) (x := y) (by rw [List.append_assoc]; exact H)
    refine RunO.apps (n := o3.events.length) (m := 1) tabOk rfl rfl rfl rfl rfl rfl rfl H hevs hsrc (by simp [oneCells, evR, Value.oneCell']) (by rw [List.length_map]) rfl (by omega) fun v w y' ho' H => ?_
    have H := St.pull (x := [_, _] ++ x) H
    rw [List.append_assoc] at H
    have H := H.tail
    refine ⟨batS (P := ⟨ra, rc, x, ea, ec, y', qa, qc⟩) H, ?_⟩
    refine (OwnSl.len ho').elim fun a' q => q.elim fun c' q => ?_
    have q := q.1
    rw [List.length_append, List.length_map] at q
    subst q
    refine StO.own H .head rfl rfl rfl fun w H => ⟨rfl, ?_⟩
    have hl3 : (o3.events ++ [(⟨o3.item.time, hdlOf (n : Int) (genOf o3.word)⟩ : Ev)]).length = o3.events.length + 1 := by simp
    have hm3 : o3.events.map evR ++ [evR ⟨o3.item.time, hdlOf (n : Int) (genOf o2.word)⟩] = (o3.events ++ [(⟨o3.item.time, hdlOf (n : Int) (genOf o3.word)⟩ : Ev)]).map evR := by rw [List.map_append, f1]; rfl
    have hsc3 : o3.scanned = false := by rw [ho3]; exact hsc
    have hrv1 := hrv.resolve_right (fun r => by rw [hsc3] at r; exact Bool.noConfusion r.1)
    have fin : BatW g h D t bo (takeB s o).1 (takeB s o).2 (N + 3) L w := by
      rw [htk]
      refine ⟨h3, V, ⟨ra, rc, x, a', c', y', qa, qc⟩, bl, Hp.le_trans hle hle3, hv.mono (by omega), ⟨hp.rem, ?_, .inl hrv1, hp.rc⟩, ?_⟩
      · show OwnSl 48 2 (.slice a' (o3.events ++ [(⟨o3.item.time, hdlOf (n : Int) (genOf o3.word)⟩ : Ev)]).length c') ((o3.events ++ [(⟨o3.item.time, hdlOf (n : Int) (genOf o3.word)⟩ : Ev)]).map evR) y'
        rw [hl3, ← hm3]; exact ho'
      · show St g h3 w ((bo, .cells (batRow D t ⟨ra, rc, x, a', c', y', qa, qc⟩ { o3 with events := o3.events ++ [(⟨o3.item.time, hdlOf (n : Int) (genOf o3.word)⟩ : Ev)] } bl).toArray 159 (0, 0)) :: (x ++ (y' ++ stoL D V s2 L)))
        have e : batRow D t ⟨ra, rc, x, a', c', y', qa, qc⟩ { o3 with events := o3.events ++ [(⟨o3.item.time, hdlOf (n : Int) (genOf o3.word)⟩ : Ev)] } bl = (batRow D t ⟨ra, rc, x, ea, ec, y', qa, qc⟩ o3 bl).set 15 (.slice a' (o3.events.length + 1) c') := by
          unfold batRow
          simp only [hl3]
          rfl
        rw [e]; exact H
    exact fin
end
end Go.Proofs.YtbdoinigeaaclaaGreat
