/- The store: writing a slot. Conditions: the slot lies within the arena.
   The store: allocating, freeing. Conditions: the store is in order.
   The store: freeing a slot. Conditions: the store is in order.
   The store: putting an item into the queue, replacing the queue, taking. Conditions: the store is in order. -/
import Derived.Test.YtbdoinigeaaclaaGreatB5
set_option linter.all false
set_option maxRecDepth 20000
namespace Go.Proofs.YtbdoinigeaaclaaGreat
open Go RL PQ
variable {g : World} {h h' : Hp} {w : World} {L : List (Nat × Obj)}
theorem slotOne (l : List (Int × Int)) : ∀ r ∈ l.map slotR, oneCells r = true := fun r hr => by
  obtain ⟨x, _, rfl⟩ := List.mem_map.1 hr; rfl
set_option maxHeartbeats 1000000 in
theorem stoSet {D : SD} {s : Sto} {N : Nat} (q : StoW g h D s N L w) (hl : s.slots.length ≤ 64) {i : Nat} (hi : i < s.slots.length) (x : Int × Int) :
    Ret Tryz.prog 118 [.pointer (some ⟨D.bs, 0, none⟩), .int .i64 i, .agg #[.int .i64 0, .int .i64 0, .int .i64 x.1, .int .i64 x.2]] w fun _ w' => StoW g h D { s with slots := s.slots.set i x } N L w' := by
  refine q.go fun h2 V hle hv H => ?_
  refine Ret.enter tabOk Tryz.func118 rfl (by rfl) rfl (by rfl) (by kernel_rfl) ?_
  refine AllocO.own H fun b5 w H => ?_
  have H : St g h2 w ((b5, .cells (slotR x).toArray 201 (0, 0)) :: stoL D V s L) := H
  refine LdO.own H (.tail .head) rfl ?_
  refine (cloneS H hv.sl (slotOne _) (by rw [List.length_map]; omega)).mono ?_; intro v w q
  refine q.elim fun y q => ?_
  have ho := q.1; have H := q.2; clear q
  have hix : i < (s.slots.map slotR).length := by rw [List.length_map]; exact hi
  refine (OwnSl.put ho hix).elim fun bb q => q.elim fun c q => q.elim fun cap q => ?_
  have hv1 := q.1; have hx := q.2.1; have hsz := q.2.2.1; have hput := q.2.2.2.2.2; clear q
  subst hx
  subst hv1
  refine StO.own H (.tail (.tail .head)) rfl rfl rfl fun w H => ?_
  have hlen : (s.slots.map slotR).length = s.slots.length := List.length_map ..
  rw [hlen] at hput
  have H : St g h2 w ((bb, .cells c 201 (0, 0)) :: (b5, .cells (slotR x).toArray 201 (0, 0)) :: (D.bs, .cells #[.pointer (some ⟨D.B.bm, 0, none⟩), .slice (some ⟨bb, 0, none⟩) (s.slots.map slotR).length cap, .slice V.ia s.idle.length V.ic, .int .i64 s.next,
    .int .i64 V.p.l.ts, .slice V.p.ta V.p.l.top.length V.p.tc, .slice V.p.ra V.p.l.rungs.length V.p.rc, .slice V.p.ba V.p.l.bot.length V.p.bc, .int .i64 V.p.mv, .int .i64 V.p.cp] 121 (0, 0)) :: memL D.B V.G s.words s.mus L) := H
  refine DrawO.wx H (fun w => St g h2 w ((bb, .cells c 201 (0, 0)) :: (b5, .cells (slotR x).toArray 201 (0, 0)) :: (D.bs, .cells #[.pointer (some ⟨D.B.bm, 0, none⟩), .slice (some ⟨bb, 0, none⟩) (s.slots.map slotR).length cap, .slice V.ia s.idle.length V.ic, .int .i64 s.next,
    .int .i64 V.p.l.ts, .slice V.p.ta V.p.l.top.length V.p.tc, .slice V.p.ra V.p.l.rungs.length V.p.rc, .slice V.p.ba V.p.l.bot.length V.p.bc, .int .i64 V.p.mv, .int .i64 V.p.cp] 121 (0, 0)) :: memL D.B V.G s.words s.mus L)) (fun w H => H) (fun j => Nat.beq j 8) (by kernel_rfl)
    (pl [0, 1, 2, 3, 4, 5, 6, 7, 1008] .nil) (by kernel_rfl) fun w H => ?_
  refine LdQ.own (.tail (.tail .head)) rfl ?_
  refine LdQ.owns (.tail .head) rfl ?_
  refine IdxO.at0 rfl hix ?_
  refine StO.ownE H .head (by rfl) (by rfl) hsz (c' := putA c (i * 4) (slotR x)) (by rfl) fun w H => ⟨rfl, ?_⟩
  have ho3 := hput (slotR x) rfl rfl
  have H := St.pull (A := [_, _]) (x := []) H
  refine (OwnSl.sealIt ho3 (L := (b5, .cells (slotR x).toArray 201 (0, 0)) :: (D.bs, .cells #[.pointer (some ⟨D.B.bm, 0, none⟩), .slice (some ⟨bb, 0, none⟩) (s.slots.map slotR).length cap, .slice V.ia s.idle.length V.ic, .int .i64 s.next,
    .int .i64 V.p.l.ts, .slice V.p.ta V.p.l.top.length V.p.tc, .slice V.p.ra V.p.l.rungs.length V.p.rc, .slice V.p.ba V.p.l.bot.length V.p.bc, .int .i64 V.p.mv, .int .i64 V.p.cp] 121 (0, 0)) :: memL D.B V.G s.words s.mus L) H).elim fun h4 q => ?_
  have hle4 := q.1; have H := q.2.1.tail; have hs4 := q.2.2; clear q
  have hset : (s.slots.map slotR).set i (slotR x) = (s.slots.set i x).map slotR := by rw [List.map_set]
  rw [hset] at hs4
  have hl2 : (s.slots.map slotR).length = (s.slots.set i x).length := by rw [List.length_map, List.length_set]
  rw [hl2] at H
  have hs5 : Sl h4 4 (.slice (some ⟨bb, 0, none⟩) (s.slots.set i x).length cap) ((s.slots.set i x).map slotR) := by rw [← hl2, hlen]; exact hs4
  exact StoW.mk (V := { V with sa := some ⟨bb, 0, none⟩, sc := cap }) (Hp.le_trans hle hle4) ⟨hv.log, hs5, hv.id.le hle4, hv.p.le hle4, hv.q⟩ H
end Go.Proofs.YtbdoinigeaaclaaGreat
set_option maxRecDepth 20000
namespace Go.Proofs.YtbdoinigeaaclaaGreat
open Go RL PQ
variable {g : World} {h h' : Hp} {w : World} {L : List (Nat × Obj)}
theorem intOne (l : List Int) : ∀ r ∈ l.map intR, oneCells r = true := fun r hr => by
  obtain ⟨x, _, rfl⟩ := List.mem_map.1 hr; rfl
theorem wordS_at {s : Sto} (i : Int) : wordS s i = wordAt s.words i := rfl
theorem setW_words (s : Sto) (i v : Int) : (setW s i v).words = setAtW s.words i v := by
  unfold setW setAtW; split <;> rfl
theorem stoStore {D : SD} {V : SV} {s : Sto} {N : Nat} (H : St g h w (stoL D V s L)) (hv : V.ok h s N) (hN : N ≤ 500000) (t i z : Int) :
    Ret Tryz.prog 120 [.pointer (some ⟨D.B.bm, 0, none⟩), .int .i64 t, .int .i64 i, .int .i64 z] w fun _ w' => StoW g h D (setW s i z) (N + 1) L w' := by
  refine (memStore D.B (toMem H) hv.log hN t i z).mono ?_; intro v w q
  refine q.elim fun G' q => ?_
  by_cases hi : i < 0
  · have e : setW s i z = s := if_pos hi
    have e2 : setAtW s.words i z = s.words := if_pos hi
    have H := q.2
    rw [e2] at H
    have H := ofMem H (s' := s) rfl rfl rfl
    rw [e]
    exact StoW.mk (Hp.le_refl _) (hv.log' q.1) H
  · have e : setW s i z = { s with words := s.words.set i.toNat z } := if_neg hi
    have e2 : setAtW s.words i z = s.words.set i.toNat z := if_neg hi
    have H := q.2
    rw [e2] at H
    have H := ofMem H (s' := { s with words := s.words.set i.toNat z }) rfl rfl rfl
    rw [e]
    exact StoW.mk (Hp.le_refl _) (V := { V with G := G' }) ⟨q.1, hv.sl, hv.id, hv.p, hv.q⟩ H
set_option maxHeartbeats 1000000 in
theorem stoAlloc {D : SD} {s : Sto} {N : Nat} (q : StoW g h D s N L w) {K : Int} (hk : SOk s K) (hK : K ≤ 1000000) (hN : N ≤ 499990) (th time : Int) :
    Ret Tryz.prog 110 [.pointer (some ⟨D.bs, 0, none⟩), .int .i64 th, .int .i64 time] w fun v w' => v = .tuple #[.int .i64 ((allocS s time).2.getD 0), .bool (allocS s time).2.isSome] ∧ StoW g h D (allocS s time).1 (N + 1) L w' := by
  have hml := hk.ml
  refine q.go fun h1 V hle1 hv H => ?_
  refine Ret.enter tabOk Tryz.func110 rfl (by rfl) rfl (by rfl) (by kernel_rfl) ?_
  refine AllocO.own H fun b w H => ?_
  have hle2 := H.seal_le
  have H := H.sealIt
  refine (guardF (StoW.mk (Hp.le_refl _) (hv.le hle2) H) th (ms := [3]) (Sl.new (xs := [.int .i64 3]) rfl) (by simp [hml]) (by simp)).mono ?_; intro v w q
  replace q := q.less (Hp.le_trans hle1 hle2)
  refine q.go fun h1 V hle1 hv H => ?_
  refine LdO.own H .head rfl ?_
  refine CondT.dec (fun hz => ?_) (fun hnz => ?_)
  · have hnil : s.idle = [] := List.length_eq_zero_iff.1 (by omega)
    have he : allocS s time = (s, none) := by unfold allocS; rw [hnil]; rfl
    refine ⟨?_, ?_⟩
    · refine Eq.trans (b := .tuple #[.int .i64 0, .bool false]) rfl ?_
      rw [he]; rfl
    · rw [he]; exact StoW.mk hle1 (hv.mono (by omega)) H
  have hpos : 0 < s.idle.length := by omega
  have hil := hk.il
  refine LdO.own H .head rfl ?_
  refine ArO.i64 ?_ (by omega) (by omega)
  have hlt : s.idle.length - 1 < s.idle.length := by omega
  refine (Sl.idxM hv.id hlt).elim fun bi q => q.elim fun oi q => ?_
  have hidx := q.1; have hrow := q.2; clear q
  obtain ⟨i, hi⟩ : ∃ i, s.idle[s.idle.length - 1] = i := ⟨_, rfl⟩
  rw [hi] at hrow
  refine hidx _ _ _ (by rw [← Int.natCast_one, ← Int.ofNat_sub (by omega)]) ?_
  refine LdO.hc H hrow (j := 0) rfl ?_
  refine LdO.own H .head rfl ?_
  refine ArO.i64 ?_ (by omega) (by omega)
  have htk : s.idle.length - 1 ≤ (s.idle.map intR).length := by rw [List.length_map]; omega
  have hcast : (s.idle.length : Int) - 1 = ((s.idle.length - 1 : Nat) : Int) := by omega
  rw [hcast]
  refine Sl.takeO hv.id htk fun v2 hs2 => ?_
  refine (cloneI H hs2 (fun r hr => intOne _ r (List.mem_of_mem_take hr)) (by rw [List.length_take, List.length_map]; omega)).mono ?_; intro v3 w q
  refine q.elim fun y q => ?_
  have ho := q.1; have H := q.2; clear q
  refine (OwnSl.sealIt ho H).elim fun h3 q => ?_
  have hle3 := q.1; have H := q.2.1; have hs3 := q.2.2; clear q
  have hdl : (s.idle.map intR).take (s.idle.length - 1) = s.idle.dropLast.map intR := by rw [List.dropLast_eq_take, List.map_take]
  rw [hdl] at hs3
  refine (Sl.lenM hs3).elim fun a3 q => q.elim fun c3 q => ?_
  subst q
  refine StO.own H .head rfl rfl rfl fun w H => ?_
  have hv3 : SV.ok h3 { V with ia := a3, ic := c3 } { s with idle := s.idle.dropLast } N := ⟨hv.log, hv.sl.le hle3, hs3, hv.p.le hle3, hv.q⟩
  have H : St g h3 w (stoL D { V with ia := a3, ic := c3 } { s with idle := s.idle.dropLast } L) := H
  refine LdO.own H .head rfl ?_
  have hmem : i ∈ s.idle := by rw [← hi]; exact List.getElem_mem _
  have hib := hk.idle i hmem
  obtain ⟨n, rfl⟩ := Int.eq_ofNat_of_zero_le hib.1
  have hsl := hk.sl
  have hn : n < s.slots.length := by omega
  refine (stoSet (StoW.mk (Hp.le_trans hle1 hle3) hv3 H) hsl hn (time, s.next)).mono ?_; intro v4 w q
  refine q.go fun h1 V hle1 hv H => ?_
  refine LdO.own H .head rfl ?_
  have hnx := hk.nx
  refine ArO.i64 ?_ (by show (_ : Int) ≤ s.next + 1; omega) (by show s.next + 1 ≤ _; omega)
  refine StO.own H .head rfl rfl rfl fun w H => ?_
  have H : St g h1 w (stoL D V { s with idle := s.idle.dropLast, slots := s.slots.set n (time, s.next), next := s.next + 1 } L) := H
  have hv2 : SV.ok h1 V { s with idle := s.idle.dropLast, slots := s.slots.set n (time, s.next), next := s.next + 1 } N := ⟨hv.log, hv.sl, hv.id, hv.p, hv.q⟩
  refine (stoGen H hib.1 (by omega)).mono ?_; intro v5 w q
  have hv5 := q.1; have H := q.2; clear q
  subst hv5
  have hwd := gen_bounds (hk.wd (n : Int) (by omega))
  have hgl : s.idle.getLast? = some (n : Int) := by rw [List.getLast?_eq_getElem?, List.getElem?_eq_getElem hlt, hi]
  have he : allocS s time = (setW { s with idle := s.idle.dropLast, slots := s.slots.set n (time, s.next), next := s.next + 1 } (1 + n) (wordOf (genOf (wordS s (1 + n))) 1), some (hdlOf n (genOf (wordS s (1 + n))))) := by
    unfold allocS; rw [hgl]; rfl
  refine DrawO.wi H (fun w => w.cell? ⟨D.bs, 0, none⟩ = some (.pointer (some ⟨D.B.bm, 0, none⟩))) (fun w H => H.ocell .head rfl) (pl [0, 1, 2, 3, 4, 5, 6, 7, 1008, 1009] .nil) (by kernel_rfl) fun w H => ?_
  refine LdQ.cell (fun _ hs => hs) ?_
  refine ArO.i64 ?_ (by omega) (by omega)
  refine (hWord H (gen := genOf (wordS s (1 + n))) (st := 1) hwd.1 (by omega) (by omega) (by omega)).mono ?_; intro v6 w q
  have hv6 := q.1; have H := q.2; clear q
  subst hv6
  refine ⟨H.ocell .head rfl, ?_⟩
  refine (stoStore H hv2 (by omega) th (1 + n) (wordOf (genOf (wordS s (1 + n))) 1)).mono ?_; intro v7 w q
  refine q.go fun h4 V hle4 hv H => ⟨H.ocell .head rfl, ?_⟩
  refine (hMake H (slot := n) (gen := genOf (wordS s (1 + n))) hwd.1 (by omega) (by omega) (by omega)).mono ?_; intro v8 w q
  have hv8 := q.1; have H := q.2; clear q
  subst hv8
  refine ⟨?_, ?_⟩
  · refine Eq.trans (b := .tuple #[.int .i64 (hdlOf n (genOf (wordS s (1 + n)))), .bool true]) rfl ?_
    rw [he]; rfl
  · rw [he]; exact StoW.mk (Hp.le_trans hle1 hle4) hv H
end Go.Proofs.YtbdoinigeaaclaaGreat
set_option maxRecDepth 20000
namespace Go.Proofs.YtbdoinigeaaclaaGreat
open Go RL PQ
variable {g : World} {h h' : Hp} {w : World} {L : List (Nat × Obj)}
set_option maxHeartbeats 1000000 in
theorem stoFree {D : SD} {s : Sto} {N : Nat} (q : StoW g h D s N L w) {K : Int} (hk : SOk s K) (hK : K ≤ 1000000) (hN : N ≤ 499990) (th : Int) {n : Nat} (hn : n < s.slots.length) :
    Ret Tryz.prog 198 [.pointer (some ⟨D.bs, 0, none⟩), .int .i64 th, .int .i64 n] w fun _ w' => StoW g h D (freeS s n) (N + 1) L w' := by
  have hml := hk.ml
  have hsl := hk.sl
  have hil := hk.il
  refine q.go fun h1 V hle1 hv H => ?_
  refine Ret.enter tabOk Tryz.func198 rfl (by rfl) rfl (by rfl) (by kernel_rfl) ?_
  refine AllocO.own H fun b w H => ?_
  have hle2 := H.seal_le
  have H := H.sealIt
  refine (guardF (StoW.mk (Hp.le_refl _) (hv.le hle2) H) th (ms := [3]) (Sl.new (xs := [.int .i64 3]) rfl) (by simp [hml]) (by simp)).mono ?_; intro v w q
  replace q := q.less (Hp.le_trans hle1 hle2)
  refine q.go fun h1 V hle1 hv H => ?_
  have hwd := gen_bounds (hk.wd (n : Int) (by omega))
  refine DrawO.wi H (fun w => w.cell? ⟨D.bs, 0, none⟩ = some (.pointer (some ⟨D.B.bm, 0, none⟩))) (fun w H => H.ocell .head rfl) (pl [0, 1, 2, 3, 4, 5, 6, 7, 8, 1009, 10, 1011, 1012] .nil) (by kernel_rfl) fun w H => ?_
  refine LdQ.cell (fun _ hs => hs) ?_
  refine ArO.i64 ?_ (by omega) (by omega)
  refine (stoGen H (slot := n) (by omega) (by omega)).mono ?_; intro v5 w q
  have hv5 := q.1; have H := q.2; clear q
  subst hv5
  refine ⟨H.ocell .head rfl, ?_⟩
  refine ArO.i64 ?_ (by omega) (by omega)
  refine (hWord H (gen := genOf (wordS s (1 + n)) + 1) (st := 0) (by omega) (by omega) (by omega) (by omega)).mono ?_; intro v6 w q
  have hv6 := q.1; have H := q.2; clear q
  subst hv6
  refine ⟨H.ocell .head rfl, ?_⟩
  refine (stoStore H hv (by omega) th (1 + n) (wordOf (genOf (wordS s (1 + n)) + 1) 0)).mono ?_; intro v7 w q
  have hsl2 : (setW s (1 + n) (wordOf (genOf (wordS s (1 + n)) + 1) 0)).slots = s.slots := by unfold setW; split <;> rfl
  have hid2 : (setW s (1 + n) (wordOf (genOf (wordS s (1 + n)) + 1) 0)).idle = s.idle := by unfold setW; split <;> rfl
  have hfr : freeS s n = { setW s (1 + n) (wordOf (genOf (wordS s (1 + n)) + 1) 0) with slots := s.slots.set n (0, 0), idle := s.idle ++ [(n : Int)] } := rfl
  obtain ⟨s2, hs2e⟩ : ∃ s2, s2 = setW s (1 + n) (wordOf (genOf (wordS s (1 + n)) + 1) 0) := ⟨_, rfl⟩
  rw [← hs2e] at hsl2 hid2 hfr q
  refine q.go fun h4 V hle4 hv H => ⟨H.ocell .head rfl, ?_⟩
  refine (stoSet (StoW.mk (Hp.le_trans hle1 hle4) hv H) (by rw [hsl2]; exact hsl) (i := n) (by rw [hsl2]; exact hn) (0, 0)).mono ?_; intro v4 w q
  refine q.go fun h1 V hle1 hv H => ?_
  refine LdO.own H .head rfl ?_
  refine (clipI H hv.id).mono ?_; intro v w q
  have H := q.2; refine q.1.elim fun ca q => ?_
  have hcl := q.2; have q1 := q.1; subst q1
  refine AllocO.own H fun b7 w H => ?_
  have hsrc : Src w 1 (.slice (some ⟨b7, 0, none⟩) 1 1) [intR n] := H.srcOwn .head (by simp [intR]) rfl rfl
  have hil2 : (s2.idle.map intR).length = s.idle.length := by rw [List.length_map, hid2]
  refine RunO.appFull tabOk rfl rfl rfl rfl rfl rfl H rfl hcl (intOne _) hsrc (by simp) (by simp [oneCells, intR, Value.oneCell']) (by show (2 * ((List.map intR s2.idle).length + 1) + 1024) * 8 ≤ _; rw [hil2]; omega) fun v w x2 ho2 H => ?_
  refine (OwnSl.sealIt ho2 H).elim fun h3 q => ?_
  have hle3 := q.1; have H := q.2.1.tail; have hs3 := q.2.2; clear q
  have happ : s2.idle.map intR ++ [intR n] = (s.idle ++ [(n : Int)]).map intR := by rw [List.map_append, hid2]; rfl
  rw [happ] at hs3
  refine (Sl.lenM hs3).elim fun a4 q => q.elim fun c4 q => ?_
  subst q
  refine StO.own H .head rfl rfl rfl fun w H => ?_
  have H : St g h3 w (stoL D { V with ia := a4, ic := c4 } { s2 with slots := s2.slots.set n (0, 0), idle := s.idle ++ [(n : Int)] } L) := H
  rw [hfr, ← hsl2]
  exact StoW.mk (V := { V with ia := a4, ic := c4 }) (Hp.le_trans hle1 hle3) ⟨hv.log, hv.sl.le hle3, hs3, hv.p.le hle3, hv.q⟩ H
end Go.Proofs.YtbdoinigeaaclaaGreat
set_option maxRecDepth 20000
namespace Go.Proofs.YtbdoinigeaaclaaGreat
open Go RL PQ
variable {g : World} {h h' : Hp} {w : World} {L : List (Nat × Obj)}
set_option maxHeartbeats 1000000 in
theorem stoPut {D : SD} {s : Sto} {N : Nat} (q : StoW g h D s N L w) {K : Int} (hk : SOk s K) (th : Int) {n : Nat} (hn : n < s.slots.length) (ht : TimeOk s.slots[n].1) :
    Ret Tryz.prog 112 [.pointer (some ⟨D.bs, 0, none⟩), .int .i64 th, .int .i64 n] w fun _ w' => StoW g h D (putS s n) N L w' := by
  have hml := hk.ml
  have hqn := hk.qn
  refine q.go fun h1 V hle1 hv H => ?_
  refine Ret.enter tabOk Tryz.func112 rfl (by rfl) rfl (by rfl) (by kernel_rfl) ?_
  refine LdO.own H .head rfl ?_
  refine (Sl.idxM hv.sl hn).elim fun bi q => q.elim fun oi q => ?_
  have hidx := q.1; have hrow := q.2; clear q
  refine hidx _ _ _ rfl ?_
  refine LdO.hrow H hrow rfl ?_
  refine AllocO.own H fun b6 w H => ?_
  refine StO.own H .head (by rfl) (by rfl) (by rfl) fun w H => ?_
  have H : St g h1 w ((b6, .cells (slotR s.slots[n]).toArray 201 (0, 0)) :: stoL D V s L) := H
  have hc6 := HC.new h1 b6 (slotR s.slots[n]).toArray 201 (0, 0)
  have hle6 := H.seal_le
  have H := H.sealIt
  have hv := hv.le hle6
  have hle1 := Hp.le_trans hle1 hle6
  refine DrawO.st H (pl [0, 1, 2, 3, 4, 5, 6, 7, 8] .nil) (by kernel_rfl) fun w H => ?_
  refine LdQ.hc hc6 (j := 2) rfl ?_
  refine LdQ.own .head rfl ?_
  refine CondT.dec (fun h1 => ?_) (fun h1 => ?_)
  · skip
    refine AllocO.own H fun bg w H => ?_
    have hleg := H.seal_le
    have H := H.sealIt
    refine (guardF (StoW.mk (Hp.le_refl _) (hv.le hleg) H) th (ms := [0]) (Sl.new (xs := [.int .i64 0]) rfl) (by simp [hml]) (by simp)).mono ?_; intro v w q
    replace q := q.less hleg
    refine q.go fun h2 V hle2 hv H => ?_
    have hc6 := hc6.le hle2
    refine DrawO.wx H (fun w => St g h2 w (stoL D V s L)) (fun w H => H) (fun j => Nat.beq j 14) (by kernel_rfl) (pl [0, 1, 2, 3, 4, 5, 6, 7, 8, 9, 10, 1011, 12, 13, 1014] .nil) (by kernel_rfl) fun w H => ?_
    refine LdQ.owns .head rfl ?_
    refine LdQ.hc hc6 (j := 2) rfl ?_
    refine LdQ.hc hc6 (j := 3) rfl ?_
    refine (insertF (p := V.p) H hv.p (by rw [hv.q]; exact hk.q) (by rw [hv.q]; omega) (it := ⟨s.slots[n].1, s.slots[n].2, n⟩) ht).mono ?_; intro v w q
    refine q.elim fun h3 q => q.elim fun p' q => ?_
    have hle3 := q.1; have hv3 := q.2.1; have hp3 := q.2.2.1; have hl3 := q.2.2.2.1; have H := q.2.2.2.2; clear q
    subst hv3
    refine ⟨H.less hle3, ?_⟩
    refine StO.own H .head rfl rfl rfl fun w H => ⟨rfl, ?_⟩
    have hput : putS s n = { s with q := p'.l } := by
      rw [hl3, hv.q]; unfold putS itemS; rw [Int.toNat_natCast, List.getElem?_eq_getElem hn]; rfl
    rw [hput]
    exact StoW.mk (V := { V with p := p' }) (Hp.le_trans hle1 (Hp.le_trans hle2 hle3)) ⟨hv.log, hv.sl.le hle3, hv.id.le hle3, hp3, rfl⟩ H
  · refine LdO.hc H hc6 (j := 2) rfl ?_
    refine (stoAccepts0 (StoW.mk (Hp.le_refl _) hv H) hk.q s.slots[n].1).mono ?_; intro v w q
    have hv2 := q.1; have q2 := q.2; clear q
    subst hv2
    refine q2.go fun h2 V hle2 hv H => ?_
    have hc6 := hc6.le hle2
    have hle1 := Hp.le_trans hle1 hle2
    refine CondT.bool (fun h1 => ?_) (fun h1 => ?_)
    · skip
      refine AllocO.own H fun bg w H => ?_
      have hleg := H.seal_le
      have H := H.sealIt
      refine (guardF (StoW.mk (Hp.le_refl _) (hv.le hleg) H) th (ms := [1]) (Sl.new (xs := [.int .i64 1]) rfl) (by simp [hml]) (by simp)).mono ?_; intro v w q
      replace q := q.less hleg
      refine q.go fun h2 V hle2 hv H => ?_
      have hc6 := hc6.le hle2
      refine DrawO.wx H (fun w => St g h2 w (stoL D V s L)) (fun w H => H) (fun j => Nat.beq j 14) (by kernel_rfl) (pl [0, 1, 2, 3, 4, 5, 6, 7, 8, 9, 10, 1011, 12, 13, 1014] .nil) (by kernel_rfl) fun w H => ?_
      refine LdQ.owns .head rfl ?_
      refine LdQ.hc hc6 (j := 2) rfl ?_
      refine LdQ.hc hc6 (j := 3) rfl ?_
      refine (insertF (p := V.p) H hv.p (by rw [hv.q]; exact hk.q) (by rw [hv.q]; omega) (it := ⟨s.slots[n].1, s.slots[n].2, n⟩) ht).mono ?_; intro v w q
      refine q.elim fun h3 q => q.elim fun p' q => ?_
      have hle3 := q.1; have hv3 := q.2.1; have hp3 := q.2.2.1; have hl3 := q.2.2.2.1; have H := q.2.2.2.2; clear q
      subst hv3
      refine ⟨H.less hle3, ?_⟩
      refine StO.own H .head rfl rfl rfl fun w H => ⟨rfl, ?_⟩
      have hput : putS s n = { s with q := p'.l } := by
        rw [hl3, hv.q]; unfold putS itemS; rw [Int.toNat_natCast, List.getElem?_eq_getElem hn]; rfl
      rw [hput]
      exact StoW.mk (V := { V with p := p' }) (Hp.le_trans hle1 (Hp.le_trans hle2 hle3)) ⟨hv.log, hv.sl.le hle3, hv.id.le hle3, hp3, rfl⟩ H
    · skip
      refine AllocO.own H fun bg w H => ?_
      have hleg := H.seal_le
      have H := H.sealIt
      refine (guardF (StoW.mk (Hp.le_refl _) (hv.le hleg) H) th (ms := [1, 2]) (Sl.new (xs := [.int .i64 1, .int .i64 2]) rfl) (by simp [hml]) (by simp)).mono ?_; intro v w q
      replace q := q.less hleg
      refine q.go fun h2 V hle2 hv H => ?_
      have hc6 := hc6.le hle2
      refine DrawO.wx H (fun w => St g h2 w (stoL D V s L)) (fun w H => H) (fun j => Nat.beq j 14) (by kernel_rfl) (pl [0, 1, 2, 3, 4, 5, 6, 7, 8, 9, 10, 1011, 12, 13, 1014] .nil) (by kernel_rfl) fun w H => ?_
      refine LdQ.owns .head rfl ?_
      refine LdQ.hc hc6 (j := 2) rfl ?_
      refine LdQ.hc hc6 (j := 3) rfl ?_
      refine (insertF (p := V.p) H hv.p (by rw [hv.q]; exact hk.q) (by rw [hv.q]; omega) (it := ⟨s.slots[n].1, s.slots[n].2, n⟩) ht).mono ?_; intro v w q
      refine q.elim fun h3 q => q.elim fun p' q => ?_
      have hle3 := q.1; have hv3 := q.2.1; have hp3 := q.2.2.1; have hl3 := q.2.2.2.1; have H := q.2.2.2.2; clear q
      subst hv3
      refine ⟨H.less hle3, ?_⟩
      refine StO.own H .head rfl rfl rfl fun w H => ⟨rfl, ?_⟩
      have hput : putS s n = { s with q := p'.l } := by
        rw [hl3, hv.q]; unfold putS itemS; rw [Int.toNat_natCast, List.getElem?_eq_getElem hn]; rfl
      rw [hput]
      exact StoW.mk (V := { V with p := p' }) (Hp.le_trans hle1 (Hp.le_trans hle2 hle3)) ⟨hv.log, hv.sl.le hle3, hv.id.le hle3, hp3, rfl⟩ H
end Go.Proofs.YtbdoinigeaaclaaGreat
