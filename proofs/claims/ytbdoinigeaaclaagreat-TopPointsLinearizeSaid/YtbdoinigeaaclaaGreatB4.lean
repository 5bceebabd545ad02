/- Refilling the ladder queue's bottom list from the last rung. Conditions: the queue's invariants; few items.
   The ladder queue: peeking, popping. Conditions: the queue's invariants; few items.
   The ladder queue: popping, inserting. Conditions: the queue's invariants; few items. -/
import Derived.Test.YtbdoinigeaaclaaGreatB3
set_option linter.all false
set_option maxRecDepth 20000
namespace Go.Proofs.YtbdoinigeaaclaaGreat
open Go RL PQ
variable {g : World} {h h' : Hp} {w : World} {L : List (Nat × Obj)}
set_option maxHeartbeats 2000000 in
theorem takeRungF {bl : Nat} {p : LdP} (H : St g h w ((bl, .cells p.row.toArray 118 (0, 0)) :: L)) (hp : p.ok h) (hk : LdOk p.l) (hne : p.l.rungs ≠ []) (hn : (allL p.l).length ≤ 19) :
    Ret Tryz.prog 205 [.pointer (some ⟨bl, 0, none⟩)] w fun _ w' => LdPost g h L bl (takeRung p.l) w' := by
  obtain ⟨ps, hps1, hps2, hps3⟩ := hp.r
  have hpl : ps.length = p.l.rungs.length := by rw [← hps1, List.length_map]
  have hpos : 0 < p.l.rungs.length := List.length_pos_iff.2 hne
  obtain ⟨k, hkl⟩ : ∃ k, p.l.rungs.length = k + 1 := ⟨p.l.rungs.length - 1, by omega⟩
  have hki : k < ps.length := by omega
  have hfew := hk.few
  obtain ⟨pr, hpr⟩ : ∃ pr, pr = ps[k] := ⟨_, rfl⟩
  have hprr : pr.r = p.l.rungs[k]'(by omega) := by rw [hpr]; simp only [← hps1, List.getElem_map]
  have hlast : p.l.rungs.getLast?.getD default = pr.r := by
    rw [List.getLast?_eq_getElem?, hkl, show k + 1 - 1 = k from rfl, List.getElem?_eq_getElem (by omega), hprr]; rfl
  have hrm : pr.r ∈ p.l.rungs := by rw [hprr]; exact List.getElem_mem _
  have hrok := hk.rungs.all _ hrm
  have hprok : pr.ok h := by rw [hpr]; exact hps3 _ (List.getElem_mem hki)
  have hdl : p.l.rungs.dropLast = (ps.take k).map (·.r) := by rw [List.dropLast_eq_take, hkl, ← hps1, List.map_take]; rfl
  have hone : ∀ r ∈ (ps.map RgP.row).take k, oneCells r = true := fun r hr => by
    obtain ⟨q, hq, rfl⟩ := List.mem_map.1 (List.mem_of_mem_take hr)
    exact (hps3 q hq).one
  have htr : takeRung p.l = match nextR pr.r with
    | none => { p.l with rungs := (ps.take k).map (·.r) }
    | some (r, items, start) =>
      if 4 < items.length ∧ p.l.rungs.length < 4 ∧ 1 < r.width then spreadL { p.l with rungs := (ps.take k).map (·.r) ++ [r] } start (ceil8 r.width) items
      else { p.l with rungs := (ps.take k).map (·.r) ++ [r], bot := sortIt items } := by
    unfold takeRung; rw [hlast, hdl]
    cases nextR pr.r with
    | none => rfl
    | some x => rfl
  have htl : ((ps.map RgP.row).take k).length = k := by rw [List.length_take, List.length_map]; omega
  have htl2 : ((ps.take k).map (·.r)).length = k := by rw [List.length_map, List.length_take]; omega
  have hkz : ((p.l.rungs.length : Nat) : Int) - 1 = (k : Int) := by omega
  refine Ret.enter tabOk Tryz.func205 rfl (by rfl) rfl (by rfl) (by kernel_rfl) ?_
  refine LdO.own H .head rfl ?_
  refine ArO.i64 ?_ (show -9223372036854775808 ≤ ((p.l.rungs.length : Nat) : Int) - 1 by omega) (show ((p.l.rungs.length : Nat) : Int) - 1 ≤ 9223372036854775807 by omega)
  refine LdO.own H .head rfl ?_
  refine (Sl.idxM hps2 hki).elim fun bi q => q.elim fun oi q => ?_
  have hidx := q.1; have hrow := q.2; clear q
  rw [← hpr] at hrow
  refine hidx _ _ _ hkz ?_
  refine LdO.hrow H hrow rfl ?_
  refine (rgNext (p := pr) H hprok hrok).mono ?_; intro v w q
  refine q.elim fun h1 q => ?_
  have hle1 := q.1; have H := q.2.1; have q := q.2.2
  refine q.elim (fun q => ?_) (fun q => ?_)
  · have hnx := q.1
    refine q.2.elim fun p0 q => ?_
    have hv := q.1; have hone0 := q.2; clear q
    subst hv
    rw [hnx] at htr
    refine AllocO.own H fun b3 w H => ?_
    refine StO.own H .head (by rfl) (by exact hone0) (by rfl) fun w H => ?_
    refine LdO.own H (.tail .head) rfl ?_
    have tk : ∀ {K : Value → Prop}, (∀ v', Sl h1 4 v' ((ps.map RgP.row).take k) → K v') → SlcO 4 (.slice p.ra p.l.rungs.length p.rc) none (some (.int .i64 (((p.l.rungs.length : Nat) : Int) - 1))) none K := fun {K} hK => by
      rw [hkz]; exact Sl.takeO (hps2.le hle1) (by rw [List.length_map]; omega) hK
    refine tk fun v' hs' => ?_
    refine (cloneRg H hs' hone (by rw [htl]; omega)).mono ?_; intro v2 w q
    refine q.elim fun x q => ?_
    have ho := q.1; have H := q.2; clear q
    refine (OwnSl.sealIt ho H).elim fun h2 q => ?_
    have hle2 := q.1; have H := q.2.1; have hs2 := q.2.2; clear q
    have hnew : RgsS h2 v2 ((ps.take k).map (·.r)) := ⟨ps.take k, rfl, by rw [List.map_take]; exact hs2, fun q hq => ((hps3 q (List.mem_of_mem_take hq)).le hle1).le hle2⟩
    refine (RgsS.len hnew).elim fun a2 q => q.elim fun c2 q => ?_
    subst q
    refine StO.own H (.tail .head) rfl rfl rfl fun w H => ?_
    refine CondT.mk ?_
    exact ⟨h2, LdP.mk { p.l with rungs := (ps.take k).map (·.r) } p.ta p.tc a2 c2 p.ba p.bc p.mv p.cp, Hp.le_trans hle1 hle2, ⟨(hp.t.le hle1).le hle2, hnew, (hp.b.le hle1).le hle2⟩, htr.symm, H.tail⟩
  · refine q.elim fun r q => q.elim fun items q => q.elim fun s q => q.elim fun p1 q => q.elim fun iv q => ?_
    have hnx := q.1; have hv := q.2.1; have hp1 := q.2.2.1; have hp1r := q.2.2.2.1; have hiv := q.2.2.2.2; clear q
    subst hv
    subst hp1r
    rw [hnx] at htr
    have hone1 := hp1.one
    have hits := rung_items hk hrm hnx
    have hnw := nextR_new hrok hnx
    refine (Sl.lenM hiv).elim fun ia q => q.elim fun ic q => ?_
    subst q
    refine AllocO.own H fun b3 w H => ?_
    refine StO.own H .head (by rfl) (by exact hone1) (by rfl) fun w H => ?_
    have H : St g h1 w ((b3, .cells p1.row.toArray 209 (0, 0)) :: (bl, .cells p.row.toArray 118 (0, 0)) :: L) := H
    refine LdO.own H (.tail .head) rfl ?_
    have tk : ∀ {K : Value → Prop}, (∀ v', Sl h1 4 v' ((ps.map RgP.row).take k) → K v') → SlcO 4 (.slice p.ra p.l.rungs.length p.rc) none (some (.int .i64 (((p.l.rungs.length : Nat) : Int) - 1))) none K := fun {K} hK => by
      rw [hkz]; exact Sl.takeO (hps2.le hle1) (by rw [List.length_map]; omega) hK
    refine tk fun v' hs' => ?_
    refine (cloneRg H hs' hone (by rw [htl]; omega)).mono ?_; intro v2 w q
    refine q.elim fun x q => ?_
    have ho := q.1; have H := q.2; clear q
    refine (OwnSl.len ho).elim fun a2 q => q.elim fun c2 q => ?_
    have q := q.1
    subst q
    have H := St.pull (x := [_, _]) H
    refine StO.own H (.tail .head) rfl rfl rfl fun w H => ?_
    refine CondT.mk ?_
    refine DrawO.wx H (fun w => St g h1 w ((b3, .cells p1.row.toArray 209 (0, 0)) :: (bl, .cells #[.int .i64 p.l.ts, .slice p.ta p.l.top.length p.tc, .slice a2 ((ps.map RgP.row).take k).length c2, .slice p.ba p.l.bot.length p.bc, .int .i64 p.mv, .int .i64 p.cp] 118 (0, 0)) :: L)) (fun w H => H.sub (.cons_cons _ (.cons_cons _ (List.sublist_append_right _ _)))) (fun j => Nat.beq j 10) (by kernel_rfl)
      (pl [0, 1, 2, 3, 4, 5, 1006, 1007, 8, 9, 1010] .nil) (by kernel_rfl) fun w H => ?_
    refine LdQ.own (.tail .head) rfl ?_
    refine LdQ.owns .head rfl ?_
    refine AllocO.own H fun b7 w H => ⟨H.sub (.cons _ (.cons_cons _ (.cons_cons _ (List.sublist_append_right _ _)))), ?_⟩
    have hsrc : Src w 4 (.slice (some ⟨b7, 0, none⟩) 1 1) [p1.row] := H.srcOwn .head (by simp [RgP.row]) rfl rfl
    have H := St.pull (A := [_, _, _]) H
    refine RunO.apps (n := k) (m := 1) tabOk rfl rfl rfl rfl rfl rfl rfl H ho hsrc (by intro r hr; rw [List.mem_singleton.1 hr]; exact hone1) htl rfl (by omega) fun v w x2 ho2 H => ?_
    refine (OwnSl.sealIt ho2 H).elim fun h3 q => ?_
    have hle3 := q.1; have H := q.2.1; have hs2 := q.2.2; clear q
    have hnew : RgsS h3 v ((ps.take k).map (·.r) ++ [p1.r]) := ⟨ps.take k ++ [p1], by rw [List.map_append]; rfl, by rw [List.map_append, List.map_take]; exact hs2, fun q hq => by
      rcases List.mem_append.1 hq with hq | hq
      · exact ((hps3 q (List.mem_of_mem_take hq)).le hle1).le hle3
      · rw [List.mem_singleton.1 hq]; exact hp1.le hle3⟩
    have H := H.tail
    refine ⟨H.less hle3, ?_⟩
    refine (RgsS.len hnew).elim fun a4 q => q.elim fun c4 q => ?_
    subst q
    refine StO.own H (.tail .head) rfl rfl rfl fun w H => ⟨rfl, ?_⟩
    refine LdO.own H (.tail .head) rfl ?_
    refine ArO.mk ?_
    refine StO.own H (.tail .head) rfl rfl rfl fun w H => ?_
    have H : St g h3 w ((b3, .cells p1.row.toArray 209 (0, 0)) :: (bl, .cells (LdP.mk { p.l with rungs := (ps.take k).map (·.r) ++ [p1.r] } p.ta p.tc a4 c4 p.ba p.bc (IntKind.i64.wrap (p.mv + items.length)) p.cp).row.toArray 118 (0, 0)) :: L) := H
    have hp2 : LdP.ok h3 (LdP.mk { p.l with rungs := (ps.take k).map (·.r) ++ [p1.r] } p.ta p.tc a4 c4 p.ba p.bc (IntKind.i64.wrap (p.mv + items.length)) p.cp) := ⟨(hp.t.le hle1).le hle3, hnew, (hp.b.le hle1).le hle3⟩
    have hle := Hp.le_trans hle1 hle3
    have hrl : ((ps.take k).map (·.r) ++ [p1.r]).length = p.l.rungs.length := by rw [List.length_append, htl2]; simp; omega
    have hiv3 : ItS h3 (.slice ia items.length ic) items := hiv.le hle3
    have done : ∀ {w : World}, St g h3 w ((b3, .cells p1.row.toArray 209 (0, 0)) :: (bl, .cells (LdP.mk { p.l with rungs := (ps.take k).map (·.r) ++ [p1.r] } p.ta p.tc a4 c4 p.ba p.bc (IntKind.i64.wrap (p.mv + items.length)) p.cp).row.toArray 118 (0, 0)) :: L) → ¬ (4 < items.length ∧ p.l.rungs.length < 4 ∧ 1 < p1.r.width) →
        Ret Tryz.prog 210 [.slice ia items.length ic] w fun v w' => ∃ h', h3.le h' ∧ ItS h' v (sortIt items) ∧ St g h' w' ((b3, .cells p1.row.toArray 209 (0, 0)) :: (bl, .cells (LdP.mk { p.l with rungs := (ps.take k).map (·.r) ++ [p1.r] } p.ta p.tc a4 c4 p.ba p.bc (IntKind.i64.wrap (p.mv + items.length)) p.cp).row.toArray 118 (0, 0)) :: L) := fun H _ => sortedF H hiv3 (by omega) hits.1
    refine CondT.dec (fun h4 => ?_) (fun h4 => ?_)
    · refine LdO.own H (.tail .head) rfl ?_
      refine CondT.dec (fun h5 => ?_) (fun h5 => ?_)
      · refine LdO.own H .head rfl ?_
        refine CondT.dec (fun h6 => ?_) (fun h6 => ?_)
        · have hc : 4 < items.length ∧ p.l.rungs.length < 4 ∧ 1 < p1.r.width := ⟨by omega, by have h5 : ((((ps.take k).map (·.r) ++ [p1.r]).length : Nat) : Int) < 4 := h5; rw [hrl] at h5; omega, h6⟩
          refine LdO.own H .head rfl ?_
          refine (bNarrow H hnw.2.1 (show p1.r.width ≤ 1152921504606846977 by omega)).mono ?_; rintro _ w ⟨rfl, H⟩
          have H := St.pull (A := [_]) (x := [_]) H
          refine (spreadF (p := LdP.mk { p.l with rungs := (ps.take k).map (·.r) ++ [p1.r] } p.ta p.tc a4 c4 p.ba p.bc (IntKind.i64.wrap (p.mv + items.length)) p.cp) H hp2 hnw.1 hiv3 (by omega) hits.2.2 (by show ((ps.take k).map (·.r) ++ [p1.r]).length ≤ 800; rw [hrl]; omega)).mono ?_; intro v w q
          refine q.elim fun h5' q => q.elim fun p5 q => ?_
          exact ⟨h5', p5, Hp.le_trans hle q.1, q.2.1, q.2.2.1.trans (by rw [htr]; exact (if_pos hc).symm), q.2.2.2.sub (.cons_cons _ (.cons _ (.refl _)))⟩
        · skip
          refine (done H ((fun hh => h6 hh.2.2))).mono ?_; intro v w q
          refine q.elim fun h4' q => ?_
          have hle4 := q.1; have hs4 := q.2.1; have H := q.2.2; clear q
          refine (Sl.lenM hs4).elim fun a5 q => q.elim fun c5 q => ?_
          subst q
          refine StO.own H (.tail .head) rfl rfl rfl fun w H => ?_
          exact ⟨h4', LdP.mk { p.l with rungs := (ps.take k).map (·.r) ++ [p1.r], bot := sortIt items } p.ta p.tc a4 c4 a5 c5 (IntKind.i64.wrap (p.mv + items.length)) p.cp, Hp.le_trans hle hle4, ⟨hp2.t.le hle4, hp2.r.le hle4, hs4⟩, by rw [htr]; exact (if_neg ((fun hh => h6 hh.2.2))).symm, H.tail⟩
      · refine CondT.mk ?_
        refine (done H ((fun hh => h5 (show ((((ps.take k).map (·.r) ++ [p1.r]).length : Nat) : Int) < 4 by rw [hrl]; omega)))).mono ?_; intro v w q
        refine q.elim fun h4' q => ?_
        have hle4 := q.1; have hs4 := q.2.1; have H := q.2.2; clear q
        refine (Sl.lenM hs4).elim fun a5 q => q.elim fun c5 q => ?_
        subst q
        refine StO.own H (.tail .head) rfl rfl rfl fun w H => ?_
        exact ⟨h4', LdP.mk { p.l with rungs := (ps.take k).map (·.r) ++ [p1.r], bot := sortIt items } p.ta p.tc a4 c4 a5 c5 (IntKind.i64.wrap (p.mv + items.length)) p.cp, Hp.le_trans hle hle4, ⟨hp2.t.le hle4, hp2.r.le hle4, hs4⟩, by rw [htr]; exact (if_neg ((fun hh => h5 (show ((((ps.take k).map (·.r) ++ [p1.r]).length : Nat) : Int) < 4 by rw [hrl]; omega)))).symm, H.tail⟩
    · refine CondT.mk ?_
      refine CondT.mk ?_
      refine (done H ((fun hh => h4 (show (4 : Int) < items.length by omega)))).mono ?_; intro v w q
      refine q.elim fun h4' q => ?_
      have hle4 := q.1; have hs4 := q.2.1; have H := q.2.2; clear q
      refine (Sl.lenM hs4).elim fun a5 q => q.elim fun c5 q => ?_
      subst q
      refine StO.own H (.tail .head) rfl rfl rfl fun w H => ?_
      exact ⟨h4', LdP.mk { p.l with rungs := (ps.take k).map (·.r) ++ [p1.r], bot := sortIt items } p.ta p.tc a4 c4 a5 c5 (IntKind.i64.wrap (p.mv + items.length)) p.cp, Hp.le_trans hle hle4, ⟨hp2.t.le hle4, hp2.r.le hle4, hs4⟩, by rw [htr]; exact (if_neg ((fun hh => h4 (show (4 : Int) < items.length by omega)))).symm, H.tail⟩
end Go.Proofs.YtbdoinigeaaclaaGreat
set_option maxRecDepth 20000
namespace Go.Proofs.YtbdoinigeaaclaaGreat
open Go RL PQ
variable {g : World} {h h' : Hp} {w : World} {L : List (Nat × Obj)}
def PeekPost (g : World) (h : Hp) (L : List (Nat × Obj)) (l : Ld) (o : Option It) (v : Value) (w : World) : Prop :=
  ∃ (h' : Hp) (p' : LdP), h.le h' ∧ p'.ok h' ∧ p'.l = l ∧ v = .tuple #[p'.val, itV (o.getD ⟨0, 0, 0⟩), .bool o.isSome] ∧ St g h' w L
structure PkS where
  k : Nat
  p : LdP
  h : Hp
def zLd : List Value := [.int .i64 0, .slice none 0 0, .slice none 0 0, .slice none 0 0, .int .i64 0, .int .i64 0]
set_option maxHeartbeats 2000000 in
theorem peekF {p : LdP} (H : St g h w L) (hp : p.ok h) (hk : LdOk p.l) (hn : (allL p.l).length ≤ 19) :
    Ret Tryz.prog 203 [p.val] w (PeekPost g h L (peekL p.l) (peekL p.l).bot.head?) := by
  refine Ret.enter tabOk Tryz.func203 rfl (by rfl) rfl (by rfl) (by kernel_rfl) ?_
  refine AllocO.own H fun b1 w H => ?_
  refine AllocO.own H fun b2 w H => ?_
  refine AllocO.own H fun b3 w H => ?_
  have H : St g h w ((b3, .cells (itR ⟨0, 0, 0⟩).toArray 157 (0, 0)) :: (b2, .cells zLd.toArray 118 (0, 0)) :: (b1, .cells p.row.toArray 118 (0, 0)) :: L) := H
  refine LoopO.run (σ := PkS) (fun _ => [(1, .pointer (some ⟨b1, 0, none⟩)), (2, .pointer (some ⟨b2, 0, none⟩)), (3, .pointer (some ⟨b3, 0, none⟩))])
    (fun s w => h.le s.h ∧ St g s.h w ((b3, .cells (itR ⟨0, 0, 0⟩).toArray 157 (0, 0)) :: (b2, .cells zLd.toArray 118 (0, 0)) :: (b1, .cells s.p.row.toArray 118 (0, 0)) :: L) ∧ s.p.ok s.h ∧ LdOk s.p.l ∧
      (allL s.p.l).length ≤ 19 ∧ (doneL s.p.l = true ∨ need s.p.l ≤ s.k) ∧ peekL p.l = peekN s.k s.p.l) (fun s => s.k) ⟨20, p, h⟩ (by exact ⟨rfl, rfl, rfl, trivial⟩)
    ⟨Hp.le_refl h, H, hp, hk, hn, .inr (Nat.le_trans (need_le hk.few) (show 10 ≤ 20 from by decide)), rfl⟩ ?_
  rintro ⟨k, q, h2⟩ w e ⟨hle, H, hq, hqk, hqn, hqd, hpe⟩
  simp only at hle H hq hqk hqn hqd hpe
  have hfew := hqk.few
  refine LdO.own H (.tail (.tail .head)) rfl ?_
  refine CondT.dec (fun hb => ?_) (fun hb => ?_)
  · have hb' : 0 < q.l.bot.length := by omega
    have hd : doneL q.l = true := by
      unfold doneL
      cases hq2 : q.l.bot with
      | nil => rw [hq2] at hb'; exact absurd hb' (Nat.lt_irrefl 0)
      | cons a r => rfl
    rw [peekN_done hd] at hpe
    refine (Sl.idxM hq.b (i := 0) hb').elim fun bx qx => qx.elim fun ox qx => ?_
    have hidx := qx.1; have hrow := qx.2; clear qx
    refine DrawO.wi H (fun w => St g h2 w ((b1, .cells q.row.toArray 118 (0, 0)) :: L)) (fun w H => H.tail.tail) (pl [0, 1, 2, 3, 4, 1005, 1006, 7] .nil) (by kernel_rfl) fun w H => ?_
    refine LdQ.owns .head rfl ?_
    refine LdQ.own .head rfl ?_
    refine hidx _ _ _ rfl ?_
    refine LdQ.hrow hrow rfl ?_
    refine StO.own H (.tail .head) rfl rfl rfl fun w H => ⟨H.tail.tail, ?_⟩
    refine StO.own H .head rfl rfl rfl fun w H => ⟨H.tail.tail, ?_⟩
    refine LdO.owns H (.tail .head) rfl ?_
    refine LdO.owns H .head rfl ?_
    have hh : (peekL p.l).bot.head? = some q.l.bot[0] := by rw [hpe, List.head?_eq_getElem?, List.getElem?_eq_getElem hb']
    exact ⟨h2, q, hle, hq, hpe.symm, by rw [hh]; rfl, H.tail.tail.tail⟩
  · have hb' : q.l.bot = [] := List.length_eq_zero_iff.1 (by omega)
    refine LdO.own H (.tail (.tail .head)) rfl ?_
    refine CondT.dec (fun hr => ?_) (fun hr => ?_)
    · have hr' : q.l.rungs ≠ [] := fun e => by rw [e] at hr; exact absurd hr (by decide)
      have hd : doneL q.l = false := by
        unfold doneL
        rw [hb']
        cases hq2 : q.l.rungs with
        | nil => exact absurd hq2 hr'
        | cons a r => rfl
      have hqd' : need q.l ≤ k := hqd.resolve_left (by rw [hd]; decide)
      have hf := fillL1_ok hqk hd
      have hfe : fillL1 q.l = takeRung q.l := by unfold fillL1; rw [if_neg (by simpa using hr')]
      obtain ⟨k, rfl⟩ : ∃ m, k = m + 1 := ⟨k - 1, by have := need_pos hfew; omega⟩
      rw [peekN_step hd, hfe] at hpe
      rw [hfe] at hf
      have H := St.pull (A := [_, _]) (x := [_]) H
      refine (takeRungF H hq hqk hr' hqn).mono ?_; intro v w q2
      refine q2.elim fun h3 q2 => q2.elim fun p3 q2 => ?_
      have hle3 := q2.1; have hp3 := q2.2.1; have hp3l := q2.2.2.1; have H := St.pull (A := [_]) (x := [_, _]) q2.2.2.2; clear q2
      refine ⟨rfl, ⟨k, p3, h3⟩, ⟨rfl, rfl, rfl, trivial⟩, ⟨Hp.le_trans hle hle3, H, hp3, by rw [hp3l]; exact hf.1.ok, by rw [hp3l, hf.1.perm.length_eq]; exact hqn, by
        rw [hp3l]
        exact hf.2.imp id fun h => show need (takeRung q.l) ≤ k by omega, by rw [hp3l]; exact hpe⟩, by simp only; omega⟩
    · have hr' : q.l.rungs = [] := List.length_eq_zero_iff.1 (by omega)
      refine LdO.own H (.tail (.tail .head)) rfl ?_
      refine CondT.dec (fun ht => ?_) (fun ht => ?_)
      · have ht' : q.l.top ≠ [] := fun e => by rw [e] at ht; exact absurd ht (by decide)
        have hd : doneL q.l = false := by
          unfold doneL
          rw [hb', hr']
          cases hq2 : q.l.top with
          | nil => exact absurd hq2 ht'
          | cons a r => rfl
        have hqd' : need q.l ≤ k := hqd.resolve_left (by rw [hd]; decide)
        have hf := fillL1_ok hqk hd
        have hfe : fillL1 q.l = takeTop q.l := by unfold fillL1; rw [if_pos (by rw [hr']; rfl)]
        obtain ⟨k, rfl⟩ : ∃ m, k = m + 1 := ⟨k - 1, by have := need_pos hfew; omega⟩
        rw [peekN_step hd, hfe] at hpe
        rw [hfe] at hf
        have htl : q.l.top.length ≤ 19 := by
          rw [allL_eq, hr', hb'] at hqn
          simpa [rungsIts] using hqn
        have H := St.pull (A := [_, _]) (x := [_]) H
        refine (takeTopF H hq hqk hr' ht' htl).mono ?_; intro v w q2
        refine q2.elim fun h3 q2 => q2.elim fun p3 q2 => ?_
        have hle3 := q2.1; have hp3 := q2.2.1; have hp3l := q2.2.2.1; have H := St.pull (A := [_]) (x := [_, _]) q2.2.2.2; clear q2
        refine ⟨rfl, ⟨k, p3, h3⟩, ⟨rfl, rfl, rfl, trivial⟩, ⟨Hp.le_trans hle hle3, H, hp3, by rw [hp3l]; exact hf.1.ok, by rw [hp3l, hf.1.perm.length_eq]; exact hqn, by
          rw [hp3l]
          exact hf.2.imp id fun h => show need (takeTop q.l) ≤ k by omega, by rw [hp3l]; exact hpe⟩, by simp only; omega⟩
      · have ht' : q.l.top = [] := List.length_eq_zero_iff.1 (by omega)
        have hd : doneL q.l = true := by unfold doneL; rw [hb', hr', ht']; rfl
        rw [peekN_done hd] at hpe
        refine LdO.owns H (.tail (.tail .head)) rfl ?_
        refine StO.own H (.tail .head) rfl rfl rfl fun w H => ?_
        refine StO.own H .head rfl rfl rfl fun w H => ?_
        refine LdO.owns H (.tail .head) rfl ?_
        refine LdO.owns H .head rfl ?_
        have hh : (peekL p.l).bot.head? = none := by rw [hpe, hb']; rfl
        exact ⟨h2, q, hle, hq, hpe.symm, by rw [hh]; rfl, H.tail.tail.tail⟩
end Go.Proofs.YtbdoinigeaaclaaGreat
set_option maxRecDepth 20000
namespace Go.Proofs.YtbdoinigeaaclaaGreat
open Go RL PQ
variable {g : World} {h h' : Hp} {w : World} {L : List (Nat × Obj)}
set_option maxHeartbeats 2000000 in
theorem popF {p : LdP} (H : St g h w L) (hp : p.ok h) (hk : LdOk p.l) (hn : (allL p.l).length ≤ 19) :
    Ret Tryz.prog 202 [p.val] w (PeekPost g h L (popL p.l) (peekL p.l).bot.head?) := by
  have hpk := (peekL_ok hk).1
  refine Ret.enter tabOk Tryz.func202 rfl (by rfl) rfl (by rfl) (by kernel_rfl) ?_
  refine AllocO.own H fun b1 w H => ?_
  refine AllocO.own H fun b2 w H => ?_
  refine AllocO.own H fun b3 w H => ?_
  have H : St g h w ((b3, .cells (itR ⟨0, 0, 0⟩).toArray 157 (0, 0)) :: (b2, .cells zLd.toArray 118 (0, 0)) :: (b1, .cells p.row.toArray 118 (0, 0)) :: L) := H
  refine LdO.owns H (.tail (.tail .head)) rfl ?_
  refine (peekF (p := p) H hp hk hn).mono ?_; intro v w q
  refine q.elim fun h2 q => q.elim fun p2 q => ?_
  have hle := q.1; have hp2 := q.2.1; have hp2l := q.2.2.1; have hv := q.2.2.2.1; have H := q.2.2.2.2; clear q
  subst hv
  refine AllocO.own H fun b5 w H => ?_
  refine StO.own H (.tail (.tail (.tail .head))) rfl rfl rfl fun w H => ?_
  refine StO.own H .head rfl rfl rfl fun w H => ?_
  have H : St g h2 w ((b5, .cells (itR ((peekL p.l).bot.head?.getD ⟨0, 0, 0⟩)).toArray 157 (0, 0)) :: (b3, .cells (itR ⟨0, 0, 0⟩).toArray 157 (0, 0)) :: (b2, .cells zLd.toArray 118 (0, 0)) :: (b1, .cells p2.row.toArray 118 (0, 0)) :: L) := H
  cases hb : (peekL p.l).bot with
  | nil =>
    have hpop : popL p.l = peekL p.l := by unfold popL; rw [hb]; show { peekL p.l with bot := [] } = _; rw [← hb]
    rw [hb] at H
    refine CondT.mk ?_
    refine DrawO.wi H (fun w => St g h2 w ((b5, .cells (itR ((([] : List It).head?).getD ⟨0, 0, 0⟩)).toArray 157 (0, 0)) :: (b1, .cells p2.row.toArray 118 (0, 0)) :: L)) (fun w H => H.sub (.cons_cons _ (.cons _ (.cons _ (.refl _))))) (pl [0, 1, 2, 1003, 1004, 5] .nil) (by kernel_rfl) fun w H => ?_
    refine LdQ.owns (.tail .head) rfl ?_
    refine LdQ.owns .head rfl ?_
    refine StO.own H (.tail (.tail .head)) rfl rfl rfl fun w H => ⟨H.sub (.cons_cons _ (.cons _ (.cons _ (.refl _)))), ?_⟩
    refine StO.own H (.tail .head) rfl rfl rfl fun w H => ⟨H.sub (.cons_cons _ (.cons _ (.cons _ (.refl _)))), ?_⟩
    refine LdO.owns H (.tail (.tail .head)) rfl ?_
    refine LdO.owns H (.tail .head) rfl ?_
    exact ⟨h2, p2, hle, hp2, hp2l.trans hpop.symm, rfl, H.tail.tail.tail.tail⟩
  | cons x rest =>
    rw [hb] at H
    refine CondT.mk ?_
    refine LdO.own H (.tail (.tail (.tail .head))) rfl ?_
    have hbot : p2.l.bot = x :: rest := by rw [hp2l, hb]
    have h1 : 1 ≤ (p2.l.bot.map itR).length := by rw [hbot]; simp
    refine Sl.dropO (n := 1) hp2.b h1 fun v' hs' => ?_
    have hs2 : ItS h2 v' rest := by rw [hbot] at hs'; exact hs'
    have hrl : rest.length ≤ 19 := by
      have h3 := hpk.perm.length_eq
      have h4 : (peekL p.l).bot.length ≤ (allL (peekL p.l)).length := by rw [allL_eq, List.length_append]; omega
      rw [hb, List.length_cons] at h4
      omega
    refine (cloneIt H hs2 (itOne rest) (by rw [List.length_map]; omega)).mono ?_; intro v2 w q
    refine q.elim fun y q => ?_
    have ho := q.1; have H := q.2; clear q
    refine (OwnSl.sealIt ho H).elim fun h3 q => ?_
    have hle3 := q.1; have H := q.2.1; have hs3 := q.2.2; clear q
    refine (Sl.lenM hs3).elim fun a3 q => q.elim fun c3 q => ?_
    subst q
    refine StO.own H (.tail (.tail (.tail .head))) rfl rfl rfl fun w H => ?_
    have hpop : popL p.l = { peekL p.l with bot := rest } := by unfold popL; rw [hb]; rfl
    have H : St g h3 w ((b5, .cells (itR x).toArray 157 (0, 0)) :: (b3, .cells (itR ⟨0, 0, 0⟩).toArray 157 (0, 0)) :: (b2, .cells zLd.toArray 118 (0, 0)) :: (b1, .cells (LdP.mk { p2.l with bot := rest } p2.ta p2.tc p2.ra p2.rc a3 c3 p2.mv p2.cp).row.toArray 118 (0, 0)) :: L) := H
    refine DrawO.wi H (fun w => St g h3 w ((b5, .cells (itR x).toArray 157 (0, 0)) :: (b1, .cells (LdP.mk { p2.l with bot := rest } p2.ta p2.tc p2.ra p2.rc a3 c3 p2.mv p2.cp).row.toArray 118 (0, 0)) :: L)) (fun w H => H.sub (.cons_cons _ (.cons _ (.cons _ (.refl _))))) (pl [0, 1, 2, 1003, 1004, 5] .nil) (by kernel_rfl) fun w H => ?_
    refine LdQ.owns (.tail .head) rfl ?_
    refine LdQ.owns .head rfl ?_
    refine StO.own H (.tail (.tail .head)) rfl rfl rfl fun w H => ⟨H.sub (.cons_cons _ (.cons _ (.cons _ (.refl _)))), ?_⟩
    refine StO.own H (.tail .head) rfl rfl rfl fun w H => ⟨H.sub (.cons_cons _ (.cons _ (.cons _ (.refl _)))), ?_⟩
    refine LdO.owns H (.tail (.tail .head)) rfl ?_
    refine LdO.owns H (.tail .head) rfl ?_
    exact ⟨h3, LdP.mk { p2.l with bot := rest } p2.ta p2.tc p2.ra p2.rc a3 c3 p2.mv p2.cp, Hp.le_trans hle hle3, ⟨hp2.t.le hle3, hp2.r.le hle3, hs3⟩, by rw [hpop, ← hp2l], rfl, H.tail.tail.tail.tail⟩
end Go.Proofs.YtbdoinigeaaclaaGreat
