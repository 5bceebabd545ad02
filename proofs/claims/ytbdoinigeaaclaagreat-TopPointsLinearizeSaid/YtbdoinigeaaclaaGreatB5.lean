/- The ladder queue: inserting. Conditions: the queue's invariants; few items.
   The store: its blocks; its guard. Conditions: the log is short.
   The store: memory, capacity, generation, accepting. Conditions: the queue's invariants. -/
import Derived.Test.YtbdoinigeaaclaaGreatB4
set_option linter.all false
set_option maxRecDepth 20000
namespace Go.Proofs.YtbdoinigeaaclaaGreat
open Go RL PQ
variable {g : World} {h h' : Hp} {w : World} {L : List (Nat × Obj)}
def InsPost (g : World) (h : Hp) (L : List (Nat × Obj)) (l : Ld) (v : Value) (w : World) : Prop :=
  ∃ (h' : Hp) (p' : LdP), h.le h' ∧ v = p'.val ∧ p'.ok h' ∧ p'.l = l ∧ St g h' w L
structure InsS where
  i : Nat
  cp : Int
set_option maxHeartbeats 4000000 in
theorem insertF {p : LdP} (H : St g h w L) (hp : p.ok h) (hk : LdOk p.l) (hn : (allL p.l).length ≤ 19) {it : It} (ht : TimeOk it.time) :
    Ret Tryz.prog 123 [p.val, itV it] w (InsPost g h L (insertL p.l it)) := by
  have htl : p.l.top.length ≤ 19 := by rw [allL_eq, List.length_append, List.length_append] at hn; omega
  have hbl : p.l.bot.length ≤ 19 := by rw [allL_eq, List.length_append] at hn; omega
  have hfew := hk.few
  obtain ⟨ps, hps1, hps2, hps3⟩ := hp.r
  have hpl : ps.length = p.l.rungs.length := by rw [← hps1, List.length_map]
  refine Ret.enter tabOk Tryz.func123 rfl (by rfl) rfl (by rfl) (by kernel_rfl) ?_
  refine AllocO.own H fun b2 w H => ?_
  refine AllocO.own H fun b3 w H => ?_
  refine AllocO.own H fun b4 w H => ?_
  have H : St g h w ((b4, .cells zLd.toArray 118 (0, 0)) :: (b3, .cells (itR it).toArray 157 (0, 0)) :: (b2, .cells p.row.toArray 118 (0, 0)) :: L) := H
  refine LdO.own H (.tail (.tail .head)) rfl ?_
  refine ArO.mk ?_
  refine StO.own H (.tail (.tail .head)) rfl rfl rfl fun w H => ?_
  refine LdO.own H (.tail (.tail .head)) rfl ?_
  refine ArO.mk ?_
  refine StO.own H (.tail (.tail .head)) rfl rfl rfl fun w H => ?_
  have H : St g h w ((b4, .cells zLd.toArray 118 (0, 0)) :: (b3, .cells (itR it).toArray 157 (0, 0)) :: (b2, .cells (LdP.mk p.l p.ta p.tc p.ra p.rc p.ba p.bc (IntKind.i64.wrap (p.mv + 1)) (IntKind.i64.wrap (p.cp + 1))).row.toArray 118 (0, 0)) :: L) := H
  refine LdO.own H (.tail .head) rfl ?_
  refine LdO.own H (.tail (.tail .head)) rfl ?_
  refine CondT.dec (fun hts => ?_) (fun hts => ?_)
  · replace hts : p.l.ts ≤ it.time := hts
    refine DrawO.wx H (fun w => St g h w ((b4, .cells zLd.toArray 118 (0, 0)) :: (b3, .cells (itR it).toArray 157 (0, 0)) :: (b2, .cells (LdP.mk p.l p.ta p.tc p.ra p.rc p.ba p.bc (IntKind.i64.wrap (p.mv + 1)) (IntKind.i64.wrap (p.cp + 1))).row.toArray 118 (0, 0)) :: L)) (fun w H => H) (fun j => Nat.beq j 7) (by kernel_rfl)
      (pl [0, 1, 3] (.ll 2 (pl [1004, 1005, 6, 1007] .nil) 4 (pl [1002, 1005, 6, 1007] .nil))) (by kernel_rfl) fun w H => ?_
    refine LdQ.own (.tail (.tail .head)) rfl ?_
    refine LdQ.owns (.tail .head) rfl ?_
    refine ⟨?_, ?_⟩
    · skip
      refine (clipIt H hp.t).mono ?_; intro v w q
      have H := q.2; refine q.1.elim fun ca q => ?_
      have hcl := q.2; have q1 := q.1; subst q1
      refine ⟨H, ?_⟩
      refine AllocO.own H fun b7 w H => ⟨H.tail, ?_⟩
      have hsrc : Src w 3 (.slice (some ⟨b7, 0, none⟩) 1 1) [itR it] := H.srcOwn .head (by simp [itR]) rfl rfl
      refine RunO.appFull tabOk rfl rfl rfl rfl rfl rfl H rfl hcl (itOne _) hsrc (by simp) (by simp [oneCells, itR, Value.oneCell']) (by show (2 * ((List.map itR p.l.top).length + 1) + 1024) * 24 ≤ _; rw [List.length_map]; omega) fun v w x2 ho2 H => ?_
      refine (OwnSl.sealIt ho2 H).elim fun h3 q => ?_
      have hle := q.1; have H := q.2.1; have hs2 := q.2.2; clear q
      have hs3 : ItS h3 v (p.l.top ++ [it]) := by
        show Sl h3 3 v ((p.l.top ++ [it]).map itR)
        rw [List.map_append]; exact hs2
      refine ⟨(H.less hle).tail, ?_⟩
      refine (Sl.lenM hs3).elim fun a4 q => q.elim fun c4 q => ?_
      subst q
      refine StO.own H (.tail (.tail (.tail .head))) rfl rfl rfl fun w H => ⟨rfl, ?_⟩
      refine LdO.owns H (.tail (.tail (.tail .head))) rfl ?_
      refine StO.own H (.tail .head) rfl rfl rfl fun w H => ?_
      refine LdO.owns H (.tail .head) rfl ?_
      exact ⟨h3, LdP.mk { p.l with top := p.l.top ++ [it] } a4 c4 p.ra p.rc p.ba p.bc (IntKind.i64.wrap (p.mv + 1)) (IntKind.i64.wrap (p.cp + 1)), hle, rfl, ⟨hs3, hp.r.le hle, hp.b.le hle⟩, by unfold insertL; exact (if_pos hts).symm, H.tail.tail.tail.tail⟩
    · refine AllocO.own H fun b7 w H => ⟨H.tail, ?_⟩
      refine (clipIt H hp.t).mono ?_; intro v w q
      have H := q.2; refine q.1.elim fun ca q => ?_
      have hcl := q.2; have q1 := q.1; subst q1
      refine ⟨H.tail, ?_⟩
      have hsrc : Src w 3 (.slice (some ⟨b7, 0, none⟩) 1 1) [itR it] := H.srcOwn .head (by simp [itR]) rfl rfl
      refine RunO.appFull tabOk rfl rfl rfl rfl rfl rfl H rfl hcl (itOne _) hsrc (by simp) (by simp [oneCells, itR, Value.oneCell']) (by show (2 * ((List.map itR p.l.top).length + 1) + 1024) * 24 ≤ _; rw [List.length_map]; omega) fun v w x2 ho2 H => ?_
      refine (OwnSl.sealIt ho2 H).elim fun h3 q => ?_
      have hle := q.1; have H := q.2.1; have hs2 := q.2.2; clear q
      have hs3 : ItS h3 v (p.l.top ++ [it]) := by
        show Sl h3 3 v ((p.l.top ++ [it]).map itR)
        rw [List.map_append]; exact hs2
      refine ⟨(H.less hle).tail, ?_⟩
      refine (Sl.lenM hs3).elim fun a4 q => q.elim fun c4 q => ?_
      subst q
      refine StO.own H (.tail (.tail (.tail .head))) rfl rfl rfl fun w H => ⟨rfl, ?_⟩
      refine LdO.owns H (.tail (.tail (.tail .head))) rfl ?_
      refine StO.own H (.tail .head) rfl rfl rfl fun w H => ?_
      refine LdO.owns H (.tail .head) rfl ?_
      exact ⟨h3, LdP.mk { p.l with top := p.l.top ++ [it] } a4 c4 p.ra p.rc p.ba p.bc (IntKind.i64.wrap (p.mv + 1)) (IntKind.i64.wrap (p.cp + 1)), hle, rfl, ⟨hs3, hp.r.le hle, hp.b.le hle⟩, by unfold insertL; exact (if_pos hts).symm, H.tail.tail.tail.tail⟩
  replace hts : ¬ p.l.ts ≤ it.time := hts
  refine LdO.own H (.tail (.tail .head)) rfl ?_
  refine LoopO.run (σ := InsS) (fun s => [(2, .pointer (some ⟨b2, 0, none⟩)), (3, .pointer (some ⟨b3, 0, none⟩)), (4, .pointer (some ⟨b4, 0, none⟩)), (31, .slice p.ra p.l.rungs.length p.rc), (32, .int .i64 p.l.rungs.length), (33, .int .i64 s.i)])
    (fun s w => St g h w ((b4, .cells zLd.toArray 118 (0, 0)) :: (b3, .cells (itR it).toArray 157 (0, 0)) :: (b2, .cells (LdP.mk p.l p.ta p.tc p.ra p.rc p.ba p.bc (IntKind.i64.wrap (p.mv + 1)) s.cp).row.toArray 118 (0, 0)) :: L) ∧ s.i ≤ p.l.rungs.length ∧
      ∀ j (hj : j < s.i) (hx : j < p.l.rungs.length), decide (curR p.l.rungs[j] ≤ it.time) = false) (fun s => p.l.rungs.length - s.i) ⟨0, IntKind.i64.wrap (p.cp + 1)⟩ (by exact ⟨rfl, rfl, rfl, rfl, rfl, rfl, trivial⟩) ⟨H, Nat.zero_le _, fun j hj => absurd hj (Nat.not_lt_zero j)⟩ ?_
  rintro ⟨i, cp⟩ w e ⟨H, hi, hno⟩
  simp only at H hi hno
  refine CondT.dec (fun hlt => ?_) (fun hge => ?_)
  · have hil : i < p.l.rungs.length := by simp only at hlt; omega
    have hki : i < ps.length := by omega
    obtain ⟨pr, hpr⟩ : ∃ pr, pr = ps[i] := ⟨_, rfl⟩
    have hprr : pr.r = p.l.rungs[i] := by rw [hpr]; simp only [← hps1, List.getElem_map]
    have hrm : pr.r ∈ p.l.rungs := by rw [hprr]; exact List.getElem_mem _
    have hrok := hk.rungs.all _ hrm
    have hprok : pr.ok h := by rw [hpr]; exact hps3 _ (List.getElem_mem hki)
    have hone := hprok.one
    refine (Sl.idxM hps2 hki).elim fun bi q => q.elim fun oi q => ?_
    have hidx := q.1; have hrow := q.2; clear q
    rw [← hpr] at hrow
    refine hidx _ _ _ rfl ?_
    refine LdO.hrow H hrow rfl ?_
    refine AllocO.own H fun b6 w H => ?_
    refine StO.own H .head (by rfl) (by exact hone) (by rfl) fun w H => ?_
    refine LdO.own H (.tail (.tail (.tail .head))) rfl ?_
    refine ArO.mk ?_
    refine StO.own H (.tail (.tail (.tail .head))) rfl rfl rfl fun w H => ?_
    have H : St g h w ((b6, .cells pr.row.toArray 209 (0, 0)) :: (b4, .cells zLd.toArray 118 (0, 0)) :: (b3, .cells (itR it).toArray 157 (0, 0)) :: (b2, .cells (LdP.mk p.l p.ta p.tc p.ra p.rc p.ba p.bc (IntKind.i64.wrap (p.mv + 1)) (IntKind.i64.wrap (cp + 1))).row.toArray 118 (0, 0)) :: L) := H
    refine DrawO.st H (pl [0, 2, 3, 1001, 4] .nil) (by kernel_rfl) fun w H => ?_
    refine LdQ.owns .head rfl ?_
    refine LdQ.own (.tail (.tail .head)) rfl ?_
    refine (rgCurrent (p := pr) H hrok).mono ?_; rintro _ w ⟨rfl, H⟩; refine ⟨H, ?_⟩
    refine CondT.dec (fun hc => ?_) (fun hc => ?_)
    · replace hc : it.time < curR pr.r := hc
      refine ArO.i64 ?_ (by simp only; omega) (by simp only; omega)
      refine ⟨rfl, ⟨i + 1, IntKind.i64.wrap (cp + 1)⟩, ⟨rfl, rfl, rfl, rfl, rfl, rfl, trivial⟩, ⟨H.tail, hil, fun j hj hx => ?_⟩, by simp only; omega⟩
      rcases Nat.lt_or_ge j i with hji | hji
      · exact hno j hji hx
      · have : j = i := by simp only at hj; omega
        subst this
        rw [← hprr]
        exact decide_eq_false (by omega)
    · replace hc : ¬ it.time < curR pr.r := hc
      have hf : p.l.rungs.findIdx? (fun r => decide (curR r ≤ it.time)) = some i := findIdx_at hil (fun j hj => hno j hj (by omega)) (by rw [← hprr]; exact decide_eq_true (by omega))
      have hins := insertL_rung hts hf
      refine LdO.own H (.tail (.tail (.tail .head))) rfl ?_
      refine (cloneRg H hps2 (fun r hr => by obtain ⟨q, hq, rfl⟩ := List.mem_map.1 hr; exact (hps3 q hq).one) (by rw [List.length_map]; omega)).mono ?_; intro v w q
      refine q.elim fun x q => ?_
      have ho := q.1; have H := q.2; clear q
      have hix : i < (ps.map RgP.row).length := by rw [List.length_map]; exact hki
      refine (OwnSl.put ho hix).elim fun bb q => q.elim fun c q => q.elim fun cap q => ?_
      have hv := q.1; have hx := q.2.1; have hsz := q.2.2.1; have hput := q.2.2.2.2.2; clear q
      subst hx
      subst hv
      have hpl2 : (ps.map RgP.row).length = p.l.rungs.length := by rw [List.length_map, hpl]
      refine StO.own H (.tail (.tail (.tail (.tail .head)))) rfl rfl rfl fun w H => ?_
      refine DrawO.wx H (fun w => St g h w ((bb, .cells c 209 (0, 0)) :: (b6, .cells pr.row.toArray 209 (0, 0)) :: (b4, .cells zLd.toArray 118 (0, 0)) :: (b3, .cells (itR it).toArray 157 (0, 0)) :: (b2, .cells #[.int .i64 p.l.ts, .slice p.ta p.l.top.length p.tc, .slice (some ⟨bb, 0, none⟩) (ps.map RgP.row).length cap, .slice p.ba p.l.bot.length p.bc, .int .i64 (IntKind.i64.wrap (p.mv + 1)), .int .i64 (IntKind.i64.wrap (cp + 1))] 118 (0, 0)) :: L)) (fun w H => H) (fun j => Nat.beq j 10) (by kernel_rfl)
        (pl [0, 1, 2, 3, 4, 1005, 6, 7, 8, 9, 1010] .nil) (by kernel_rfl) fun w H => ?_
      refine LdQ.own (.tail (.tail (.tail (.tail .head)))) rfl ?_
      refine LdQ.owns (.tail .head) rfl ?_
      refine LdQ.owns (.tail (.tail (.tail .head))) rfl ?_
      refine (rgPut (p := pr) H hprok hrok (it := it) ht (fun b hb => by have := bucket_len hrm hb; omega)).mono ?_; intro v w q
      refine q.elim fun h3 q => q.elim fun r3 q => q.elim fun ok q => ?_
      have hle3 := q.1; have hv := q.2.1; have hr3 := q.2.2.1; have hr3r := q.2.2.2.1; have H := q.2.2.2.2; clear q
      subst hv
      refine ⟨H.less hle3, ?_⟩
      refine IdxO.at0 rfl hix ?_
      refine StO.ownE H .head (by rfl) (by exact hr3.one) hsz (c' := putA c (i * 4) r3.row) (by rfl) fun w H => ⟨rfl, ?_⟩
      have ho3 := hput r3.row rfl hr3.one
      refine (OwnSl.sealIt ho3 (L := (b6, .cells pr.row.toArray 209 (0, 0)) :: (b4, .cells zLd.toArray 118 (0, 0)) :: (b3, .cells (itR it).toArray 157 (0, 0)) :: (b2, .cells #[.int .i64 p.l.ts, .slice p.ta p.l.top.length p.tc, .slice (some ⟨bb, 0, none⟩) (ps.map RgP.row).length cap, .slice p.ba p.l.bot.length p.bc, .int .i64 (IntKind.i64.wrap (p.mv + 1)), .int .i64 (IntKind.i64.wrap (cp + 1))] 118 (0, 0)) :: L) H).elim fun h4 q => ?_
      have hle4 := q.1; have H := q.2.1; have hs4 := q.2.2; clear q
      have hnew : RgsS h4 (.slice (some ⟨bb, 0, none⟩) (ps.map RgP.row).length cap) (insertL p.l it).rungs := by
        rw [hins]
        refine ⟨ps.set i r3, ?_, by rw [List.map_set]; exact hs4, fun q hq => ?_⟩
        · show (ps.set i r3).map (·.r) = p.l.rungs.modify i (putR · it)
          rw [List.map_set, hps1, hr3r, List.modify_eq_set, List.getElem?_eq_getElem hil, hprr]; rfl
        · rcases List.mem_or_eq_of_mem_set hq with hq | hq
          · exact ((hps3 q hq).le hle3).le hle4
          · rw [hq]; exact hr3.le hle4
      refine LdO.owns H (.tail (.tail (.tail .head))) rfl ?_
      refine StO.own H (.tail .head) rfl rfl rfl fun w H => ?_
      refine LdO.owns H (.tail .head) rfl ?_
      have hrl : (insertL p.l it).rungs.length = (ps.map RgP.row).length := by rw [hins]; show (p.l.rungs.modify i (putR · it)).length = _; rw [List.length_modify, hpl2]
      have hts2 : (insertL p.l it).ts = p.l.ts := by rw [hins]
      have htop2 : (insertL p.l it).top = p.l.top := by rw [hins]
      have hbot2 : (insertL p.l it).bot = p.l.bot := by rw [hins]
      refine ⟨h4, LdP.mk (insertL p.l it) p.ta p.tc (some ⟨bb, 0, none⟩) cap p.ba p.bc (IntKind.i64.wrap (p.mv + 1)) (IntKind.i64.wrap (cp + 1)), Hp.le_trans hle3 hle4, ?_, ⟨?_, ?_, ?_⟩, rfl, H.tail.tail.tail.tail⟩
      · refine Eq.trans (b := .agg #[.int .i64 p.l.ts, .slice p.ta p.l.top.length p.tc, .slice (some ⟨bb, 0, none⟩) (ps.map RgP.row).length cap, .slice p.ba p.l.bot.length p.bc, .int .i64 (IntKind.i64.wrap (p.mv + 1)), .int .i64 (IntKind.i64.wrap (cp + 1))]) rfl ?_
        show _ = Value.agg #[.int .i64 (insertL p.l it).ts, .slice p.ta (insertL p.l it).top.length p.tc, .slice (some ⟨bb, 0, none⟩) (insertL p.l it).rungs.length cap, .slice p.ba (insertL p.l it).bot.length p.bc, _, _]
        rw [hrl, hts2, htop2, hbot2]
      · show ItS h4 (.slice p.ta (insertL p.l it).top.length p.tc) (insertL p.l it).top
        rw [htop2]; exact (hp.t.le hle3).le hle4
      · show RgsS h4 (.slice (some ⟨bb, 0, none⟩) (insertL p.l it).rungs.length cap) (insertL p.l it).rungs
        rw [hrl]; exact hnew
      · show ItS h4 (.slice p.ba (insertL p.l it).bot.length p.bc) (insertL p.l it).bot
        rw [hbot2]; exact (hp.b.le hle3).le hle4
  · have hie : p.l.rungs.length ≤ i := by simp only at hge; omega
    have hf : p.l.rungs.findIdx? (fun r => decide (curR r ≤ it.time)) = none := findIdx_no fun r hr => by
      obtain ⟨j, hj, rfl⟩ := List.mem_iff_getElem.1 hr
      exact hno j (by omega) hj
    have hins := insertL_bot hts hf
    refine LdO.own H (.tail (.tail .head)) rfl ?_
    refine LdO.owns H (.tail .head) rfl ?_
    refine (binSIt H hp.b (by omega) it 83 (fun x => cmpE x.time x.seq it.time it.seq) (fun x hx w L H => compareItems H x.time x.seq x.slot it.time it.seq it.slot) (posIt_le p.l.bot it)
      (fun j hj => cmpE_neg.2 (posIt_lo hj _)) (fun j hj hj' hx => by have := posIt_hi hk.sorted hj hj'; rw [cmpE_neg.1 hx] at this; cases this)).mono ?_; rintro _ w ⟨rfl, H⟩
    have hil : posIt p.l.bot it ≤ (p.l.bot.map itR).length := by rw [List.length_map]; exact posIt_le _ _
    have hrows : (p.l.bot.map itR).take (posIt p.l.bot it) ++ itR it :: (p.l.bot.map itR).drop (posIt p.l.bot it) = (insIt p.l.bot it).map itR := by unfold insIt; simp
    refine DrawO.wx H (fun w => St g h w ((b4, .cells zLd.toArray 118 (0, 0)) :: (b3, .cells (itR it).toArray 157 (0, 0)) :: (b2, .cells (LdP.mk p.l p.ta p.tc p.ra p.rc p.ba p.bc (IntKind.i64.wrap (p.mv + 1)) cp).row.toArray 118 (0, 0)) :: L)) (fun w H => H) (fun j => Nat.beq j 8) (by kernel_rfl)
      (pl [0, 1, 3, 4] (.ll 2 (pl [1005, 1006, 7, 1008] .nil) 5 (pl [1002, 1006, 7, 1008] .nil))) (by kernel_rfl) fun w H => ?_
    refine LdQ.own (.tail (.tail .head)) rfl ?_
    refine LdQ.owns (.tail .head) rfl ?_
    refine ⟨?_, ?_⟩
    · refine (cloneIt H hp.b (itOne _) (by rw [List.length_map]; omega)).mono ?_; intro v w q
      refine q.elim fun x q => ?_
      have ho := q.1; have H := q.2; clear q
      refine ⟨H.sub (List.sublist_append_right _ _), ?_⟩
      refine AllocO.own H fun bb w H => ⟨H.sub (.cons _ (List.sublist_append_right _ _)), ?_⟩
      have H := St.pull (A := [_]) H
      refine (insertIt H ho rfl rfl hil (by rw [List.length_map]; omega)).mono ?_; intro v2 w q
      refine q.elim fun x' q => ?_
      have ho2 : OwnSl 157 3 v2 ((p.l.bot.map itR).take (posIt p.l.bot it) ++ itR it :: (p.l.bot.map itR).drop (posIt p.l.bot it)) x' := q.1
      have H := q.2; clear q
      rw [hrows] at ho2
      refine (OwnSl.sealIt ho2 H).elim fun h3 q => ?_
      have hle := q.1; have H := q.2.1; have hs3 := q.2.2; clear q
      refine ⟨H.less hle, ?_⟩
      refine (Sl.lenM hs3).elim fun a4 q => q.elim fun c4 q => ?_
      subst q
      refine StO.own H (.tail (.tail .head)) rfl rfl rfl fun w H => ⟨rfl, ?_⟩
      refine LdO.owns H (.tail (.tail .head)) rfl ?_
      refine StO.own H .head rfl rfl rfl fun w H => ?_
      refine LdO.owns H .head rfl ?_
      exact ⟨h3, LdP.mk { p.l with bot := insIt p.l.bot it } p.ta p.tc p.ra p.rc a4 c4 (IntKind.i64.wrap (p.mv + 1)) cp, hle, rfl, ⟨hp.t.le hle, hp.r.le hle, hs3⟩, hins.symm, H.tail.tail.tail⟩
    · refine AllocO.own H fun bb w H => ⟨H.tail, ?_⟩
      refine (cloneIt H hp.b (itOne _) (by rw [List.length_map]; omega)).mono ?_; intro v w q
      refine q.elim fun x q => ?_
      have ho := q.1; have H := q.2; clear q
      refine ⟨H.sub ((List.sublist_cons_self _ _).trans (List.sublist_append_right _ _)), ?_⟩
      refine (insertIt H ho rfl rfl hil (by rw [List.length_map]; omega)).mono ?_; intro v2 w q
      refine q.elim fun x' q => ?_
      have ho2 : OwnSl 157 3 v2 ((p.l.bot.map itR).take (posIt p.l.bot it) ++ itR it :: (p.l.bot.map itR).drop (posIt p.l.bot it)) x' := q.1
      have H := q.2; clear q
      rw [hrows] at ho2
      refine (OwnSl.sealIt ho2 H).elim fun h3 q => ?_
      have hle := q.1; have H := q.2.1; have hs3 := q.2.2; clear q
      refine ⟨H.less hle, ?_⟩
      refine (Sl.lenM hs3).elim fun a4 q => q.elim fun c4 q => ?_
      subst q
      refine StO.own H (.tail (.tail .head)) rfl rfl rfl fun w H => ⟨rfl, ?_⟩
      refine LdO.owns H (.tail (.tail .head)) rfl ?_
      refine StO.own H .head rfl rfl rfl fun w H => ?_
      refine LdO.owns H .head rfl ?_
      exact ⟨h3, LdP.mk { p.l with bot := insIt p.l.bot it } p.ta p.tc p.ra p.rc a4 c4 (IntKind.i64.wrap (p.mv + 1)) cp, hle, rfl, ⟨hp.t.le hle, hp.r.le hle, hs3⟩, hins.symm, H.tail.tail.tail⟩
end Go.Proofs.YtbdoinigeaaclaaGreat
set_option maxRecDepth 20000
namespace Go.Proofs.YtbdoinigeaaclaaGreat
open Go RL PQ
variable {g : World} {h h' : Hp} {w : World} {L : List (Nat × Obj)}
/-- Where the store lies. -/
structure SD where
  bs : Nat
  B : MB
/-- How the store is represented. -/
structure SV where
  G : LG
  sa : Option Addr
  sc : Nat
  ia : Option Addr
  ic : Nat
  p : LdP
def slotR (x : Int × Int) : List Value := [.int .i64 0, .int .i64 0, .int .i64 x.1, .int .i64 x.2]
def stoRow (D : SD) (V : SV) (s : Sto) : List Value := [.pointer (some ⟨D.B.bm, 0, none⟩), .slice V.sa s.slots.length V.sc, .slice V.ia s.idle.length V.ic, .int .i64 s.next,
  .int .i64 V.p.l.ts, .slice V.p.ta V.p.l.top.length V.p.tc, .slice V.p.ra V.p.l.rungs.length V.p.rc, .slice V.p.ba V.p.l.bot.length V.p.bc, .int .i64 V.p.mv, .int .i64 V.p.cp]
def stoL (D : SD) (V : SV) (s : Sto) (R : List (Nat × Obj)) : List (Nat × Obj) := (D.bs, .cells (stoRow D V s).toArray 121 (0, 0)) :: memL D.B V.G s.words s.mus R
structure SV.ok (h : Hp) (V : SV) (s : Sto) (N : Nat) : Prop where
  log : V.G.ok N
  sl : Sl h 4 (.slice V.sa s.slots.length V.sc) (s.slots.map slotR)
  id : IntS h (.slice V.ia s.idle.length V.ic) s.idle
  p : V.p.ok h
  q : V.p.l = s.q
theorem SV.ok.le {V : SV} {s : Sto} {N : Nat} (hv : V.ok h s N) (hl : h.le h') : V.ok h' s N := ⟨hv.log, hv.sl.le hl, hv.id.le hl, hv.p.le hl, hv.q⟩
theorem SV.ok.mono {V : SV} {s : Sto} {N M : Nat} (hv : V.ok h s N) (hm : N ≤ M) : V.ok h s M := ⟨hv.log.mono hm, hv.sl, hv.id, hv.p, hv.q⟩
def StoW (g : World) (h : Hp) (D : SD) (s : Sto) (N : Nat) (L : List (Nat × Obj)) (w : World) : Prop := ∃ h' V, h.le h' ∧ V.ok h' s N ∧ St g h' w (stoL D V s L)
theorem StoW.go {D : SD} {s : Sto} {N : Nat} {C : Prop} (q : StoW g h D s N L w) (k : ∀ h' V, h.le h' → V.ok h' s N → St g h' w (stoL D V s L) → C) : C := by
  obtain ⟨h', V, h1, h2, h3⟩ := q
  exact k h' V h1 h2 h3
theorem StoW.mk {D : SD} {V : SV} {s : Sto} {N : Nat} (hl : h.le h') (hv : V.ok h' s N) (H : St g h' w (stoL D V s L)) : StoW g h D s N L w := ⟨h', V, hl, hv, H⟩
theorem StoW.less {D : SD} {s : Sto} {N : Nat} (q : StoW g h' D s N L w) (hl : h.le h') : StoW g h D s N L w := by
  obtain ⟨h2, V, h1, h2, h3⟩ := q
  exact ⟨_, V, Hp.le_trans hl h1, h2, h3⟩
theorem toMem {D : SD} {V : SV} {s : Sto} (H : St g h w (stoL D V s L)) : St g h w (memL D.B V.G s.words s.mus ((D.bs, .cells (stoRow D V s).toArray 121 (0, 0)) :: L)) := by
  refine H.perm ?_
  unfold stoL memL
  refine (List.Perm.swap _ _ _).trans (.cons _ ?_)
  refine (List.Perm.swap _ _ _).trans (.cons _ ?_)
  refine (List.Perm.swap _ _ _).trans (.cons _ ?_)
  exact List.perm_middle.symm
theorem ofMem {D : SD} {V : SV} {s s' : Sto} {G : LG} {ws : List Int} {ms : List (Option Int)} (H : St g h w (memL D.B G ws ms ((D.bs, .cells (stoRow D V s).toArray 121 (0, 0)) :: L)))
    (hs : stoRow D { V with G := G } s' = stoRow D V s) (hw : s'.words = ws) (hm : s'.mus = ms) : St g h w (stoL D { V with G := G } s' L) := by
  unfold stoL
  rw [hs, hw, hm]
  refine H.perm (List.Perm.symm ?_)
  unfold memL
  refine (List.Perm.swap _ _ _).trans (.cons _ ?_)
  refine (List.Perm.swap _ _ _).trans (.cons _ ?_)
  refine (List.Perm.swap _ _ _).trans (.cons _ ?_)
  exact List.perm_middle.symm
theorem SV.ok.log' {V : SV} {s : Sto} {N M : Nat} {G : LG} (hv : V.ok h s N) (hg : G.ok M) : SV.ok h { V with G := G } s M := ⟨hg, hv.sl, hv.id, hv.p, hv.q⟩
theorem Sl.new {b e : Nat} {n : Nat} {fz : Nat × Nat} {xs : List Value} (hn : n = xs.length) : Sl (h.add b (.cells xs.toArray e fz)) 1 (.slice (some ⟨b, 0, none⟩) n n) (xs.map fun v => [v]) := by
  subst hn
  refine ⟨some ⟨b, 0, none⟩, xs.length, by simp, by simp, by simp, fun _ => ⟨b, 0, rfl, ?_⟩⟩
  have := HC.new h b xs.toArray e fz
  have e : ∀ ys : List Value, (ys.map fun v => [v]).flatten = ys := fun ys => by induction ys with
    | nil => rfl
    | cons y ys ih => rw [List.map_cons, List.flatten_cons, ih]; rfl
  rw [e]; exact this
set_option maxHeartbeats 1000000 in
theorem guardF {D : SD} {s : Sto} {N : Nat} (q : StoW g h D s N L w) (t : Int) {ms : List Nat} {v : Value} (hs : IntS h v (ms.map fun (m : Nat) => (m : Int))) (hms : ∀ m ∈ ms, m < s.mus.length) (hl : ms.length ≤ 10) :
    Ret Tryz.prog 115 [.pointer (some ⟨D.bs, 0, none⟩), .int .i64 t, v] w fun _ w' => StoW g h D s N L w' := by
  obtain ⟨a, cap, rfl⟩ := hs.lenM
  have hml : (ms.map fun (m : Nat) => (m : Int)).length = ms.length := List.length_map ..
  refine Ret.enter tabOk Tryz.func115 rfl (by rfl) rfl (by rfl) (by kernel_rfl) ?_
  refine LoopO.run (σ := Nat) (fun s => [(0, .pointer (some ⟨D.bs, 0, none⟩)), (1, .int .i64 t), (8, .slice a (ms.map fun (m : Nat) => (m : Int)).length cap), (9, .int .i64 ms.length), (10, .int .i64 (s : Int))])
    (fun i w => StoW g h D s N L w ∧ i ≤ ms.length) (fun i => ms.length - i) 0 (by exact ⟨rfl, rfl, rfl, by rw [hml]; rfl, rfl, trivial⟩) ⟨q, Nat.zero_le _⟩ ?_
  rintro i w e ⟨q, hi⟩
  refine CondT.dec (fun hlt => ?_) (fun hge => ?_)
  · have hil : i < ms.length := by omega
    refine (Sl.idxM hs (by rw [hml]; exact hil)).elim fun bi q' => q'.elim fun oi q' => ?_
    have hidx := q'.1; have hrow := q'.2; clear q'
    refine hidx _ _ _ rfl ?_
    refine q.go fun h2 V hle hv H => ?_
    refine LdO.hc H (hrow.le hle) (j := 0) rfl ?_
    have H := H
    refine LdO.own H .head rfl ?_
    have hm : (ms.map fun (m : Nat) => (m : Int))[i]'(by rw [hml]; exact hil) = (ms[i] : Int) := List.getElem_map ..
    rw [hm]
    refine (memTouch D.B (toMem H) hv.log t (hms _ (List.getElem_mem hil))).mono ?_; intro v w q
    refine q.2.elim fun G' q => ?_
    have H := ofMem q.2 rfl rfl rfl
    refine ArO.i64 ?_ (by omega) (by omega)
    exact ⟨rfl, i + 1, ⟨rfl, rfl, rfl, rfl, rfl, trivial⟩, ⟨StoW.mk hle (hv.log' q.1) H, hil⟩, by omega⟩
  · exact q
end Go.Proofs.YtbdoinigeaaclaaGreat
set_option maxRecDepth 20000
namespace Go.Proofs.YtbdoinigeaaclaaGreat
open Go RL PQ
variable {g : World} {h h' : Hp} {w : World} {L : List (Nat × Obj)}
theorem stoMemory {D : SD} {V : SV} {s : Sto} (H : St g h w (stoL D V s L)) :
    Ret Tryz.prog 87 [.pointer (some ⟨D.bs, 0, none⟩)] w fun v w' => v = .pointer (some ⟨D.B.bm, 0, none⟩) ∧ St g h w' (stoL D V s L) := by
  refine Ret.enter tabOk Tryz.func87 rfl (by rfl) rfl (by rfl) (by kernel_rfl) ?_
  refine LdO.own H .head rfl ?_
  exact ⟨rfl, H⟩
theorem stoCapacity {D : SD} {V : SV} {s : Sto} (H : St g h w (stoL D V s L)) :
    Ret Tryz.prog 170 [.pointer (some ⟨D.bs, 0, none⟩)] w fun v w' => v = .int .i64 s.slots.length ∧ St g h w' (stoL D V s L) := by
  refine Ret.enter tabOk Tryz.func170 rfl (by rfl) rfl (by rfl) (by kernel_rfl) ?_
  refine LdO.own H .head rfl ?_
  exact ⟨rfl, H⟩
theorem stoGen {D : SD} {V : SV} {s : Sto} (H : St g h w (stoL D V s L)) {slot : Int} (h0 : 0 ≤ slot) (h1 : slot ≤ 1000) :
    Ret Tryz.prog 119 [.pointer (some ⟨D.bs, 0, none⟩), .int .i64 slot] w fun v w' => v = .int .i64 (genOf (wordS s (1 + slot))) ∧ St g h w' (stoL D V s L) := by
  refine Ret.enter tabOk Tryz.func119 rfl (by rfl) rfl (by rfl) (by kernel_rfl) ?_
  refine LdO.own H .head rfl ?_
  refine ArO.i64 ?_ (by omega) (by omega)
  refine (memWord D.B (toMem H) _).mono ?_; intro v w q
  have hv := q.1; have H := ofMem q.2 (s' := s) rfl rfl rfl; clear q
  subst hv
  refine (hGen H _).mono ?_; intro v w q
  have hv := q.1; have H := q.2; clear q
  subst hv
  exact ⟨rfl, H⟩
theorem stoAccepts1 {D : SD} {V : SV} {s : Sto} (H : St g h w (stoL D V s L)) {b : Nat} {t : Int} (hc : HC h b 0 [.int .i64 t]) {p : RgP} (hone : oneCells p.row = true) (hr : RgOk p.r) :
    Ret Tryz.prog 130 [p.val, .pointer (some ⟨b, 0, none⟩)] w fun v w' => v = .bool (decide (curR p.r ≤ t)) ∧ St g h w' (stoL D V s L) := by
  refine Ret.enter tabOk Tryz.func130 rfl (by rfl) rfl (by rfl) (by kernel_rfl) ?_
  refine AllocO.own H fun b2 w H => ?_
  have H : St g h w ((b2, .cells p.row.toArray 209 (0, 0)) :: stoL D V s L) := H
  refine DrawO.st H (pl [0, 2, 1001, 3, 4] .nil) (by kernel_rfl) fun w H => ?_
  refine LdQ.owns .head rfl ?_
  refine LdQ.hc hc (j := 0) rfl ?_
  refine (rgCurrent (p := p) H hr).mono ?_; intro v w q
  have hv := q.1; have H := q.2; clear q
  subst hv
  refine ⟨H, ?_⟩
  exact ⟨rfl, H.tail⟩
theorem any_map {α β : Type} (f : α → β) (p : β → Bool) : ∀ l : List α, (l.map f).any p = l.any fun x => p (f x)
  | [] => rfl
  | x :: l => by simp [List.any_cons, any_map f p l]
theorem stoAccepts0 {D : SD} {s : Sto} {N : Nat} (q : StoW g h D s N L w) (hk : LdOk s.q) (t : Int) :
    Ret Tryz.prog 116 [.pointer (some ⟨D.bs, 0, none⟩), .int .i64 t] w fun v w' => v = .bool (acceptsS s t) ∧ StoW g h D s N L w' := by
  refine q.go fun h2 V hle hv H => ?_
  refine Ret.enter tabOk Tryz.func116 rfl (by rfl) rfl (by rfl) (by kernel_rfl) ?_
  refine AllocO.own H fun b w H => ?_
  have hc := HC.new h2 b #[.int .i64 t] 3 (0, 0)
  have hle2 := H.seal_le
  have H := H.sealIt
  have hv2 := hv.le hle2
  refine LdO.own H .head rfl ?_
  obtain ⟨ps, hps1, hps2, hps3⟩ := hv2.p.r
  have hall := hk.rungs.all
  rw [← hv.q, ← hps1] at hall
  have hfew := hk.few
  rw [← hv.q, ← hps1, List.length_map] at hfew
  refine (containsFuncRg H hps2 (by omega) 130 #[.pointer (some ⟨b, 0, none⟩)] (fun p => decide (curR p.r ≤ t)) fun p hp w H => ?_).mono ?_
  · exact stoAccepts1 H hc (hps3 p hp).one (hall _ (List.mem_map_of_mem hp))
  · intro v w q
    have hv1 := q.1; have H := q.2; clear q
    subst hv1
    refine ⟨congrArg Value.bool ?_, StoW.mk (Hp.le_trans hle hle2) hv2 H⟩
    unfold acceptsS
    rw [← hv.q, ← hps1, any_map]
theorem stoAccepts {D : SD} {s : Sto} {N : Nat} (q : StoW g h D s N L w) (hk : LdOk s.q) (hm : s.mus.length = 4) (th t : Int) :
    Ret Tryz.prog 105 [.pointer (some ⟨D.bs, 0, none⟩), .int .i64 th, .int .i64 t] w fun v w' => v = .bool (acceptsS s t) ∧ StoW g h D s N L w' := by
  refine q.go fun h2 V hle hv H => ?_
  refine Ret.enter tabOk Tryz.func105 rfl (by rfl) rfl (by rfl) (by kernel_rfl) ?_
  refine AllocO.own H fun b w H => ?_
  have hle2 := H.seal_le
  have H := H.sealIt
  refine (guardF (StoW.mk (Hp.le_refl _) (hv.le hle2) H) th (ms := [1]) (Sl.new (xs := [.int .i64 1]) rfl) (by simp [hm]) (by simp)).mono ?_; intro v w q
  refine (stoAccepts0 (q.less (Hp.le_trans hle hle2)) hk t).mono ?_; intro v w q
  have hv := q.1; subst hv
  exact ⟨rfl, q.2⟩
end Go.Proofs.YtbdoinigeaaclaaGreat
