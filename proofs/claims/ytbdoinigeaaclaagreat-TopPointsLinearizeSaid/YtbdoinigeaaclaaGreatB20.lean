/- A workload run to its end: the whole walk. Conditions: the machine's runs are in order and end. -/
import Derived.Test.YtbdoinigeaaclaaGreatB19
set_option linter.all false
set_option maxRecDepth 20000
namespace Go.Proofs.YtbdoinigeaaclaaGreat
open Go RL PQ
variable {g : World} {h h' : Hp} {w : World} {L : List (Nat × Obj)}
section
variable {sv pv : Value} {l : List SP} {pks : List Nat} {cap B : Nat} {inv : RunS → Prop}
theorem stP_end {i : Nat} (h : ¬ 0 < (stP l cap pks i).left) : stP l cap pks pks.length = stP l cap pks i := by
  unfold stP at h ⊢
  rw [List.take_length]
  conv => lhs; rw [← List.take_append_drop i pks]
  rw [runPicks_app, runPicks_stuck h]
set_option maxHeartbeats 4000000 in
theorem ilFinishAll (H : St g h w L) (hs : ScS h sv l) (hp : IntS h pv (pks.map fun (n : Nat) => (n : Int))) (hF : FinPre l pks cap B inv) :
    Ret Tryz.prog 9 [.int .i64 (cap : Int), sv, pv] w (FinishP g h (finishM cap (l.map SP.cs) pks B) L) := by
  have hc1 := hF.c1
  have hc2 := hF.c2
  have hl1 := hF.l1
  have hl2 := hF.l2
  have hcn := callsN_le16 hF.l3
  have hp1 := hF.p1
  obtain ⟨sa, sc, hsv⟩ := hs.sl.lenM
  obtain ⟨pa, pc, hpv⟩ := hp.lenM
  have hpl : (pks.map fun (n : Nat) => (n : Int)).length = pks.length := List.length_map ..
  rw [hpl] at hpv
  refine Ret.enterM tabOk Tryz.func9 rfl (by rfl) rfl (by rfl) (by kernel_rfl) ?_
  refine (ilValid H hs (cap := (cap : Int)) (by omega) (by omega) hl1 hl2 hF.l3).mono ?_; intro v w q
  have hv := q.1; have H := q.2; clear q
  subst hv
  refine CondT.of (u := false) rfl ?_
  refine (ilStart H hs hc1 hc2 hl1 hl2 (by omega)).mono ?_; intro v w q
  refine q.elim fun D q => q.elim fun br q => ?_
  have hv := q.1; have q2 := q.2; clear q
  subst hv
  refine q2.alloc fun b8 w q => ?_
  refine q.store rfl rfl rfl fun w q => ?_
  have q : RunC g h D br (stP l cap pks 0) ((b8, .cells #[.pointer (some ⟨br, 0, none⟩)] 53 (0, 0)) :: L) w := by
    unfold stP; rw [List.take_zero]; exact q
  subst hsv hpv
  refine LoopO.run (σ := Nat) (fun i => [(1, .slice sa l.length sc), (2, .slice pa pks.length pc), (8, .pointer (some ⟨b8, 0, none⟩)), (9, .int .i64 (i : Int))])
    (fun i w => i ≤ pks.length ∧ RunC g h D br (stP l cap pks i) ((b8, .cells #[.pointer (some ⟨br, 0, none⟩)] 53 (0, 0)) :: L) w) (fun i => pks.length - i) 0 (by exact ⟨rfl, rfl, rfl, rfl, trivial⟩) ⟨Nat.zero_le _, q⟩ ?_
  rintro i w e ⟨hi, q⟩
  have hst := stP_ok hF hi
  refine CondT.dec (fun hlt => ?_) (fun hge => ?_)
  · have hlt' : i < pks.length := by have h5 : (i : Int) < pks.length := hlt; omega
    refine LdO.cell1 (q.cellL (.head _) rfl) ?_
    refine LdO.cell1 q.left ?_
    refine CondT.dec (fun hle => ?_) (fun hle => ?_)
    · have hle' : 0 < (stP l cap pks i).left := hle
      have hir : i < (pks.map fun (n : Nat) => (n : Int)).length := by rw [hpl]; exact hlt'
      refine (Sl.idxM hp hir).elim fun bi q2 => q2.elim fun oi q2 => ?_
      have hidx := q2.1; have hrow := q2.2; clear q2
      have hpi : (pks.map fun (n : Nat) => (n : Int))[i] = ((pks[i] : Nat) : Int) := List.getElem_map ..
      rw [hpi] at hrow
      refine q.draw (fun w => w.cell? ⟨b8, 0, none⟩ = some (.pointer (some ⟨br, 0, none⟩)) ∧ w.cell? ⟨bi, oi, none⟩ = some (.int .i64 ((pks[i] : Nat) : Int))) (fun w q => ⟨q.cellL (.head _) rfl, q.hcell hrow (j := 0) rfl⟩) (pl [0, 1, 2, 3, 4, 1005] .nil) (by kernel_rfl) fun w q => ?_
      refine LdQ.cell (fun _ hs => hs.1) ?_
      refine hidx _ _ _ rfl ?_
      refine LdQ.cell (fun _ hs => hs.2) ?_
      refine (hF.good _ pks[i] hst.1 (hF.p2 _ (List.getElem_mem hlt')) hle' (by have := hst.2.2; omega)).elim fun K hK => ?_
      refine (runC_pick q (i := pks[i]) (by rw [hF.runs.thrs _ hst.1]; exact hF.p2 _ (List.getElem_mem hlt')) hK (by have := hst.2.2; omega) hst.2.1).mono ?_; intro v w q
      have hsu := stP_succ (l := l) (cap := cap) hlt'
      rw [if_pos hle'] at hsu
      rw [← hsu] at q
      refine ⟨⟨q.cellL (.head _) rfl, q.hcell hrow (j := 0) rfl⟩, ?_⟩
      refine ArO.i64 ?_ (by omega) (by omega)
      exact ⟨rfl, i + 1, ⟨rfl, rfl, rfl, rfl, trivial⟩, ⟨hlt', q⟩, by omega⟩
    · have hle' : ¬ 0 < (stP l cap pks i).left := hle
      have q : RunC g h D br (stP l cap pks pks.length) ((b8, .cells #[.pointer (some ⟨br, 0, none⟩)] 53 (0, 0)) :: L) w := by rw [stP_end hle']; exact q
      refine (ilForever q l.length).mono ?_; intro v w q
      refine q.elim fun b1 q => ?_
      have hv := q.1; have q2 := q.2; clear q
      subst hv
      refine q2.elim fun h1 q => q.elim fun V q => q.elim fun bt q => q.elim fun c q => q.elim fun tvs q => q.elim fun R q => ?_
      have hle := q.1; have hv := q.2.1; have hk := q.2.2.1; have H := q.2.2.2; clear q q2
      refine RangeO.of tabOk H rfl Tryz.func46 rfl (by kernel_rfl) ?_
      intro lp bd r w1 hst1 hpd hps ha hbd he hsz H
      have q : RunC g h D br (stP l cap pks pks.length) (finL lp bd b1 b8 br l.length r L) w1 := by
        refine ⟨h1, V, bt, c, tvs, R, hle, hv, hk, H.perm (perm_of_sum fun f => ?_)⟩
        unfold finL
        simp only [List.map_append, List.map_cons, List.sum_append, List.sum_cons, sto_sum]
        omega
      have q : RunC g h D br (stR l cap pks 0) (finL lp bd b1 b8 br l.length r L) w1 := q
      refine (forever1 (n := l.length) hl1 hl2 (finJ g h D br lp bd b1 b8 l cap pks r L) (finZ g h D br lp bd b1 b8 l cap pks r L) (finM br (stR l cap pks 0).picks B) (fun p w hp hJ => ?_) (fun p w hJ => ?_) ⟨0, by rw [Nat.zero_mod], by omega, q⟩).mono ?_
      · refine hsz.elim fun sz q => ?_
        have hs1 := q.1; have cc1 := q.2.1; have cc2 := q.2.2; clear q
        refine finRound hF hst1 hpd hps hs1 (by rw [ha]; exact cc1) (by rw [hbd]; exact cc2) (by simp [codeOk, dstOk] at cc2; omega) he rfl (by rw [ha]; rfl) (by rw [hbd]; rfl) (fun {Q ee w} hq => by rw [ha]; exact hq) (fun {Q ee p r0 L0 w} e8 e10 q hm h0 h1 => ?_) hJ
        rw [hbd]
        have hE : RL.upd (RL.upd ee 8 (.pointer (some ⟨b8, 0, none⟩))) 10 (.int .i64 ((p : Nat) : Int)) = ee := by
          rw [upd_self (RL.upd ee 8 (.pointer (some ⟨b8, 0, none⟩))) (by rw [RL.upd_ne _ _ (by decide)]; exact e10), upd_self ee e8]
        rw [← hE]
        refine LdO.cell1 (q.cellL hm rfl) ?_
        refine LdO.cell1 q.left ?_
        refine CondT.dec (fun hz => ?_) (fun hz => ?_)
        · exact h0 hz _
        · refine LdO.cell1 (q.cellL hm rfl) ?_
          refine (h1 hz).mono ?_; intro v w q
          exact q _
      · refine hJ.elim fun k q => ?_
        exact q.2.2.cellL (.tail _ (.tail _ (.head _))) rfl
      intro v w2 hZ
      refine hZ.elim fun k q => ?_
      have h0 := q.1; have q3 := q.2; clear q
      refine ⟨{ r with state := .done, pending := some (.exit 2) }, _, q3.mem (p := (lp, .loop { r with state := .done, pending := some (.exit 2) })) (.head _), (by intro h; cases h), rfl, ?_⟩
      have q4 : RunC g h D br (stR l cap pks k) (finL lp bd b1 b8 br l.length { r with state := .exhausted, pending := some (.exit 2) } L) (w2.putObj lp (.loop { r with state := .exhausted, pending := some (.exit 2) })) := RunW.put q3 _
      have hend := stR_end hF h0
      refine q4.elim fun h3 q => q.elim fun V3 q => q.elim fun bt3 q => q.elim fun c3 q => q.elim fun tvs3 q => q.elim fun R3 q => ?_
      have hle3 := q.1; have hk3 := q.2.2.1; have H := q.2.2.2; clear q
      have hb8 : ∀ {w : World}, St g h3 w (runB br D bt3 tvs3.length R3 (stR l cap pks k).left (stR l cap pks k).picks :: thB bt3 c3 :: (R3.mx ++ (R3.dx ++ (tvs3.flatMap TV.blocks ++ stoL D V3 (stR l cap pks k).sto (finL lp bd b1 b8 br l.length { r with state := .exhausted, pending := some (.exit 2) } L))))) →
          w.cell? ⟨b8, 0, none⟩ = some (.pointer (some ⟨br, 0, none⟩)) := fun {w} H => by
        refine H.mcell (b := b8) (c := #[.pointer (some ⟨br, 0, none⟩)]) (e := 53) (fz := (0, 0)) ?_ rfl
        rw [stoL_eq]
        unfold finL
        simp
      refine DrawO.wi H (fun w => w.cell? ⟨b8, 0, none⟩ = some (.pointer (some ⟨br, 0, none⟩)) ∧ w.cell? ⟨br, 3, none⟩ = some (.slice R3.da R3.dps.length R3.dc) ∧ w.cell? ⟨br, 5, none⟩ = some (.int .i64 (stR l cap pks k).picks)) (fun w H => ⟨hb8 H, H.ocell .head rfl, H.ocell .head rfl⟩) (pl [0, 1, 2, 3, 4, 5, 6, 7, 8, 9] .nil) (by kernel_rfl) fun w H => ?_
      refine LdQ.cell (fun _ hs => hs.1) ?_
      refine LdQ.cell (fun _ hs => hs.2.1) ?_
      refine LdQ.cell (fun _ hs => hs.1) ?_
      refine LdQ.cell (fun _ hs => hs.2.2) ?_
      have hbd3 : w.heap[bd]? = some (.deferred (some [])) := by
        refine H.own (bd, .deferred (some [])) ?_
        rw [stoL_eq]
        unfold finL
        simp
      refine ⟨hbd3, ?_⟩
      have fin : FinishP g h (finishM cap (l.map SP.cs) pks B) L (.tuple #[.slice R3.da R3.dps.length R3.dc, .int .i64 (stR l cap pks k).picks]) (w.putObj bd (.deferred none)) := by
        rw [← hend]
        have H2 : St g h3 w ((bd, .deferred (some [])) :: (R3.dx ++ (([runB br D bt3 tvs3.length R3 (stR l cap pks k).left (stR l cap pks k).picks, thB bt3 c3, (lp, .loop { r with state := .exhausted, pending := some (.exit 2) }), (b1, .cells #[.int .i64 (l.length : Int)] 3 (0, 0)), (b8, .cells #[.pointer (some ⟨br, 0, none⟩)] 53 (0, 0))] ++ (R3.mx ++ (tvs3.flatMap TV.blocks ++ stoB D V3 (stR l cap pks k).sto))) ++ L))) := by
          refine H.perm (perm_of_sum fun f => ?_)
          unfold finL
          simp only [List.map_append, List.map_cons, List.map_nil, List.sum_append, List.sum_cons, List.sum_nil, sto_sum]; omega
        have H3 := H2.setObj .head (.deferred none)
        have H3 := H3.tail
        obtain ⟨h4, hle4, H4, hs4⟩ := OwnSl.sealIt hk3.R.done H3
        exact ⟨h4, _, R3.dps, Hp.le_trans hle3 hle4, rfl, ⟨hs4, fun d hd => (hk3.R.dok d hd).le hle4⟩, hk3.R.dps, H4.sub (List.sublist_append_right _ _)⟩
      exact fin
  · have hie : i = pks.length := by have h5 : ¬ (i : Int) < pks.length := hge; omega
    have q : RunC g h D br (stP l cap pks pks.length) ((b8, .cells #[.pointer (some ⟨br, 0, none⟩)] 53 (0, 0)) :: L) w := by rw [← hie]; exact q
    refine CondT.mk ?_
    refine (ilForever q l.length).mono ?_; intro v w q
    refine q.elim fun b1 q => ?_
    have hv := q.1; have q2 := q.2; clear q
    subst hv
    refine q2.elim fun h1 q => q.elim fun V q => q.elim fun bt q => q.elim fun c q => q.elim fun tvs q => q.elim fun R q => ?_
    have hle := q.1; have hv := q.2.1; have hk := q.2.2.1; have H := q.2.2.2; clear q q2
    refine RangeO.of tabOk H rfl Tryz.func46 rfl (by kernel_rfl) ?_
    intro lp bd r w1 hst1 hpd hps ha hbd he hsz H
    have q : RunC g h D br (stP l cap pks pks.length) (finL lp bd b1 b8 br l.length r L) w1 := by
      refine ⟨h1, V, bt, c, tvs, R, hle, hv, hk, H.perm (perm_of_sum fun f => ?_)⟩
      unfold finL
      simp only [List.map_append, List.map_cons, List.sum_append, List.sum_cons, sto_sum]
      omega
    have q : RunC g h D br (stR l cap pks 0) (finL lp bd b1 b8 br l.length r L) w1 := q
    refine (forever1 (n := l.length) hl1 hl2 (finJ g h D br lp bd b1 b8 l cap pks r L) (finZ g h D br lp bd b1 b8 l cap pks r L) (finM br (stR l cap pks 0).picks B) (fun p w hp hJ => ?_) (fun p w hJ => ?_) ⟨0, by rw [Nat.zero_mod], by omega, q⟩).mono ?_
    · refine hsz.elim fun sz q => ?_
      have hs1 := q.1; have cc1 := q.2.1; have cc2 := q.2.2; clear q
      refine finRound hF hst1 hpd hps hs1 (by rw [ha]; exact cc1) (by rw [hbd]; exact cc2) (by simp [codeOk, dstOk] at cc2; omega) he rfl (by rw [ha]; rfl) (by rw [hbd]; rfl) (fun {Q ee w} hq => by rw [ha]; exact hq) (fun {Q ee p r0 L0 w} e8 e10 q hm h0 h1 => ?_) hJ
      rw [hbd]
      have hE : RL.upd (RL.upd ee 8 (.pointer (some ⟨b8, 0, none⟩))) 10 (.int .i64 ((p : Nat) : Int)) = ee := by
        rw [upd_self (RL.upd ee 8 (.pointer (some ⟨b8, 0, none⟩))) (by rw [RL.upd_ne _ _ (by decide)]; exact e10), upd_self ee e8]
      rw [← hE]
      refine LdO.cell1 (q.cellL hm rfl) ?_
      refine LdO.cell1 q.left ?_
      refine CondT.dec (fun hz => ?_) (fun hz => ?_)
      · exact h0 hz _
      · refine LdO.cell1 (q.cellL hm rfl) ?_
        refine (h1 hz).mono ?_; intro v w q
        exact q _
    · refine hJ.elim fun k q => ?_
      exact q.2.2.cellL (.tail _ (.tail _ (.head _))) rfl
    intro v w2 hZ
    refine hZ.elim fun k q => ?_
    have h0 := q.1; have q3 := q.2; clear q
    refine ⟨{ r with state := .done, pending := some (.exit 2) }, _, q3.mem (p := (lp, .loop { r with state := .done, pending := some (.exit 2) })) (.head _), (by intro h; cases h), rfl, ?_⟩
    have q4 : RunC g h D br (stR l cap pks k) (finL lp bd b1 b8 br l.length { r with state := .exhausted, pending := some (.exit 2) } L) (w2.putObj lp (.loop { r with state := .exhausted, pending := some (.exit 2) })) := RunW.put q3 _
    have hend := stR_end hF h0
    refine q4.elim fun h3 q => q.elim fun V3 q => q.elim fun bt3 q => q.elim fun c3 q => q.elim fun tvs3 q => q.elim fun R3 q => ?_
    have hle3 := q.1; have hk3 := q.2.2.1; have H := q.2.2.2; clear q
    have hb8 : ∀ {w : World}, St g h3 w (runB br D bt3 tvs3.length R3 (stR l cap pks k).left (stR l cap pks k).picks :: thB bt3 c3 :: (R3.mx ++ (R3.dx ++ (tvs3.flatMap TV.blocks ++ stoL D V3 (stR l cap pks k).sto (finL lp bd b1 b8 br l.length { r with state := .exhausted, pending := some (.exit 2) } L))))) →
        w.cell? ⟨b8, 0, none⟩ = some (.pointer (some ⟨br, 0, none⟩)) := fun {w} H => by
      refine H.mcell (b := b8) (c := #[.pointer (some ⟨br, 0, none⟩)]) (e := 53) (fz := (0, 0)) ?_ rfl
      rw [stoL_eq]
      unfold finL
      simp
    refine DrawO.wi H (fun w => w.cell? ⟨b8, 0, none⟩ = some (.pointer (some ⟨br, 0, none⟩)) ∧ w.cell? ⟨br, 3, none⟩ = some (.slice R3.da R3.dps.length R3.dc) ∧ w.cell? ⟨br, 5, none⟩ = some (.int .i64 (stR l cap pks k).picks)) (fun w H => ⟨hb8 H, H.ocell .head rfl, H.ocell .head rfl⟩) (pl [0, 1, 2, 3, 4, 5, 6, 7, 8, 9] .nil) (by kernel_rfl) fun w H => ?_
    refine LdQ.cell (fun _ hs => hs.1) ?_
    refine LdQ.cell (fun _ hs => hs.2.1) ?_
    refine LdQ.cell (fun _ hs => hs.1) ?_
    refine LdQ.cell (fun _ hs => hs.2.2) ?_
    have hbd3 : w.heap[bd]? = some (.deferred (some [])) := by
      refine H.own (bd, .deferred (some [])) ?_
      rw [stoL_eq]
      unfold finL
      simp
    refine ⟨hbd3, ?_⟩
    have fin : FinishP g h (finishM cap (l.map SP.cs) pks B) L (.tuple #[.slice R3.da R3.dps.length R3.dc, .int .i64 (stR l cap pks k).picks]) (w.putObj bd (.deferred none)) := by
      rw [← hend]
      have H2 : St g h3 w ((bd, .deferred (some [])) :: (R3.dx ++ (([runB br D bt3 tvs3.length R3 (stR l cap pks k).left (stR l cap pks k).picks, thB bt3 c3, (lp, .loop { r with state := .exhausted, pending := some (.exit 2) }), (b1, .cells #[.int .i64 (l.length : Int)] 3 (0, 0)), (b8, .cells #[.pointer (some ⟨br, 0, none⟩)] 53 (0, 0))] ++ (R3.mx ++ (tvs3.flatMap TV.blocks ++ stoB D V3 (stR l cap pks k).sto))) ++ L))) := by
        refine H.perm (perm_of_sum fun f => ?_)
        unfold finL
        simp only [List.map_append, List.map_cons, List.map_nil, List.sum_append, List.sum_cons, List.sum_nil, sto_sum]; omega
      have H3 := H2.setObj .head (.deferred none)
      have H3 := H3.tail
      obtain ⟨h4, hle4, H4, hs4⟩ := OwnSl.sealIt hk3.R.done H3
      exact ⟨h4, _, R3.dps, Hp.le_trans hle3 hle4, rfl, ⟨hs4, fun d hd => (hk3.R.dok d hd).le hle4⟩, hk3.R.dps, H4.sub (List.sublist_append_right _ _)⟩
    exact fin
end
end Go.Proofs.YtbdoinigeaaclaaGreat
