/- A batch running: scanning. Conditions: the store is in order; what is peeked lies in a slot. -/
import Derived.Test.YtbdoinigeaaclaaGreatB11
set_option linter.all false
set_option maxRecDepth 20000
namespace Go.Proofs.YtbdoinigeaaclaaGreat
open Go RL PQ
variable {g : World} {h h' : Hp} {w : World} {L : List (Nat × Obj)}
section
variable {D : SD} {V : SV} {s : Sto} {N : Nat} {t : Int} {bo : Nat} {P : BatP} {o : BatOp} {bl : Bool}
/-- What scanning does. -/
def scanB (s : Sto) (o : BatOp) : Sto × BatOp :=
  match (peekS s).2 with
  | none => ((peekS s).1, { o with scanned := true, eff := true })
  | some it =>
    if o.call.bound ≤ it.time ∨ (o.events.length : Int) = o.call.max then ((peekS s).1, { o with scanned := true, eff := true })
    else if stOf (wordS (peekS s).1 (1 + it.slot)) = 3 then dropB (peekS s).1 { o with item := it, word := wordS (peekS s).1 (1 + it.slot), claim := false }
    else ((peekS s).1, { o with item := it, word := wordS (peekS s).1 (1 + it.slot), claim := true })
theorem app4 (c p : Nat × Obj) (x y R : List (Nat × Obj)) : c :: p :: (x ++ (y ++ R)) = (c :: p :: (x ++ y)) ++ R := by simp
theorem batIn2 {c : Nat × Obj} (H : St g h w (c :: batL D t bo P o bl (stoL D V s L))) : St g h w (stoL D V s (c :: batL D t bo P o bl L)) := by
  unfold batL at H ⊢
  rw [app4] at H ⊢
  exact stoIn H
theorem batOut2 {c : Nat × Obj} (H : St g h w (stoL D V s (c :: batL D t bo P o bl L))) : St g h w (c :: batL D t bo P o bl (stoL D V s L)) := by
  unfold batL at H ⊢
  rw [app4] at H ⊢
  exact stoOut H
set_option maxHeartbeats 1000000 in
theorem batScan (H : St g h w (batL D t bo P o bl (stoL D V s L))) (hv : V.ok h s N) (hp : P.ok h o) (hN : N ≤ 499980) {K : Int} (hk : SOk s K) (hK : K ≤ 1000000) (hsc : o.scanned = false) (hl : o.removed.length ≤ 1000)
    (hit : ∀ it, (peekS s).2 = some it → ∃ n : Nat, it.slot = n ∧ n < s.slots.length) :
    Ret Tryz.prog 197 [.pointer (some ⟨bo, 0, none⟩)] w fun _ w' => BatW g h D t bo (scanB s o).1 (scanB s o).2 (N + 3) L w' := by
  refine Ret.enter tabOk Tryz.func197 rfl (by rfl) rfl (by rfl) (by kernel_rfl) ?_
  refine DrawO.wi H (BatS D t bo P o) (fun w H => batS H) (pl [0, 1, 2, 3, 4, 5, 6, 7] (.ll 8 (pl [9, 10, 11, 1012, 1013, 14] .nil) 12 (pl [1008, 9, 10, 11, 1013, 14] .nil))) (by kernel_rfl) fun w H => ?_
  refine LdQ.cell (fun _ hs => hs.1) ?_
  refine LdQ.cell (fun _ hs => hs.2.1) ?_
  refine ⟨?_, ?_⟩
  · refine (stoPeek (StoW.mk (Hp.le_refl h) hv (batIn H)) hk (by omega) t).mono ?_; intro v w q
    have hv2 := q.1; have q2 := q.2; clear q
    subst hv2
    refine q2.go fun h2 V hle hv H => ?_
    have H := batOut H
    refine ⟨batS H, ?_⟩
    refine AllocO.own H fun b2 w H => ⟨batS H.tail, ?_⟩
    refine StO.own H .head rfl rfl rfl fun w H => ⟨batS H.tail, ?_⟩
    have H : St g h2 w ((b2, .cells (itR ((peekS s).2.getD ⟨0, 0, 0⟩)).toArray 157 (0, 0)) :: batL D t bo P o bl (stoL D V (peekS s).1 L)) := H
    refine DrawO.st H (pl [0, 1, 2, 3, 4, 5, 6, 7, 8, 9, 10, 11, 12, 13, 14, 15, 16, 17, 18, 19, 20, 21, 22, 23, 24] .nil) (by kernel_rfl) fun w H => ?_
    cases hpk : (peekS s).2 with
    | none =>
      have hsb : scanB s o = ((peekS s).1, { o with scanned := true, eff := true }) := by unfold scanB; rw [hpk]
      rw [hpk] at H
      refine CondT.of (u := true) rfl ?_
      refine CondT.mk ?_
      refine CondT.mk ?_
      refine StO.own H (.tail .head) rfl rfl rfl fun w H => ?_
      refine StO.own H (.tail .head) rfl rfl rfl fun w H => ?_
      have fin : BatW g h D t bo (scanB s o).1 (scanB s o).2 (N + 3) L w := by
        rw [hsb]
        exact ⟨h2, V, P, bl, hle, hv.mono (by omega), ⟨(hp.le hle).rem.elim .inl fun r => .inr ⟨rfl, r.2⟩, (hp.le hle).evs, .inl (hp.rv.resolve_right (fun r => by rw [hsc] at r; exact Bool.noConfusion r.1)), hp.rc⟩, H.tail⟩
      exact fin
    | some it =>
      rw [hpk] at H
      refine CondT.of (u := false) rfl ?_
      refine LdQ.own .head rfl ?_
      refine LdQ.own (.tail .head) rfl ?_
      refine CondT.dec (fun h1 => ?_) (fun h1 => ?_)
      · have h1' : o.call.bound ≤ it.time := h1
        have hsb : scanB s o = ((peekS s).1, { o with scanned := true, eff := true }) := by unfold scanB; rw [hpk]; exact if_pos (.inl h1')
        refine CondT.mk ?_
        refine StO.own H (.tail .head) rfl rfl rfl fun w H => ?_
        refine StO.own H (.tail .head) rfl rfl rfl fun w H => ?_
        have fin : BatW g h D t bo (scanB s o).1 (scanB s o).2 (N + 3) L w := by
          rw [hsb]
          exact ⟨h2, V, P, bl, hle, hv.mono (by omega), ⟨(hp.le hle).rem.elim .inl fun r => .inr ⟨rfl, r.2⟩, (hp.le hle).evs, .inl (hp.rv.resolve_right (fun r => by rw [hsc] at r; exact Bool.noConfusion r.1)), hp.rc⟩, H.tail⟩
        exact fin
      · have h1' : ¬ o.call.bound ≤ it.time := h1
        refine LdQ.own (.tail .head) rfl ?_
        refine LdQ.own (.tail .head) rfl ?_
        refine CondT.dec (fun h2' => ?_) (fun h2' => ?_)
        · have h2'' : (o.events.length : Int) = o.call.max := h2'
          have hsb : scanB s o = ((peekS s).1, { o with scanned := true, eff := true }) := by unfold scanB; rw [hpk]; exact if_pos (.inr h2'')
          refine StO.own H (.tail .head) rfl rfl rfl fun w H => ?_
          refine StO.own H (.tail .head) rfl rfl rfl fun w H => ?_
          have fin : BatW g h D t bo (scanB s o).1 (scanB s o).2 (N + 3) L w := by
            rw [hsb]
            exact ⟨h2, V, P, bl, hle, hv.mono (by omega), ⟨(hp.le hle).rem.elim .inl fun r => .inr ⟨rfl, r.2⟩, (hp.le hle).evs, .inl (hp.rv.resolve_right (fun r => by rw [hsc] at r; exact Bool.noConfusion r.1)), hp.rc⟩, H.tail⟩
          exact fin
        · have h2'' : ¬ (o.events.length : Int) = o.call.max := h2'
          obtain ⟨n, hn, hns⟩ := hit it hpk
          have hsk := hk.peek
          have hsl2 : (peekS s).1.slots.length = s.slots.length := by rw [show (peekS s).1.slots = s.slots from replS_slots s (peekL s.q)]
          have hwd := hsk.wd it.slot (by omega)
          have hsl := hk.sl
          have hsb : scanB s o = if stOf (wordS (peekS s).1 (1 + it.slot)) = 3 then dropB (peekS s).1 { o with item := it, word := wordS (peekS s).1 (1 + it.slot), claim := false }
            else ((peekS s).1, { o with item := it, word := wordS (peekS s).1 (1 + it.slot), claim := true }) := by
            unfold scanB; rw [hpk]; exact if_neg (by omega)
          refine LdO.owns H .head rfl ?_
          refine StO.own H (.tail .head) rfl rfl rfl fun w H => ?_
          have H : St g h2 w ((b2, .cells (itR it).toArray 157 (0, 0)) :: batL D t bo P { o with item := it } bl (stoL D V (peekS s).1 L)) := H
          refine DrawO.wx H (fun w => BatS D t bo P { o with item := it } w ∧ w.cell? ⟨b2, 2, none⟩ = some (.int .i64 it.slot)) (fun w H => ⟨batS H.tail, H.ocell .head rfl⟩) (fun j => Nat.beq j 16) (by kernel_rfl) (pl [0, 1, 2, 3, 4, 6, 7, 8, 9, 10, 11, 12, 1005, 1013, 14, 15, 1016] .nil) (by kernel_rfl) fun w H => ?_
          refine LdQ.cell (fun _ hs => hs.1.1) ?_
          refine LdQ.cell (fun _ hs => hs.1.2.1) ?_
          refine LdQ.cell (fun _ hs => hs.2) ?_
          refine ArO.i64 ?_ (by omega) (by omega)
          refine (stoMemory (batIn2 H)).mono ?_; intro v w q
          have hv2 := q.1; have H := batOut2 q.2; clear q
          subst hv2
          refine ⟨⟨batS H.tail, H.ocell .head rfl⟩, ?_⟩
          refine (stoLoad (batIn2 H) hv (by omega) t (1 + it.slot)).mono ?_; intro v w q
          have hv2 := q.1; have q2 := q.2; clear q
          subst hv2
          refine q2.go fun h3 V hle3 hv H => ?_
          have H := batOut2 H
          refine ⟨⟨batS H.tail, H.ocell .head rfl⟩, ?_⟩
          refine StO.own H (.tail .head) rfl rfl rfl fun w H => ⟨rfl, ?_⟩
          obtain ⟨z, hz⟩ : ∃ z, z = wordS (peekS s).1 (1 + it.slot) := ⟨_, rfl⟩
          rw [← hz] at hwd hsb
          have H : St g h3 w ((b2, .cells (itR it).toArray 157 (0, 0)) :: batL D t bo P { o with item := it, word := z } bl (stoL D V (peekS s).1 L)) := by rw [hz]; exact H
          refine LdO.own H (.tail .head) rfl ?_
          refine (hState H hwd.1 (by omega)).mono ?_; intro v w q
          have hv2 := q.1; have H := q.2; clear q
          subst hv2
          refine StO.own H (.tail .head) rfl rfl rfl fun w H => ?_
          refine LdO.own H (.tail .head) rfl ?_
          have hle := Hp.le_trans hle hle3
          by_cases h3' : stOf z = 3
          · rw [if_pos h3'] at hsb
            refine CondT.of (u := true) (by rw [h3']; rfl) ?_
            have H : St g h3 w (batL D t bo P { o with item := it, word := z, claim := false } bl (stoL D V (peekS s).1 L)) := by
              have e : decide (stOf z ≠ 3) = false := decide_eq_false (by simp [h3'])
              have H := H.tail
              rw [← e]; exact H
            refine (batDrop H hv ⟨(hp.le hle).rem, (hp.le hle).evs, hp.rv, hp.rc⟩ (by omega) hsk hsc hl).mono ?_; intro v w q
            refine q.elim fun h4 q => q.elim fun V q => q.elim fun P q => q.elim fun bl q => ?_
            have hle4 := q.1; have hv := q.2.1; have hp := q.2.2.1; have H := q.2.2.2; clear q
            have fin : BatW g h D t bo (scanB s o).1 (scanB s o).2 (N + 3) L w := by
              rw [hsb]
              exact ⟨h4, V, P, bl, Hp.le_trans hle hle4, hv.mono (by omega), hp, H⟩
            exact fin
          · rw [if_neg h3'] at hsb
            refine CondT.of (u := false) (by simp [h3']) ?_
            have H : St g h3 w (batL D t bo P { o with item := it, word := z, claim := true } bl (stoL D V (peekS s).1 L)) := by
              have e : decide (stOf z ≠ 3) = true := decide_eq_true h3'
              have H := H.tail
              rw [← e]; exact H
            have fin : BatW g h D t bo (scanB s o).1 (scanB s o).2 (N + 3) L w := by
              rw [hsb]
              exact ⟨h3, V, P, bl, hle, hv.mono (by omega), ⟨(hp.le hle).rem, (hp.le hle).evs, hp.rv, hp.rc⟩, H⟩
            exact fin
  · refine AllocO.own H fun b2 w H => ⟨batS H.tail, ?_⟩
    have H : St g h w ((b2, .cells (itR ⟨0, 0, 0⟩).toArray 157 (0, 0)) :: batL D t bo P o bl (stoL D V s L)) := H
    refine (stoPeek (StoW.mk (Hp.le_refl h) hv (batIn2 H)) hk (by omega) t).mono ?_; intro v w q
    have hv2 := q.1; have q2 := q.2; clear q
    subst hv2
    refine q2.go fun h2 V hle hv H => ?_
    have H := batOut2 H
    refine ⟨batS H.tail, ?_⟩
    refine StO.own H .head rfl rfl rfl fun w H => ⟨batS H.tail, ?_⟩
    have H : St g h2 w ((b2, .cells (itR ((peekS s).2.getD ⟨0, 0, 0⟩)).toArray 157 (0, 0)) :: batL D t bo P o bl (stoL D V (peekS s).1 L)) := H
    refine DrawO.st H (pl [0, 1, 2, 3, 4, 5, 6, 7, 8, 9, 10, 11, 12, 13, 14, 15, 16, 17, 18, 19, 20, 21, 22, 23, 24] .nil) (by kernel_rfl) fun w H => ?_
    cases hpk : (peekS s).2 with
    | none =>
      have hsb : scanB s o = ((peekS s).1, { o with scanned := true, eff := true }) := by unfold scanB; rw [hpk]
      rw [hpk] at H
      refine CondT.of (u := true) rfl ?_
      refine CondT.mk ?_
      refine CondT.mk ?_
      refine StO.own H (.tail .head) rfl rfl rfl fun w H => ?_
      refine StO.own H (.tail .head) rfl rfl rfl fun w H => ?_
      have fin : BatW g h D t bo (scanB s o).1 (scanB s o).2 (N + 3) L w := by
        rw [hsb]
        exact ⟨h2, V, P, bl, hle, hv.mono (by omega), ⟨(hp.le hle).rem.elim .inl fun r => .inr ⟨rfl, r.2⟩, (hp.le hle).evs, .inl (hp.rv.resolve_right (fun r => by rw [hsc] at r; exact Bool.noConfusion r.1)), hp.rc⟩, H.tail⟩
      exact fin
    | some it =>
      rw [hpk] at H
      refine CondT.of (u := false) rfl ?_
      refine LdQ.own .head rfl ?_
      refine LdQ.own (.tail .head) rfl ?_
      refine CondT.dec (fun h1 => ?_) (fun h1 => ?_)
      · have h1' : o.call.bound ≤ it.time := h1
        have hsb : scanB s o = ((peekS s).1, { o with scanned := true, eff := true }) := by unfold scanB; rw [hpk]; exact if_pos (.inl h1')
        refine CondT.mk ?_
        refine StO.own H (.tail .head) rfl rfl rfl fun w H => ?_
        refine StO.own H (.tail .head) rfl rfl rfl fun w H => ?_
        have fin : BatW g h D t bo (scanB s o).1 (scanB s o).2 (N + 3) L w := by
          rw [hsb]
          exact ⟨h2, V, P, bl, hle, hv.mono (by omega), ⟨(hp.le hle).rem.elim .inl fun r => .inr ⟨rfl, r.2⟩, (hp.le hle).evs, .inl (hp.rv.resolve_right (fun r => by rw [hsc] at r; exact Bool.noConfusion r.1)), hp.rc⟩, H.tail⟩
        exact fin
      · have h1' : ¬ o.call.bound ≤ it.time := h1
        refine LdQ.own (.tail .head) rfl ?_
        refine LdQ.own (.tail .head) rfl ?_
        refine CondT.dec (fun h2' => ?_) (fun h2' => ?_)
        · have h2'' : (o.events.length : Int) = o.call.max := h2'
          have hsb : scanB s o = ((peekS s).1, { o with scanned := true, eff := true }) := by unfold scanB; rw [hpk]; exact if_pos (.inr h2'')
          refine StO.own H (.tail .head) rfl rfl rfl fun w H => ?_
          refine StO.own H (.tail .head) rfl rfl rfl fun w H => ?_
          have fin : BatW g h D t bo (scanB s o).1 (scanB s o).2 (N + 3) L w := by
            rw [hsb]
            exact ⟨h2, V, P, bl, hle, hv.mono (by omega), ⟨(hp.le hle).rem.elim .inl fun r => .inr ⟨rfl, r.2⟩, (hp.le hle).evs, .inl (hp.rv.resolve_right (fun r => by rw [hsc] at r; exact Bool.noConfusion r.1)), hp.rc⟩, H.tail⟩
          exact fin
        · have h2'' : ¬ (o.events.length : Int) = o.call.max := h2'
          obtain ⟨n, hn, hns⟩ := hit it hpk
          have hsk := hk.peek
          have hsl2 : (peekS s).1.slots.length = s.slots.length := by rw [show (peekS s).1.slots = s.slots from replS_slots s (peekL s.q)]
          have hwd := hsk.wd it.slot (by omega)
          have hsl := hk.sl
          have hsb : scanB s o = if stOf (wordS (peekS s).1 (1 + it.slot)) = 3 then dropB (peekS s).1 { o with item := it, word := wordS (peekS s).1 (1 + it.slot), claim := false }
            else ((peekS s).1, { o with item := it, word := wordS (peekS s).1 (1 + it.slot), claim := true }) := by
            unfold scanB; rw [hpk]; exact if_neg (by omega)
          refine LdO.owns H .head rfl ?_
          refine StO.own H (.tail .head) rfl rfl rfl fun w H => ?_
          have H : St g h2 w ((b2, .cells (itR it).toArray 157 (0, 0)) :: batL D t bo P { o with item := it } bl (stoL D V (peekS s).1 L)) := H
          refine DrawO.wx H (fun w => BatS D t bo P { o with item := it } w ∧ w.cell? ⟨b2, 2, none⟩ = some (.int .i64 it.slot)) (fun w H => ⟨batS H.tail, H.ocell .head rfl⟩) (fun j => Nat.beq j 16) (by kernel_rfl) (pl [0, 1, 2, 3, 4, 6, 7, 8, 9, 10, 11, 12, 1005, 1013, 14, 15, 1016] .nil) (by kernel_rfl) fun w H => ?_
          refine LdQ.cell (fun _ hs => hs.1.1) ?_
          refine LdQ.cell (fun _ hs => hs.1.2.1) ?_
          refine LdQ.cell (fun _ hs => hs.2) ?_
          refine ArO.i64 ?_ (by omega) (by omega)
          refine (stoMemory (batIn2 H)).mono ?_; intro v w q
          have hv2 := q.1; have H := batOut2 q.2; clear q
          subst hv2
          refine ⟨⟨batS H.tail, H.ocell .head rfl⟩, ?_⟩
          refine (stoLoad (batIn2 H) hv (by omega) t (1 + it.slot)).mono ?_; intro v w q
          have hv2 := q.1; have q2 := q.2; clear q
          subst hv2
          refine q2.go fun h3 V hle3 hv H => ?_
          have H := batOut2 H
          refine ⟨⟨batS H.tail, H.ocell .head rfl⟩, ?_⟩
          refine StO.own H (.tail .head) rfl rfl rfl fun w H => ⟨rfl, ?_⟩
          obtain ⟨z, hz⟩ : ∃ z, z = wordS (peekS s).1 (1 + it.slot) := ⟨_, rfl⟩
          rw [← hz] at hwd hsb
          have H : St g h3 w ((b2, .cells (itR it).toArray 157 (0, 0)) :: batL D t bo P { o with item := it, word := z } bl (stoL D V (peekS s).1 L)) := by rw [hz]; exact H
          refine LdO.own H (.tail .head) rfl ?_
          refine (hState H hwd.1 (by omega)).mono ?_; intro v w q
          have hv2 := q.1; have H := q.2; clear q
          subst hv2
          refine StO.own H (.tail .head) rfl rfl rfl fun w H => ?_
          refine LdO.own H (.tail .head) rfl ?_
          have hle := Hp.le_trans hle hle3
          by_cases h3' : stOf z = 3
          · rw [if_pos h3'] at hsb
            refine CondT.of (u := true) (by rw [h3']; rfl) ?_
            have H : St g h3 w (batL D t bo P { o with item := it, word := z, claim := false } bl (stoL D V (peekS s).1 L)) := by
              have e : decide (stOf z ≠ 3) = false := decide_eq_false (by simp [h3'])
              have H := H.tail
              rw [← e]; exact H
            refine (batDrop H hv ⟨(hp.le hle).rem, (hp.le hle).evs, hp.rv, hp.rc⟩ (by omega) hsk hsc hl).mono ?_; intro v w q
            refine q.elim fun h4 q => q.elim fun V q => q.elim fun P q => q.elim fun bl q => ?_
            have hle4 := q.1; have hv := q.2.1; have hp := q.2.2.1; have H := q.2.2.2; clear q
            have fin : BatW g h D t bo (scanB s o).1 (scanB s o).2 (N + 3) L w := by
              rw [hsb]
              exact ⟨h4, V, P, bl, Hp.le_trans hle hle4, hv.mono (by omega), hp, H⟩
            exact fin
          · rw [if_neg h3'] at hsb
            refine CondT.of (u := false) (by simp [h3']) ?_
            have H : St g h3 w (batL D t bo P { o with item := it, word := z, claim := true } bl (stoL D V (peekS s).1 L)) := by
              have e : decide (stOf z ≠ 3) = true := decide_eq_true h3'
              have H := H.tail
              rw [← e]; exact H
            have fin : BatW g h D t bo (scanB s o).1 (scanB s o).2 (N + 3) L w := by
              rw [hsb]
              exact ⟨h3, V, P, bl, hle, hv.mono (by omega), ⟨(hp.le hle).rem, (hp.le hle).evs, hp.rv, hp.rc⟩, H⟩
            exact fin
end
end Go.Proofs.YtbdoinigeaaclaaGreat
