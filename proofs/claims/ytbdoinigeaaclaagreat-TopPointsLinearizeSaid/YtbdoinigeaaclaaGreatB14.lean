/- Running calls: making them, their results, whether they took effect. Conditions: none.
   Running calls of any kind: making one, one step through the interface. Conditions: as each theorem says. -/
import Derived.Test.YtbdoinigeaaclaaGreatB13
set_option linter.all false
set_option maxRecDepth 20000
namespace Go.Proofs.YtbdoinigeaaclaaGreat
open Go RL PQ
variable {g : World} {h h' : Hp} {w : World} {L : List (Nat × Obj)}
def insNewO (time : Int) : InsOp := ⟨time, some .start, [], none, {}, {}, false⟩
def insNewP : InsP := ⟨none, 0, [], .func (.func 69) #[] #[]⟩
def batNewO (c : PQ.Call) : BatOp := ⟨c, 0, false, ⟨0, 0, 0⟩, 0, false, [], [], {}, false⟩
def batNewP : BatP := ⟨none, 0, [], none, 0, [], none, 0⟩
theorem insNew (H : St g h w L) (D : SD) (t : Int) (c : PQ.Call) : Ret Tryz.prog 57 [.pointer (some ⟨D.bs, 0, none⟩), .int .i64 t, callV c] w fun v w' => ∃ bo h', v = .pointer (some ⟨bo, 0, none⟩) ∧ h.le h' ∧
    St g h' w' (insL D t bo insNewP (insNewO c.time) (.func (.func 70) #[.pointer (some ⟨bo, 0, none⟩)] #[]) false L) := by
  refine Ret.enter tabOk Tryz.func57 rfl (by rfl) rfl (by rfl) (by kernel_rfl) ?_
  refine AllocO.own H fun b5 w H => ?_
  have H : St g h w ((b5, .cells (callL c).toArray 34 (0, 0)) :: L) := H
  refine LdO.own H .head rfl ?_
  refine AllocO.own H fun bo w H => ?_
  refine StO.own H .head rfl rfl rfl fun w H => ?_
  exact ⟨bo, h, rfl, Hp.le_refl h, H.sub (List.Sublist.cons_cons _ (List.sublist_cons_self _ _))⟩
theorem canNew (H : St g h w L) (D : SD) (t : Int) (c : PQ.Call) : Ret Tryz.prog 59 [.pointer (some ⟨D.bs, 0, none⟩), .int .i64 t, callV c] w fun v w' => ∃ bo, v = .pointer (some ⟨bo, 0, none⟩) ∧ St g h w' (canL D t bo ⟨c.handle, 0, 0, false⟩ false L) := by
  refine Ret.enter tabOk Tryz.func59 rfl (by rfl) rfl (by rfl) (by kernel_rfl) ?_
  refine AllocO.own H fun b5 w H => ?_
  have H : St g h w ((b5, .cells (callL c).toArray 34 (0, 0)) :: L) := H
  refine LdO.own H .head rfl ?_
  refine AllocO.own H fun bo w H => ?_
  exact ⟨bo, rfl, H.sub (List.Sublist.cons_cons _ (List.sublist_cons_self _ _))⟩
theorem batNew (H : St g h w L) (D : SD) (t : Int) (c : PQ.Call) : Ret Tryz.prog 61 [.pointer (some ⟨D.bs, 0, none⟩), .int .i64 t, callV c] w fun v w' => ∃ bo, v = .pointer (some ⟨bo, 0, none⟩) ∧ St g h w' (batL D t bo batNewP (batNewO c) false L) := by
  refine Ret.enter tabOk Tryz.func61 rfl (by rfl) rfl (by rfl) (by kernel_rfl) ?_
  refine AllocO.own H fun b5 w H => ?_
  have H : St g h w ((b5, .cells (callL c).toArray 34 (0, 0)) :: L) := H
  refine LdO.owns H .head rfl ?_
  refine AllocO.own H fun bo w H => ?_
  exact ⟨bo, rfl, H.sub (List.Sublist.cons_cons _ (List.sublist_cons_self _ _))⟩
section
variable {D : SD} {V : SV} {s : Sto} {N : Nat} {t : Int} {bo : Nat}
theorem insEffect {P : InsP} {o : InsOp} {nv : Value} {bl : Bool} (H : St g h w (insL D t bo P o nv bl L)) : Ret Tryz.prog 173 [.pointer (some ⟨bo, 0, none⟩)] w fun v w' => v = .bool o.eff ∧ St g h w' (insL D t bo P o nv bl L) := by
  refine Ret.enter tabOk Tryz.func173 rfl (by rfl) rfl (by rfl) (by kernel_rfl) ?_
  refine LdO.own H .head rfl ?_
  exact ⟨rfl, H⟩
theorem canEffect {o : CanOp} {bl : Bool} (H : St g h w (canL D t bo o bl L)) : Ret Tryz.prog 177 [.pointer (some ⟨bo, 0, none⟩)] w fun v w' => v = .bool (decide (o.ph = 2)) ∧ St g h w' (canL D t bo o bl L) := by
  refine Ret.enter tabOk Tryz.func177 rfl (by rfl) rfl (by rfl) (by kernel_rfl) ?_
  refine LdO.own H .head rfl ?_
  exact ⟨rfl, H⟩
theorem batEffect {P : BatP} {o : BatOp} {bl : Bool} (H : St g h w (batL D t bo P o bl L)) : Ret Tryz.prog 191 [.pointer (some ⟨bo, 0, none⟩)] w fun v w' => v = .bool o.eff ∧ St g h w' (batL D t bo P o bl L) := by
  refine Ret.enter tabOk Tryz.func191 rfl (by rfl) rfl (by rfl) (by kernel_rfl) ?_
  refine LdO.own H .head rfl ?_
  exact ⟨rfl, H⟩
theorem insResult {P : InsP} {o : InsOp} {nv : Value} {bl : Bool} (H : St g h w (insL D t bo P o nv bl L)) (hr : o.res.canc = false ∧ o.res.evs = []) : Ret Tryz.prog 174 [.pointer (some ⟨bo, 0, none⟩)] w fun v w' => v = RP.val ⟨o.res, none, 0⟩ ∧ St g h w' (insL D t bo P o nv bl L) := by
  refine Ret.enter tabOk Tryz.func174 rfl (by rfl) rfl (by rfl) (by kernel_rfl) ?_
  refine AllocO.own H fun b w H => ?_
  refine LdO.owns H (.tail .head) rfl ?_
  refine StO.own H .head rfl rfl rfl fun w H => ?_
  refine LdO.owns H .head rfl ?_
  refine ⟨Eq.trans (b := .agg #[.int .i64 o.res.err, .int .i64 o.res.rh, .bool false, .slice none 0 0]) rfl ?_, H.tail⟩
  unfold RP.val RP.row RP.ev
  simp only [hr.1, hr.2]; rfl
theorem canResult {o : CanOp} {bl : Bool} (H : St g h w (canL D t bo o bl L)) : Ret Tryz.prog 178 [.pointer (some ⟨bo, 0, none⟩)] w fun v w' => v = RP.val ⟨{ canc := o.canc }, none, 0⟩ ∧ St g h w' (canL D t bo o bl L) := by
  refine Ret.enter tabOk Tryz.func178 rfl (by rfl) rfl (by rfl) (by kernel_rfl) ?_
  refine AllocO.own H fun b w H => ?_
  refine LdO.owns H (.tail .head) rfl ?_
  refine StO.own H .head rfl rfl rfl fun w H => ?_
  refine LdO.owns H .head rfl ?_
  exact ⟨rfl, H.tail⟩
theorem batResult {P : BatP} {o : BatOp} {bl : Bool} (H : St g h w (batL D t bo P o bl L)) (hr : o.res.canc = false) : Ret Tryz.prog 192 [.pointer (some ⟨bo, 0, none⟩)] w fun v w' => v = RP.val ⟨o.res, P.qa, P.qc⟩ ∧ St g h w' (batL D t bo P o bl L) := by
  refine Ret.enter tabOk Tryz.func192 rfl (by rfl) rfl (by rfl) (by kernel_rfl) ?_
  refine AllocO.own H fun b w H => ?_
  refine LdO.owns H (.tail .head) rfl ?_
  refine StO.own H .head rfl rfl rfl fun w H => ?_
  refine LdO.owns H .head rfl ?_
  refine ⟨Eq.trans (b := .agg #[.int .i64 o.res.err, .int .i64 o.res.rh, .bool false, .slice P.qa o.res.evs.length P.qc]) rfl ?_, H.tail⟩
  unfold RP.val RP.row RP.ev
  simp only [hr]
end
def unkL (bo : Nat) (b : Bool) (R : List (Nat × Obj)) : List (Nat × Obj) := (bo, .cells #[.bool b] 132 (0, 0)) :: R
theorem unkStep {bo : Nat} {b : Bool} (H : St g h w (unkL bo b L)) : Ret Tryz.prog 229 [.pointer (some ⟨bo, 0, none⟩)] w fun v w' => v = .bool true ∧ St g h w' (unkL bo true L) := by
  refine Ret.enter tabOk Tryz.func229 rfl (by rfl) rfl (by rfl) (by kernel_rfl) ?_
  refine StO.own H .head rfl rfl rfl fun w H => ?_
  exact ⟨rfl, H⟩
theorem unkEffect {bo : Nat} {b : Bool} (H : St g h w (unkL bo b L)) : Ret Tryz.prog 227 [.pointer (some ⟨bo, 0, none⟩)] w fun v w' => v = .bool b ∧ St g h w' (unkL bo b L) := by
  refine Ret.enter tabOk Tryz.func227 rfl (by rfl) rfl (by rfl) (by kernel_rfl) ?_
  refine LdO.own H .head rfl ?_
  exact ⟨rfl, H⟩
theorem unkResult {bo : Nat} {b : Bool} (H : St g h w (unkL bo b L)) : Ret Tryz.prog 228 [.pointer (some ⟨bo, 0, none⟩)] w fun v w' => v = RP.val ⟨if b then { err := 1 } else {}, none, 0⟩ ∧ St g h w' (unkL bo b L) := by
  refine Ret.enter tabOk Tryz.func228 rfl (by rfl) rfl (by rfl) (by kernel_rfl) ?_
  refine AllocO.own H fun b2 w H => ?_
  refine LdO.own H (.tail .head) rfl ?_
  cases b with
  | true =>
    refine CondT.of (u := true) rfl ?_
    refine StO.own H .head rfl rfl rfl fun w H => ?_
    refine LdO.owns H .head rfl ?_
    exact ⟨rfl, H.tail⟩
  | false =>
    refine CondT.of (u := false) rfl ?_
    refine StO.own H .head rfl rfl rfl fun w H => ?_
    refine LdO.owns H .head rfl ?_
    exact ⟨rfl, H.tail⟩
end Go.Proofs.YtbdoinigeaaclaaGreat
set_option maxRecDepth 20000
namespace Go.Proofs.YtbdoinigeaaclaaGreat
open Go RL PQ
variable {g : World} {h h' : Hp} {w : World} {L : List (Nat × Obj)}
def ptrV (b : Nat) : Value := .pointer (some ⟨b, 0, none⟩)
/-- A running call in memory. -/
def OpB (D : SD) (h : Hp) (t : Int) (iv : Value) (o : PQ.OpS) (x : List (Nat × Obj)) : Prop :=
  match o with
  | .ins o => ∃ (bo : Nat) (P : InsP) (nv : Value) (bl : Bool), iv = .iface 122 (ptrV bo) ∧ P.ok h bo o ∧ FnI h bo nv o.st ∧ x = insL D t bo P o nv bl []
  | .can o => ∃ (bo : Nat) (bl : Bool), iv = .iface 125 (ptrV bo) ∧ x = canL D t bo o bl []
  | .bat o => ∃ (bo : Nat) (P : BatP) (bl : Bool), iv = .iface 127 (ptrV bo) ∧ P.ok h o ∧ x = batL D t bo P o bl []
  | .unk b => ∃ bo : Nat, iv = .iface 131 (ptrV bo) ∧ x = unkL bo b []
theorem OpB.le {D : SD} {t : Int} {iv : Value} {o : PQ.OpS} {x : List (Nat × Obj)} (q : OpB D h t iv o x) (hl : h.le h') : OpB D h' t iv o x := by
  match o, q with
  | .ins o, ⟨bo, P, nv, bl, q1, q2, q3, q4⟩ => exact ⟨bo, P, nv, bl, q1, q2.le hl, q3.le hl, q4⟩
  | .can o, q => exact q
  | .bat o, ⟨bo, P, bl, q1, q2, q3⟩ => exact ⟨bo, P, bl, q1, q2.le hl, q3⟩
  | .unk b, q => exact q
theorem insL_app (D : SD) (t : Int) (bo : Nat) (P : InsP) (o : InsOp) (nv : Value) (bl : Bool) (R : List (Nat × Obj)) : insL D t bo P o nv bl [] ++ R = insL D t bo P o nv bl R := by unfold insL; simp
theorem batL_app (D : SD) (t : Int) (bo : Nat) (P : BatP) (o : BatOp) (bl : Bool) (R : List (Nat × Obj)) : batL D t bo P o bl [] ++ R = batL D t bo P o bl R := by unfold batL; simp
/-- What a step wants. -/
def StepPre (s : Sto) (K : Int) : PQ.OpS → Prop
  | .ins o => InsPre s o K ∧ ∃ st, o.st = some st
  | .can o => SOk s K ∧ K ≤ 1000000 ∧ (o.ph = 0 ∨ o.ph = 1) ∧ (o.ph = 1 → 0 ≤ o.seen ∧ o.seen ≤ 4 * K + 3)
  | .bat o => BatPre s o K
  | .unk _ => True
section
variable {D : SD} {V : SV} {s : Sto} {N : Nat} {t : Int} {iv : Value} {o : PQ.OpS} {x : List (Nat × Obj)}
/-- A running call and the store in memory. -/
def OpW (g : World) (h : Hp) (D : SD) (t : Int) (iv : Value) (s : Sto) (o : PQ.OpS) (N : Nat) (L : List (Nat × Obj)) (w : World) : Prop :=
  ∃ (h' : Hp) (V : SV) (x : List (Nat × Obj)), h.le h' ∧ V.ok h' s N ∧ OpB D h' t iv o x ∧ St g h' w (x ++ stoL D V s L)
theorem opStep (H : St g h w (x ++ stoL D V s L)) (hv : V.ok h s N) (hb : OpB D h t iv o x) (hN : N ≤ 499970) {K : Int} (hpre : StepPre s K o) :
    InvO Tryz.prog iv "Step" [] w fun v w' => v = .bool (stepO s t o).2.2 ∧ OpW g h D t iv (stepO s t o).1 (stepO s t o).2.1 (N + 3) L w' := by
  match o, hb, hpre with
  | .ins o, ⟨bo, P, nv, bl, q1, q2, q3, q4⟩, ⟨hp, st, hst⟩ =>
    subst q1 q4
    rw [insL_app] at H
    refine InvO.ptr (f := 175) (by kernel_rfl) Tryz.underlying122 ?_
    refine (insStep (D := D) (s := s) (o := o) (t := t) ⟨h, V, P, nv, bl, Hp.le_refl h, hv, q2, q3, H⟩ (by omega) hp hst).mono ?_
    rintro v w ⟨rfl, h', V, P, nv, bl, hl, hv, hp, hf, H⟩
    exact ⟨rfl, h', V, _, hl, hv.mono (by omega), ⟨bo, P, nv, bl, rfl, hp, hf, rfl⟩, by rw [insL_app]; exact H⟩
  | .can o, ⟨bo, bl, q1, q2⟩, ⟨hk, hK, hph, hse⟩ =>
    subst q1 q2
    refine InvO.ptr (f := 179) (by kernel_rfl) Tryz.underlying125 ?_
    refine (canStep (D := D) (s := s) (o := o) (t := t) ⟨h, V, bl, Hp.le_refl h, hv, H⟩ (by omega) hk hK hph hse).mono ?_
    rintro v w ⟨rfl, h', V, bl, hl, hv, H⟩
    exact ⟨rfl, h', V, _, hl, hv.mono (by omega), ⟨bo, bl, rfl, rfl⟩, H⟩
  | .bat o, ⟨bo, P, bl, q1, q2, q3⟩, hp =>
    subst q1 q3
    rw [batL_app] at H
    refine InvO.ptr (f := 193) (by kernel_rfl) Tryz.underlying127 ?_
    refine (batStep (D := D) (s := s) (o := o) (t := t) ⟨h, V, P, bl, Hp.le_refl h, hv, q2, H⟩ hN hp).mono ?_
    rintro v w ⟨rfl, h', V, P, bl, hl, hv, hp, H⟩
    exact ⟨rfl, h', V, _, hl, hv, ⟨bo, P, bl, rfl, hp, rfl⟩, by rw [batL_app]; exact H⟩
  | .unk b, ⟨bo, q1, q2⟩, _ =>
    subst q1 q2
    refine InvO.ptr (f := 229) (by kernel_rfl) Tryz.underlying131 ?_
    refine (unkStep (bo := bo) (b := b) H).mono ?_
    rintro v w ⟨rfl, H⟩
    exact ⟨rfl, h, V, _, Hp.le_refl h, hv.mono (by omega), ⟨bo, rfl, rfl⟩, H⟩
theorem opEffect (H : St g h w (x ++ L)) (hb : OpB D h t iv o x) : InvO Tryz.prog iv "Effect" [] w fun v w' => v = .bool (effO o) ∧ St g h w' (x ++ L) := by
  match o, hb with
  | .ins o, ⟨bo, P, nv, bl, q1, q2, q3, q4⟩ =>
    subst q1 q4
    rw [insL_app] at H ⊢
    refine InvO.ptr (f := 173) (by kernel_rfl) Tryz.underlying122 ?_
    exact insEffect H
  | .can o, ⟨bo, bl, q1, q2⟩ =>
    subst q1 q2
    refine InvO.ptr (f := 177) (by kernel_rfl) Tryz.underlying125 ?_
    exact canEffect H
  | .bat o, ⟨bo, P, bl, q1, q2, q3⟩ =>
    subst q1 q3
    rw [batL_app] at H ⊢
    refine InvO.ptr (f := 191) (by kernel_rfl) Tryz.underlying127 ?_
    exact batEffect H
  | .unk b, ⟨bo, q1, q2⟩ =>
    subst q1 q2
    refine InvO.ptr (f := 227) (by kernel_rfl) Tryz.underlying131 ?_
    exact unkEffect H
/-- The result; the call's blocks are let go. -/
theorem opResult (H : St g h w (x ++ L)) (hb : OpB D h t iv o x) : InvO Tryz.prog iv "Result" [] w fun v w' => ∃ (h' : Hp) (p : RP), h.le h' ∧ p.r = resO o ∧ p.ok h' ∧ v = p.val ∧ St g h' w' L := by
  match o, hb with
  | .ins o, ⟨bo, P, nv, bl, q1, q2, q3, q4⟩ =>
    subst q1 q4
    have hsub : L.Sublist (insL D t bo P o nv bl [] ++ L) := List.sublist_append_right _ _
    rw [insL_app] at H hsub
    refine InvO.ptr (f := 174) (by kernel_rfl) Tryz.underlying122 ?_
    refine (insResult H q2.res).mono ?_
    rintro v w ⟨rfl, H⟩
    refine ⟨h, ⟨o.res, none, 0⟩, Hp.le_refl h, rfl, ?_, rfl, H.sub hsub⟩
    show EvS h (.slice none o.res.evs.length 0) o.res.evs
    rw [q2.res.2]; exact Sl.nil h 2
  | .can o, ⟨bo, bl, q1, q2⟩ =>
    subst q1 q2
    refine InvO.ptr (f := 178) (by kernel_rfl) Tryz.underlying125 ?_
    refine (canResult H).mono ?_
    rintro v w ⟨rfl, H⟩
    exact ⟨h, ⟨{ canc := o.canc }, none, 0⟩, Hp.le_refl h, rfl, Sl.nil h 2, rfl, H.tail⟩
  | .bat o, ⟨bo, P, bl, q1, q2, q3⟩ =>
    subst q1 q3
    rw [batL_app] at H
    refine InvO.ptr (f := 192) (by kernel_rfl) Tryz.underlying127 ?_
    refine (batResult H q2.rc).mono ?_
    rintro v w ⟨rfl, H⟩
    rcases q2.rv with ⟨r1, r2, r3⟩ | ⟨_, _, r1, r2, r3⟩
    · refine ⟨h, ⟨o.res, P.qa, P.qc⟩, Hp.le_refl h, rfl, ?_, rfl, H.sub ?_⟩
      · show EvS h (.slice P.qa o.res.evs.length P.qc) o.res.evs
        rw [r1, r2, r3]; exact Sl.nil h 2
      · unfold batL
        exact List.Sublist.cons _ ((List.sublist_append_right _ _).trans (List.sublist_append_right _ _))
    · have H2 : St g h w (P.y ++ L) := H.sub (List.Sublist.cons _ (List.sublist_append_right _ _))
      obtain ⟨h', hl, H3, hs⟩ := OwnSl.sealIt q2.evs H2
      refine ⟨h', ⟨o.res, P.qa, P.qc⟩, hl, rfl, ?_, rfl, H3⟩
      show EvS h' (.slice P.qa o.res.evs.length P.qc) o.res.evs
      rw [r1, r2, r3]; exact hs
  | .unk b, ⟨bo, q1, q2⟩ =>
    subst q1 q2
    refine InvO.ptr (f := 228) (by kernel_rfl) Tryz.underlying131 ?_
    refine (unkResult H).mono ?_
    rintro v w ⟨rfl, H⟩
    exact ⟨h, ⟨if b then { err := 1 } else {}, none, 0⟩, Hp.le_refl h, rfl, by show EvS h (.slice none _ 0) _; cases b <;> exact Sl.nil h 2, rfl, H.tail⟩
/-- A running call behind its wrapper. -/
def callB (bc : Nat) (iv : Value) (n : Int) : Nat × Obj := (bc, .cells #[iv, .int .i64 n] 99 (0, 0))
theorem callStep {bc : Nat} {n : Int} (H : St g h w (callB bc iv n :: (x ++ stoL D V s L))) (hv : V.ok h s N) (hb : OpB D h t iv o x) (hN : N ≤ 499970) {K : Int} (hpre : StepPre s K o) (hn : 0 ≤ n ∧ n ≤ 1000000000) :
    Ret Tryz.prog 44 [.pointer (some ⟨bc, 0, none⟩)] w fun v w' => v = .bool (stepO s t o).2.2 ∧ OpW g h D t iv (stepO s t o).1 (stepO s t o).2.1 (N + 3) (callB bc iv (n + 1) :: L) w' := by
  refine Ret.enter tabOk Tryz.func44 rfl (by rfl) rfl (by rfl) (by kernel_rfl) ?_
  refine LdO.own H .head rfl ?_
  refine ArO.i64 ?_ (by omega) (by omega)
  refine StO.own H .head rfl rfl rfl fun w H => ?_
  have H : St g h w (callB bc iv (n + 1) :: (x ++ stoL D V s L)) := H
  refine LdO.own H .head rfl ?_
  have H : St g h w (x ++ stoL D V s (callB bc iv (n + 1) :: L)) := by
    refine H.perm ?_
    rw [stoL_eq D V s L, stoL_eq D V s (_ :: L), ← List.append_assoc, ← List.append_assoc]
    exact List.perm_middle.symm
  refine InvO_mono (opStep H hv hb hN hpre) ?_; intro v w q
  exact q
end
end Go.Proofs.YtbdoinigeaaclaaGreat
