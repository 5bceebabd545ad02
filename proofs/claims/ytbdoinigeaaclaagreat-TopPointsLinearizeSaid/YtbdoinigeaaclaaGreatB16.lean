/- A workload in memory; finishing a call. Conditions: its slices are short. -/
import Derived.Test.YtbdoinigeaaclaaGreatB15
set_option linter.all false
set_option maxRecDepth 20000
namespace Go.Proofs.YtbdoinigeaaclaaGreat
open Go RL PQ
variable {g : World} {h h' : Hp} {w : World} {L : List (Nat × Obj)}
/-- Where a workload's slices lie. -/
structure RV where
  ma : Option Addr
  mc : Nat
  mx : List (Nat × Obj)
  mks : List (List Value)
  da : Option Addr
  dc : Nat
  dx : List (Nat × Obj)
  dps : List DP
def runRow (D : SD) (bt n : Nat) (R : RV) (left picks : Int) : List Value :=
  [.pointer (some ⟨D.bs, 0, none⟩), .slice (some ⟨bt, 0, none⟩) n n, .slice R.ma R.mks.length R.mc, .slice R.da R.dps.length R.dc, .int .i64 left, .int .i64 picks]
def runB (br : Nat) (D : SD) (bt n : Nat) (R : RV) (left picks : Int) : Nat × Obj := (br, .cells (runRow D bt n R left picks).toArray 59 (0, 0))
def thB (bt : Nat) (c : Array Value) : Nat × Obj := (bt, .cells c 90 (0, 0))
structure RV.ok (h : Hp) (R : RV) (dones : List Done) (m : Nat) : Prop where
  marks : OwnSl 95 11 (.slice R.ma R.mks.length R.mc) R.mks R.mx
  few : R.mks.length ≤ m
  done : OwnSl 40 13 (.slice R.da R.dps.length R.dc) (R.dps.map DP.row) R.dx
  dps : R.dps.map DP.d = dones
  dok : ∀ d ∈ R.dps, EvS h d.ev d.d.res.evs
theorem RV.ok.le {R : RV} {dones : List Done} {m : Nat} (q : R.ok h dones m) (hl : h.le h') : R.ok h' dones m := ⟨q.marks, q.few, q.done, q.dps, fun d hd => (q.dok d hd).le hl⟩
theorem RV.ok.mono {R : RV} {dones : List Done} {m k : Nat} (q : R.ok h dones m) (hl : m ≤ k) : R.ok h dones k := ⟨q.marks, Nat.le_trans q.few hl, q.done, q.dps, q.dok⟩
/-- What stands in a thread's cells behind a call's end. -/
def finTV (V : TV) (now : Int) (p : RP) (ra : Option Addr) (rc : Nat) (rx : List (Nat × Obj)) : TV :=
  { V with t := { V.t with run := none, results := V.t.results ++ [p.r], cur := { V.t.cur with fin := now, res := p.r } }, ra := ra, rc := rc, rx := rx, rps := V.rps ++ [p], ea := p.ea, ec := p.ec }
section
variable {bt br n i m q : Nat} {c : Array Value} {rows : List (List Value)} {V : TV} {D : SD} {R : RV} {left picks now : Int} {dones : List Done} {o : PQ.OpS} {Z : List (Nat × Obj)}
/-- What finishing leaves. -/
def FinP (g : World) (h : Hp) (D : SD) (br bt n i m : Nat) (rows : List (List Value)) (V : TV) (left picks now : Int) (dones : List Done) (o : PQ.OpS) (Z : List (Nat × Obj)) (w : World) : Prop :=
  ∃ (h' : Hp) (c : Array Value) (p : RP) (ra : Option Addr) (rc : Nat) (rx : List (Nat × Obj)) (R : RV), h.le h' ∧ p.r = resO o ∧ p.ok h' ∧
    Rows bt c (rows.set i (finTV V now p ra rc rx).row) n n ∧ OwnSl 38 4 (.slice ra (V.rps.length + 1) rc) ((V.rps ++ [p]).map RP.row) rx ∧
    R.ok h' (dones ++ [{ V.t.cur with fin := now, res := p.r }]) (m + 1) ∧ St g h' w (runB br D bt n R (left - 1) picks :: thB bt c :: (R.mx ++ (R.dx ++ (rx ++ Z))))
set_option maxHeartbeats 1000000 in
theorem ilFinish (H : St g h w (runB br D bt n R left picks :: thB bt c :: (R.mx ++ (R.dx ++ (V.rx ++ (callB V.bc V.iv V.n :: (V.ox ++ Z))))))) (ho : Rows bt c rows n n) (hi : i < rows.length) (hr : rows[i] = V.row)
    (hR : R.ok h dones m) (hV : V.ok h D q) (hrun : V.t.run = some o) (hm : m ≤ 100000) (hd : R.dps.length ≤ 100000) (hrs : V.t.results.length ≤ 100000) (hl : 0 ≤ left ∧ left ≤ 1000000) :
    Ret Tryz.prog 45 [.pointer (some ⟨br, 0, none⟩), .pointer (some ⟨bt, i * 16, none⟩), .int .i64 now] w fun _ w' => FinP g h D br bt n i m rows V left picks now dones o Z w' := by
  have hop := hV.run
  rw [hrun] at hop
  have hptr : rows[i][2]? = some (.pointer (some ⟨V.bc, 0, none⟩)) := by rw [hr]; unfold TV.row; rw [hrun]; rfl
  refine Ret.enter tabOk Tryz.func45 rfl (by rfl) rfl (by rfl) (by kernel_rfl) ?_
  refine LdO.ownE H (.tail .head) ((OwnSl.read ho hi (j := 2) (by decide)).trans hptr) ?_
  have H : St g h w (callB V.bc V.iv V.n :: (V.ox ++ (runB br D bt n R left picks :: thB bt c :: (R.mx ++ (R.dx ++ (V.rx ++ Z)))))) := by
    refine H.perm (perm_of_sum fun f => ?_)
    simp only [List.map_append, List.map_cons, List.sum_append, List.sum_cons]; omega
  refine LdO.own H .head rfl ?_
  refine InvO_mono (opResult H.tail hop.1) ?_; intro v w q
  refine q.elim fun h2 q => q.elim fun p q => ?_
  have hle := q.1; have hp1 := q.2.1; have hp2 := q.2.2.1; have hv := q.2.2.2.1; have H := q.2.2.2.2; clear q
  subst hv
  refine (show ∃ V1, V1 = { V with t := { V.t with cur := { V.t.cur with fin := now } } } from ⟨_, rfl⟩).elim fun V1 hV1 => ?_
  have P1 := OwnSl.part ho hi (j := 15) (vs := [.int .i64 now]) (by show 15 + 1 ≤ 16; decide) rfl (row := V1.row) (by rw [hr, hV1]; rfl)
  refine StO.ownE H (.tail .head) rfl rfl P1.1 rfl fun w H => ?_
  have hi1 : i < (rows.set i V1.row).length := by rw [List.length_set]; exact hi
  refine (show ∃ V2, V2 = { V1 with t := { V1.t with cur := { V1.t.cur with res := p.r } }, ea := p.ea, ec := p.ec } from ⟨_, rfl⟩).elim fun V2 hV2 => ?_
  have P2 := OwnSl.part P1.2 hi1 (j := 9) (vs := p.row) (by show 9 + 4 ≤ 16; decide) rfl (row := V2.row) (by rw [List.getElem_set_self, hV2]; rfl)
  rw [List.set_set] at P2
  refine StO.ownE H (.tail .head) (v := p.val) rfl rfl P2.1 rfl fun w H => ?_
  refine (show ∃ c2, c2 = putA (putA c (i * 16 + 15) [.int .i64 now]) (i * 16 + 9) p.row from ⟨_, rfl⟩).elim fun c2 hc2 => ?_
  have H : St g h2 w (runB br D bt n R left picks :: thB bt c2 :: (R.mx ++ (R.dx ++ (V.rx ++ Z)))) := by rw [hc2]; exact H
  have P2 := P2.2
  rw [← hc2] at P2
  clear hc2 P1 hi1
  have hi2 : i < (rows.set i V2.row).length := by rw [List.length_set]; exact hi
  have hr2 : (rows.set i V2.row)[i] = V2.row := List.getElem_set_self ..
  have hrx : V2.rx = V.rx := by rw [hV2, hV1]
  have hra : V2.row = [.slice V.sa V.t.script.length V.sc, .slice V.ra V.t.results.length V.rc, .pointer (match V.t.run with | some _ => some ⟨V.bc, 0, none⟩ | none => none)] ++ ({ d := { V.t.cur with fin := now, res := p.r }, ea := p.ea, ec := p.ec } : DP).row := by rw [hV2, hV1]; rfl
  have hrpl : V.rps.length = V.t.results.length := by rw [← hV.rps]; simp
  have hown := hV.res
  refine (show ∃ d2 : DP, d2 = { d := { V.t.cur with fin := now, res := p.r }, ea := p.ea, ec := p.ec } from ⟨_, rfl⟩).elim fun d2 hd2 => ?_
  rw [← hd2] at hra
  have hd2r : d2.row.drop 6 = p.row ++ [.int .i64 V.t.cur.beg, .int .i64 V.t.cur.point, .int .i64 now] := by rw [hd2]; rfl
  have hcell : ∀ {w : World} {h : Hp} {A : List (Nat × Obj)} {k : Nat}, St g h w A → At (thB bt c2) k A → w.cell? ⟨bt, i * 16 + 1, none⟩ = some (.slice V.ra V.t.results.length V.rc) := fun {w h A k} H ha => H.ocell ha (by rw [nth_eq, OwnSl.read P2 hi2 (by decide), hr2, hra]; rfl)
  have hres : ∀ {w : World} {h : Hp} {A : List (Nat × Obj)} {k : Nat}, St g h w A → At (thB bt c2) k A → Cells w bt (i * 16 + 9) p.row := fun {w h A k} H ha => by
    have h5 := H.ocells (o := i * 16 + 9) ha 4
    rw [OwnSl.reads P2 hi2 (j := 9) (k := 4) (by decide), hr2, hra] at h5
    have h5 : Cells w bt (i * 16 + 9) ((d2.row.drop 6).take 4) := h5
    rw [hd2r] at h5
    exact h5
  refine DrawO.wx H (fun w => w.cell? ⟨bt, i * 16 + 1, none⟩ = some (.slice V.ra V.t.results.length V.rc) ∧ Cells w bt (i * 16 + 9) p.row) (fun w H => ⟨hcell H (.tail .head), hres H (.tail .head)⟩) (fun j => Nat.beq j 14) (by kernel_rfl) (pl [0, 1, 2, 3, 4, 5, 6, 7, 8, 9, 1010, 1011, 12, 13, 1014] .nil) (by kernel_rfl) fun w H => ?_
  refine LdQ.cell (fun _ hs => hs.1) ?_
  refine LdQ.cellsO (fun _ hs => hs.2) rfl ?_
  refine AllocO.own H fun b33 w H => ⟨⟨hcell H (.tail (.tail .head)), hres H (.tail (.tail .head))⟩, ?_⟩
  have hsrc : Src w 4 (.slice (some ⟨b33, 0, none⟩) 1 1) [p.row] := H.srcOwn .head (by simp [RP.row]) rfl rfl
  have H : St g h2 w ((b33, .cells p.row.toArray 38 (0, 0)) :: runB br D bt n R left picks :: thB bt c2 :: (R.mx ++ (R.dx ++ (V.rx ++ Z)))) := H
  have H : St g h2 w (V.rx ++ ((b33, .cells p.row.toArray 38 (0, 0)) :: runB br D bt n R left picks :: thB bt c2 :: (R.mx ++ (R.dx ++ Z)))) := by
    refine H.perm (perm_of_sum fun f => ?_)
    simp only [List.map_append, List.map_cons, List.sum_append, List.sum_cons]; omega
  refine RunO.apps (n := V.t.results.length) (m := 1) tabOk rfl rfl rfl rfl rfl rfl rfl H hown hsrc (by simp [oneCells, RP.row, RP.ev, Value.oneCell']) (by rw [List.length_map]; exact hrpl) rfl (by omega) fun v w rx ho' H => ?_
  have H : St g h2 w (runB br D bt n R left picks :: thB bt c2 :: (R.mx ++ (R.dx ++ (rx ++ Z)))) := by
    have H : St g h2 w ((b33, .cells p.row.toArray 38 (0, 0)) :: runB br D bt n R left picks :: thB bt c2 :: (R.mx ++ (R.dx ++ (rx ++ Z)))) := by
      refine H.perm (perm_of_sum fun f => ?_)
      simp only [List.map_append, List.map_cons, List.sum_append, List.sum_cons]; omega
    exact H.tail
  refine ⟨⟨hcell H (.tail .head), hres H (.tail .head)⟩, ?_⟩
  have hmap : V.rps.map RP.row ++ [p.row] = (V.rps ++ [p]).map RP.row := by rw [List.map_append]; rfl
  rw [hmap] at ho'
  refine (OwnSl.len ho').elim fun ra q => q.elim fun rc q => ?_
  have q := q.1
  rw [List.length_map, List.length_append] at q
  subst q
  refine (show ∃ V3, V3 = { V2 with t := { V2.t with results := V.t.results ++ [p.r] }, ra := ra, rc := rc, rx := rx, rps := V.rps ++ [p] } from ⟨_, rfl⟩).elim fun V3 hV3 => ?_
  have P3 := OwnSl.part P2 hi2 (j := 1) (vs := [.slice ra (V.rps.length + 1) rc]) (by show 1 + 1 ≤ 16; decide) rfl (row := V3.row) (by rw [hr2, hV3, hV2, hV1]; unfold TV.row; simp only [List.length_append, hrpl]; rfl)
  rw [List.set_set] at P3
  refine StO.ownE H (.tail .head) rfl rfl P3.1 rfl fun w H => ⟨rfl, ?_⟩
  have hi3 : i < (rows.set i V3.row).length := by rw [List.length_set]; exact hi
  have hr3 : (rows.set i V3.row)[i] = V3.row := List.getElem_set_self ..
  refine (show ∃ V4, V4 = finTV V now p ra rc rx from ⟨_, rfl⟩).elim fun V4 hV4 => ?_
  have P4 := OwnSl.part P3.2 hi3 (j := 2) (vs := [.pointer none]) (by show 2 + 1 ≤ 16; decide) rfl (row := V4.row) (by rw [hr3, hV4, hV3, hV2, hV1]; rfl)
  rw [List.set_set] at P4
  refine StO.ownE H (.tail .head) rfl rfl P4.1 rfl fun w H => ?_
  refine (show ∃ c4, c4 = putA (putA c2 (i * 16 + 1) [.slice ra (V.rps.length + 1) rc]) (i * 16 + 2) [.pointer none] from ⟨_, rfl⟩).elim fun c4 hc4 => ?_
  have H : St g h2 w (runB br D bt n R left picks :: thB bt c4 :: (R.mx ++ (R.dx ++ (rx ++ Z)))) := by rw [hc4]; exact H
  have P4 := P4.2
  rw [← hc4] at P4
  clear hc4 P3 hcell hres hi2 hr2 hi3 hr3
  have hi4 : i < (rows.set i V4.row).length := by rw [List.length_set]; exact hi
  have hr4 : (rows.set i V4.row)[i] = V4.row := List.getElem_set_self ..
  have hro4 : V4.row = [.slice V.sa V.t.script.length V.sc, .slice ra (V.t.results ++ [p.r]).length rc, .pointer none] ++ d2.row := by rw [hV4, hd2]; rfl
  refine LdO.own H .head rfl ?_
  refine ArO.i64 ?_ (by omega) (by omega)
  refine StO.own H .head rfl rfl rfl fun w H => ?_
  have H : St g h2 w (runB br D bt n R (left - 1) picks :: thB bt c4 :: (R.mx ++ (R.dx ++ (rx ++ Z)))) := H
  have hd2l : d2.row.length = 13 := rfl
  have hdrow : ∀ {w : World} {h : Hp} {A : List (Nat × Obj)} {k : Nat}, St g h w A → At (thB bt c4) k A → Cells w bt (i * 16 + 3) d2.row := fun {w h A k} H ha => by
    have h5 := H.ocells (o := i * 16 + 3) ha 13
    rw [OwnSl.reads P4 hi4 (j := 3) (k := 13) (by decide), hr4, hro4] at h5
    exact h5
  have hdone := hR.done
  refine DrawO.wx H (fun w => w.cell? ⟨br, 3, none⟩ = some (.slice R.da R.dps.length R.dc) ∧ Cells w bt (i * 16 + 3) d2.row) (fun w H => ⟨H.ocell .head rfl, hdrow H (.tail .head)⟩) (fun j => Nat.beq j 13) (by kernel_rfl) (pl [0, 1, 2, 3, 4, 5, 6, 7, 8, 1009, 1010, 11, 12, 1013] .nil) (by kernel_rfl) fun w H => ?_
  refine LdQ.cell (fun _ hs => hs.1) ?_
  refine LdQ.cellsO (fun _ hs => hs.2) rfl ?_
  refine AllocO.own H fun b56 w H => ⟨⟨H.ocell (.tail .head) rfl, hdrow H (.tail (.tail .head))⟩, ?_⟩
  have hsrc : Src w 13 (.slice (some ⟨b56, 0, none⟩) 1 1) [d2.row] := H.srcOwn .head (by simp [hd2l]) rfl rfl
  have H : St g h2 w ((b56, .cells d2.row.toArray 40 (0, 0)) :: runB br D bt n R (left - 1) picks :: thB bt c4 :: (R.mx ++ (R.dx ++ (rx ++ Z)))) := H
  have H : St g h2 w (R.dx ++ ((b56, .cells d2.row.toArray 40 (0, 0)) :: runB br D bt n R (left - 1) picks :: thB bt c4 :: (R.mx ++ (rx ++ Z)))) := by
    refine H.perm (perm_of_sum fun f => ?_)
    simp only [List.map_append, List.map_cons, List.sum_append, List.sum_cons]; omega
  refine RunO.apps (n := R.dps.length) (m := 1) tabOk rfl rfl rfl rfl rfl rfl rfl H hdone hsrc (by rw [hd2]; simp [oneCells, DP.row, DP.ev, Value.oneCell']) (by rw [List.length_map]) rfl (by omega) fun v w dx hod H => ?_
  have H : St g h2 w (runB br D bt n R (left - 1) picks :: thB bt c4 :: (R.mx ++ (dx ++ (rx ++ Z)))) := by
    have H : St g h2 w ((b56, .cells d2.row.toArray 40 (0, 0)) :: runB br D bt n R (left - 1) picks :: thB bt c4 :: (R.mx ++ (dx ++ (rx ++ Z)))) := by
      refine H.perm (perm_of_sum fun f => ?_)
      simp only [List.map_append, List.map_cons, List.sum_append, List.sum_cons]; omega
    exact H.tail
  refine ⟨⟨H.ocell .head rfl, hdrow H (.tail .head)⟩, ?_⟩
  have hmapd : R.dps.map DP.row ++ [d2.row] = (R.dps ++ [d2]).map DP.row := by rw [List.map_append]; rfl
  rw [hmapd] at hod
  refine (OwnSl.len hod).elim fun da q => q.elim fun dc q => ?_
  have q := q.1
  rw [List.length_map] at q
  subst q
  refine StO.own H .head rfl rfl rfl fun w H => ⟨rfl, ?_⟩
  refine (show ∃ R2, R2 = { R with da := da, dc := dc, dx := dx, dps := R.dps ++ [d2] } from ⟨_, rfl⟩).elim fun R2 hR2 => ?_
  have H : St g h2 w (runB br D bt n R2 (left - 1) picks :: thB bt c4 :: (R2.mx ++ (R2.dx ++ (rx ++ Z)))) := by rw [hR2]; exact H
  have e1 : R2.mks = R.mks := by rw [hR2]
  have hmk : OwnSl 95 11 (.slice R2.ma R2.mks.length R2.mc) R2.mks R2.mx := by rw [hR2]; exact hR.marks
  have hmkl : R2.mks.length ≤ m := by rw [e1]; exact hR.few
  have hd2s : d2.row = [.int .i64 V.t.cur.thread] ++ (callL V.t.cur.call ++ d2.row.drop 6) := by rw [hd2]; rfl
  have hd0 : ∀ {w : World}, Cells w bt (i * 16 + 3) d2.row → w.cell? ⟨bt, i * 16 + 3, none⟩ = some (.int .i64 V.t.cur.thread) := fun hc => by
    have h5 := hc 0 (by rw [hd2l]; decide); rw [hd2s] at h5; exact h5
  have hd1 : ∀ {w : World}, Cells w bt (i * 16 + 3) d2.row → Cells w bt (i * 16 + 3 + 1) (callL V.t.cur.call) := fun hc j hj => by
    have hj' : j < 5 := hj
    have h5 := hc (1 + j) (by rw [hd2l]; omega)
    rw [hd2s, List.getElem?_append_right (by simp), List.getElem?_append_left (by simp [callL]; omega)] at h5
    simp only [List.length_cons, List.length_nil, Nat.zero_add, Nat.add_sub_cancel_left] at h5
    rw [← h5, Nat.add_assoc]
  have hd6 : ∀ {w : World}, Cells w bt (i * 16 + 3) d2.row → Cells w bt (i * 16 + 3 + 6) p.row := fun hc j hj => by
    have hj' : j < 4 := hj
    have h5 := hc (6 + j) (by rw [hd2l]; omega)
    rw [← List.getElem?_drop, hd2r, List.getElem?_append_left (by exact hj)] at h5
    rw [← h5, Nat.add_assoc]
  refine DrawO.wx H (fun w => w.cell? ⟨br, 2, none⟩ = some (.slice R2.ma R2.mks.length R2.mc) ∧ Cells w bt (i * 16 + 3) d2.row) (fun w H => ⟨H.ocell .head rfl, hdrow H (.tail .head)⟩) (fun j => Nat.beq j 25) (by kernel_rfl) (pl [0, 1, 2, 3, 4, 5, 6, 7, 8, 9, 10, 11, 12, 13, 14, 15, 16, 17, 18, 19, 20, 1021, 1022, 23, 24, 1025] .nil) (by kernel_rfl) fun w H => ?_
  refine LdQ.cell (fun _ hs => hs.1) ?_
  refine LdQ.cell (fun _ hs => hd0 hs.2) ?_
  refine LdQ.cellsO (fun _ hs => hd1 hs.2) rfl ?_
  refine LdQ.cellsO (fun _ hs => hd6 hs.2) rfl ?_
  refine AllocO.own H fun b81 w H => ⟨⟨H.ocell (.tail .head) rfl, hdrow H (.tail (.tail .head))⟩, ?_⟩
  refine (show ∃ mrow : List Value, mrow = [.int .i64 2, .int .i64 V.t.cur.thread] ++ (callL V.t.cur.call ++ p.row) from ⟨_, rfl⟩).elim fun mrow hmrow => ?_
  have hml : mrow.length = 11 := by rw [hmrow]; rfl
  have H : St g h2 w ((b81, .cells mrow.toArray 95 (0, 0)) :: runB br D bt n R2 (left - 1) picks :: thB bt c4 :: (R2.mx ++ (R2.dx ++ (rx ++ Z)))) := by rw [hmrow]; exact H
  have hsrc : Src w 11 (.slice (some ⟨b81, 0, none⟩) 1 1) [mrow] := H.srcOwn .head (by simp [hml]) (by simp) rfl
  have H : St g h2 w (R2.mx ++ ((b81, .cells mrow.toArray 95 (0, 0)) :: runB br D bt n R2 (left - 1) picks :: thB bt c4 :: (R2.dx ++ (rx ++ Z)))) := by
    refine H.perm (perm_of_sum fun f => ?_)
    simp only [List.map_append, List.map_cons, List.sum_append, List.sum_cons]; omega
  refine RunO.apps (n := R2.mks.length) (m := 1) tabOk rfl rfl rfl rfl rfl rfl rfl H hmk hsrc (by rw [hmrow]; simp [oneCells, callL, RP.row, RP.ev, Value.oneCell']) rfl rfl (by omega) fun v w mx hom H => ?_
  have H : St g h2 w (runB br D bt n R2 (left - 1) picks :: thB bt c4 :: (mx ++ (R2.dx ++ (rx ++ Z)))) := by
    have H : St g h2 w ((b81, .cells mrow.toArray 95 (0, 0)) :: runB br D bt n R2 (left - 1) picks :: thB bt c4 :: (mx ++ (R2.dx ++ (rx ++ Z)))) := by
      refine H.perm (perm_of_sum fun f => ?_)
      simp only [List.map_append, List.map_cons, List.sum_append, List.sum_cons]; omega
    exact H.tail
  refine ⟨⟨H.ocell .head rfl, hdrow H (.tail .head)⟩, ?_⟩
  refine (OwnSl.len hom).elim fun ma q => q.elim fun mc q => ?_
  have q := q.1
  subst q
  refine StO.own H .head rfl rfl rfl fun w H => ⟨rfl, ?_⟩
  refine ⟨h2, c4, p, ra, rc, rx, { R2 with ma := ma, mc := mc, mx := mx, mks := R2.mks ++ [mrow] }, hle, hp1, hp2, ?_, ?_, ⟨hom, ?_, ?_, ?_, ?_⟩, H⟩
  · rw [← hV4]; exact P4
  · exact ho'
  · show (R2.mks ++ [mrow]).length ≤ m + 1
    rw [List.length_append]; show R2.mks.length + 1 ≤ m + 1; omega
  · rw [hR2]; exact hod
  · rw [hR2]
    show (R.dps ++ [d2]).map DP.d = _
    rw [List.map_append, hR.dps, hd2]; rfl
  · rw [hR2]
    intro d hdm
    rcases List.mem_append.1 hdm with h5 | h5
    · exact (hR.dok d h5).le hle
    · rw [List.mem_singleton] at h5
      subst h5
      rw [hd2]; exact hp2
end
end Go.Proofs.YtbdoinigeaaclaaGreat
