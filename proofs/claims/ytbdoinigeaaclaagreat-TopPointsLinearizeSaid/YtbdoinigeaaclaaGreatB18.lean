/- A workload in memory: one pick of any thread. Conditions: the store is in order; slices are short.
   A workload's start: counting calls, checking, starting. Conditions: the capacity is between 1 and 64; slices are short.
   A workload's start. Conditions: the capacity is between 1 and 64; slices are short.
   The iterator that picks round-robin without end. Conditions: a measure sinks with each round. -/
import Derived.Test.YtbdoinigeaaclaaGreatB17
set_option linter.all false
set_option maxRecDepth 20000
namespace Go.Proofs.YtbdoinigeaaclaaGreat
open Go RL PQ
variable {g : World} {h h' : Hp} {w : World} {L : List (Nat × Obj)}
section
variable {bt br n i m N : Nat} {c c1 : Array Value} {rows : List (List Value)} {T1 : TV} {D : SD} {V : SV} {R1 : RV} {s : Sto} {left picks : Int} {dones : List Done} {X : List (Nat × Obj)}
theorem ilPick0 (H : St g h w (runB br D bt n R1 left picks :: thB bt c1 :: X)) (ho : Rows bt c1 rows n n) (hin : i < n) (hi : i < rows.length) (hr : rows[i] = T1.row) (hp : 0 ≤ picks ∧ picks ≤ 1000000)
    (hrn : T1.t.run = none) (hf : T1.t.results.length = T1.t.script.length) :
    Ret Tryz.prog 21 [.pointer (some ⟨br, 0, none⟩), .int .i64 (i : Int)] w fun _ w' => St g h w' (runB br D bt n R1 left (picks + 1) :: thB bt c1 :: X) := by
  have hrp0 : rows[i][2]? = some (.pointer none) := by rw [hr]; unfold TV.row; rw [hrn]; rfl
  refine Ret.enter tabOk Tryz.func21 rfl (by rfl) rfl (by rfl) (by kernel_rfl) ?_
  refine LdO.own H .head rfl ?_
  refine IdxO.at0 (i := i) rfl hin ?_
  refine LdO.own H .head rfl ?_
  refine LdO.own H .head rfl ?_
  refine ArO.i64 ?_ (by omega) (by omega)
  refine StO.own H .head rfl rfl rfl fun w H => ?_
  have H : St g h w (runB br D bt n R1 left (picks + 1) :: thB bt c1 :: X) := H
  refine LdO.ownE H (.tail .head) ((OwnSl.read ho hi (j := 2) (by decide)).trans hrp0) ?_
  refine CondT.of (u := true) rfl ?_
  refine (thFinished (H.perm (List.Perm.swap _ _ _)) ho hi hr).mono ?_; intro v w q
  have hv2 := q.1; have H := q.2.perm (List.Perm.swap _ _ _); clear q
  subst hv2
  refine CondT.of (u := true) (decide_eq_true hf) ?_
  exact H
structure RunOk (h : Hp) (D : SD) (r : RunS) (tvs : List TV) (bt : Nat) (c : Array Value) (R : RV) (m : Nat) : Prop where
  thr : tvs.map TV.t = r.thrs
  rows : Rows bt c (tvs.map TV.row) tvs.length tvs.length
  tv : ∀ i (hi : i < tvs.length), tvs[i].ok h D i
  n : ∀ T ∈ tvs, T.n ≤ m
  R : R.ok h r.dones m
/-- A workload in memory. -/
def RunW (g : World) (h : Hp) (D : SD) (br : Nat) (r : RunS) (N m : Nat) (L : List (Nat × Obj)) (w : World) : Prop :=
  ∃ (h' : Hp) (V : SV) (bt : Nat) (c : Array Value) (tvs : List TV) (R : RV), h.le h' ∧ V.ok h' r.sto N ∧ RunOk h' D r tvs bt c R m ∧
    St g h' w (runB br D bt tvs.length R r.left r.picks :: thB bt c :: (R.mx ++ (R.dx ++ (tvs.flatMap TV.blocks ++ stoL D V r.sto L))))
/-- What a pick wants of the workload. -/
structure Good (r : RunS) (p : Nat) (K : Int) : Prop where
  step : ∀ t, r.thrs[p]? = some t → (t.run = none ∧ t.results.length = t.script.length) ∨ (PickPre r.sto K t p r.picks ∧ ¬ (t.run = none ∧ t.results.length = t.script.length))
  dones : r.dones.length ≤ 90000
  left : 0 ≤ r.left ∧ r.left ≤ 1000000
  picks : 0 ≤ r.picks ∧ r.picks ≤ 1000000
theorem startT_run (t : Thr) (p : Nat) (now : Int) : ∃ o, (startT t p now).run = some o := by
  unfold startT
  cases h : t.run with
  | none => exact ⟨_, rfl⟩
  | some o => exact ⟨o, h⟩
theorem pickM_done {r : RunS} {p : Nat} {t : Thr} (ht : r.thrs[p]? = some t) (h : t.run = none ∧ t.results.length = t.script.length) : pickM r p = { r with picks := r.picks + 1 } := by
  unfold pickM; rw [ht]; simp [h.1, h.2]
theorem pickM_step {r : RunS} {p : Nat} {t : Thr} {o : PQ.OpS} (ht : r.thrs[p]? = some t) (h : ¬ (t.run = none ∧ t.results.length = t.script.length)) (ho : (startT t p r.picks).run = some o) :
    pickM r p = ⟨(PQ.stepT r.sto (startT t p r.picks) o p r.picks).1, r.thrs.set p (PQ.stepT r.sto (startT t p r.picks) o p r.picks).2.1, (if (PQ.stepT r.sto (startT t p r.picks) o p r.picks).2.2 = true then r.dones ++ [(PQ.stepT r.sto (startT t p r.picks) o p r.picks).2.1.cur] else r.dones), (if (PQ.stepT r.sto (startT t p r.picks) o p r.picks).2.2 = true then r.left - 1 else r.left), r.picks + 1⟩ := by
  unfold pickM
  rw [ht]
  have : ¬ (t.run.isNone = true ∧ t.results.length = t.script.length) := fun q => h ⟨by simpa using q.1, q.2⟩
  simp only [if_neg this, ho]
theorem runPick {r : RunS} (q : RunW g h D br r N m L w) (hi : i < r.thrs.length) {K : Int} (hg : Good r i K) (hN : N ≤ 499970) (hm : m ≤ 90000) :
    Ret Tryz.prog 21 [.pointer (some ⟨br, 0, none⟩), .int .i64 (i : Int)] w fun _ w' => RunW g h D br (pickM r i) (N + 3) (m + 2) L w' := by
  obtain ⟨h', V, bt, c, tvs, R, hle, hv, hk, H⟩ := q
  have htl : tvs.length = r.thrs.length := by rw [← hk.thr]; simp
  have hit : i < tvs.length := by omega
  have hgt : r.thrs[i]? = some tvs[i].t := by rw [← hk.thr, List.getElem?_map, List.getElem?_eq_getElem hit]; rfl
  have hir : i < (tvs.map TV.row).length := by rw [List.length_map]; exact hit
  have hrow : (tvs.map TV.row)[i] = tvs[i].row := List.getElem_map ..
  have hsplit : tvs = tvs.take i ++ tvs[i] :: tvs.drop (i + 1) := by rw [List.getElem_cons_drop hit, List.take_append_drop]
  rcases hg.step _ hgt with hd | ⟨hpr, hnd⟩
  · refine (ilPick0 H hk.rows hit hir hrow hg.picks hd.1 hd.2).mono fun v w H => ?_
    rw [pickM_done hgt hd]
    exact ⟨h', V, bt, c, tvs, R, hle, hv.mono (by omega), ⟨hk.thr, hk.rows, hk.tv, fun T hT => Int.le_trans (hk.n T hT) (by omega), hk.R.mono (by omega)⟩, H⟩
  · obtain ⟨o, ho⟩ := startT_run tvs[i].t i r.picks
    obtain ⟨A, B, T, hA, hT⟩ : ∃ (A B : List TV) (T : TV), tvs = A ++ T :: B ∧ A.length = i ∧ tvs[i] = T := ⟨_, _, _, hsplit, by rw [List.length_take]; omega, rfl⟩
    obtain ⟨hAl, hT⟩ := hT
    have hb : ∀ f : Nat × Obj → Nat, ((tvs.flatMap TV.blocks).map f).sum = ((A.flatMap TV.blocks).map f).sum + ((T.rx.map f).sum + (T.ops.map f).sum + ((B.flatMap TV.blocks).map f).sum) := fun f => by
      rw [hA]; simp only [List.flatMap_append, List.flatMap_cons, TV.blocks, List.map_append, List.sum_append]
    have H2 : St g h' w (runB br D bt tvs.length R r.left r.picks :: thB bt c :: (R.mx ++ (R.dx ++ (T.rx ++ (T.ops ++ (A.flatMap TV.blocks ++ (B.flatMap TV.blocks ++ stoL D V r.sto L))))))) := by
      refine H.perm (perm_of_sum fun f => ?_)
      simp only [List.map_append, List.map_cons, List.sum_append, List.sum_cons, hb f]; omega
    rw [hT] at hrow hgt hpr hnd ho
    have hTok := hk.tv i hit
    rw [hT] at hTok
    have hTn := hk.n T (by rw [← hT]; exact List.getElem_mem hit)
    refine (ilPick H2 hv hk.rows hit hir hrow hk.R hTok hTn hN hpr hm hg.dones hg.left hg.picks rfl ho).mono fun v w q => ?_
    rw [pickM_step hgt hnd ho]
    obtain ⟨h2, V2, c2, T2, R2, f1, f2, f3, f4, f5, f6, f7, f8⟩ := q
    have hset : tvs.set i T2 = A ++ T2 :: B := by rw [hA, ← hAl, List.set_append_right _ _ (Nat.le_refl _), Nat.sub_self]; rfl
    have hsl : (tvs.set i T2).length = tvs.length := List.length_set
    refine ⟨h2, V2, bt, c2, tvs.set i T2, R2, Hp.le_trans hle f1, f2, ⟨?_, ?_, fun j hj => ?_, fun T' hT' => ?_, f7⟩, ?_⟩
    · rw [List.map_set, hk.thr, f6]
    · rw [hsl, List.map_set]; exact f3
    · rw [hsl] at hj
      rw [List.getElem_set]
      split
      · rename_i e; subst e; exact f4
      · exact (hk.tv j hj).le f1
    · rcases List.mem_or_eq_of_mem_set hT' with e | e
      · exact Int.le_trans (hk.n T' e) (by omega)
      · rw [e]; exact f5
    · have hb2 : ∀ f : Nat × Obj → Nat, (((tvs.set i T2).flatMap TV.blocks).map f).sum = ((A.flatMap TV.blocks).map f).sum + ((T2.rx.map f).sum + (T2.ops.map f).sum + ((B.flatMap TV.blocks).map f).sum) := fun f => by
        rw [hset]; simp only [List.flatMap_append, List.flatMap_cons, TV.blocks, List.map_append, List.sum_append]
      rw [hsl]
      refine f8.perm (perm_of_sum fun f => ?_)
      simp only [List.map_append, List.map_cons, List.sum_append, List.sum_cons, hb2 f]; omega
end
end Go.Proofs.YtbdoinigeaaclaaGreat
set_option maxRecDepth 20000
namespace Go.Proofs.YtbdoinigeaaclaaGreat
open Go RL PQ
variable {g : World} {h h' : Hp} {w : World} {L : List (Nat × Obj)}
/-- A script in memory. -/
structure SP where
  sa : Option Addr
  sc : Nat
  cs : List PQ.Call
def SP.row (p : SP) : List Value := [.slice p.sa p.cs.length p.sc]
def SP.ok (h : Hp) (p : SP) : Prop := Sl h 5 (.slice p.sa p.cs.length p.sc) (p.cs.map callL)
structure ScS (h : Hp) (v : Value) (l : List SP) : Prop where
  sl : Sl h 1 v (l.map SP.row)
  ok : ∀ p ∈ l, p.ok h
theorem ScS.le {v : Value} {l : List SP} (q : ScS h v l) (hl : h.le h') : ScS h' v l := ⟨q.sl.le hl, fun p hp => Sl.le (q.ok p hp) hl⟩
def callsN (l : List SP) : Nat := ((l.map SP.cs).map List.length).sum
theorem callsN_take {l : List SP} {i : Nat} (hi : i < l.length) : callsN (l.take (i + 1)) = callsN (l.take i) + l[i].cs.length := by
  unfold callsN
  rw [List.take_succ_eq_append_getElem hi]
  simp only [List.map_append, List.map_cons, List.map_nil, List.sum_append, List.sum_cons, List.sum_nil, Nat.add_zero]
theorem callsN_le {l : List SP} {i : Nat} (hi : i ≤ l.length) : callsN (l.take i) ≤ callsN l := by
  unfold callsN
  conv => rhs; rw [← List.take_append_drop i l]
  simp only [List.map_append, List.sum_append]
  exact Nat.le_add_right _ _
theorem ilCalls (H : St g h w L) {v : Value} {l : List SP} (hs : ScS h v l) (hl : l.length ≤ 1000) (hn : callsN l ≤ 1000000) : Ret Tryz.prog 36 [v] w fun v w' => v = .int .i64 (callsN l) ∧ St g h w' L := by
  refine Ret.enter tabOk Tryz.func36 rfl (by rfl) rfl (by rfl) (by kernel_rfl) ?_
  obtain ⟨a, cap, rfl⟩ := hs.sl.lenM
  refine LoopO.run (σ := Nat) (fun i => [(3, .int .i64 (callsN (l.take i))), (6, .slice a l.length cap), (7, .int .i64 l.length), (8, .int .i64 i)])
    (fun i w => St g h w L ∧ i ≤ l.length) (fun i => l.length - i) 0 (by exact ⟨rfl, rfl, rfl, rfl, trivial⟩) ⟨H, Nat.zero_le _⟩ ?_
  rintro i w e ⟨H, hi⟩
  refine CondT.dec (fun hlt => ?_) (fun hge => ?_)
  · have hlt' : i < l.length := by omega
    refine (hs.sl.idxM hlt').elim fun b q => q.elim fun o q => ?_
    have hidx := q.1; have hrow := q.2; clear q
    refine hidx _ _ _ rfl ?_
    refine LdO.hc (j := 0) H hrow rfl ?_
    have h1 := callsN_take hlt'
    have h2 := callsN_le (l := l) (i := i + 1) hlt'
    have e1 : ((callsN (l.take i) : Nat) : Int) + ((l[i].cs.length : Nat) : Int) = ((callsN (l.take (i + 1)) : Nat) : Int) := by omega
    refine ArO.i64 ?_ (by omega) (by omega)
    refine ArO.i64 ?_ (by omega) (by omega)
    exact ⟨rfl, i + 1, ⟨congrArg (Value.int .i64) e1, rfl, rfl, rfl, trivial⟩, ⟨H, hlt'⟩, by omega⟩
  · have hie : i = l.length := by omega
    have e1 : callsN (l.take i) = callsN l := by rw [hie, List.take_length]
    exact ⟨Eq.trans (b := .int .i64 (callsN (l.take i))) rfl (by rw [e1]), H⟩
theorem ilWithin (H : St g h w L) (a b : Int) : Ret Tryz.prog 39 [.int .i64 a, .int .i64 b] w fun v w' => v = .bool (decide (1 ≤ a) && decide (a ≤ b)) ∧ St g h w' L := by
  refine Ret.enter tabOk Tryz.func39 rfl (by rfl) rfl (by rfl) (by kernel_rfl) ?_
  refine CondT.dec (fun h1 => ?_) (fun h1 => ?_)
  · exact ⟨Eq.trans (b := .bool (decide (a ≤ b))) rfl (by rw [decide_eq_true h1]; rfl), H⟩
  · exact ⟨Eq.trans (b := .bool false) rfl (by rw [decide_eq_false h1]; rfl), H⟩
/-- The scripts fit. -/
theorem ilValid (H : St g h w L) {v : Value} {l : List SP} (hs : ScS h v l) {cap : Int} (h1 : 1 ≤ cap) (h2 : cap ≤ 64) (h3 : 1 ≤ l.length) (h4 : l.length ≤ 64) (h5 : ∀ p ∈ l, p.cs.length ≤ 16) :
    Ret Tryz.prog 19 [.int .i64 cap, v] w fun v w' => v = .bool true ∧ St g h w' L := by
  obtain ⟨a, cp, rfl⟩ := hs.sl.lenM
  refine Ret.enter tabOk Tryz.func19 rfl (by rfl) rfl (by rfl) (by kernel_rfl) ?_
  refine (ilWithin H cap 64).mono ?_; intro v w q
  have hv := q.1; have H := q.2; clear q
  subst hv
  refine CondT.of (u := false) (by rw [decide_eq_true h1, decide_eq_true h2]; rfl) ?_
  refine (ilWithin H l.length 64).mono ?_; intro v w q
  have hv := q.1; have H := q.2; clear q
  subst hv
  refine CondT.of (u := false) (by rw [decide_eq_true (show (1 : Int) ≤ l.length by omega), decide_eq_true (show (l.length : Int) ≤ 64 by omega)]; rfl) ?_
  refine LoopO.run (σ := Nat) (fun i => [(19, .slice a l.length cp), (20, .int .i64 l.length), (21, .int .i64 i)])
    (fun i w => St g h w L ∧ i ≤ l.length) (fun i => l.length - i) 0 (by exact ⟨rfl, rfl, rfl, trivial⟩) ⟨H, Nat.zero_le _⟩ ?_
  rintro i w e ⟨H, hi⟩
  refine CondT.dec (fun hlt => ?_) (fun hge => ?_)
  · have hlt' : i < l.length := by omega
    refine (hs.sl.idxM hlt').elim fun b q => q.elim fun o q => ?_
    have hidx := q.1; have hrow := q.2; clear q
    refine hidx _ _ _ rfl ?_
    refine LdO.hc (j := 0) H hrow rfl ?_
    have h6 := h5 l[i] (List.getElem_mem hlt')
    refine CondT.of (u := false) (decide_eq_false (by show ¬ (16 : Int) < (l[i].cs.length : Nat); omega)) ?_
    refine ArO.i64 ?_ (by omega) (by omega)
    exact ⟨rfl, i + 1, ⟨rfl, rfl, rfl, trivial⟩, ⟨H, hlt'⟩, by omega⟩
  · exact ⟨rfl, H⟩
end Go.Proofs.YtbdoinigeaaclaaGreat
set_option maxRecDepth 20000
namespace Go.Proofs.YtbdoinigeaaclaaGreat
open Go RL PQ
variable {g : World} {h h' : Hp} {w : World} {L : List (Nat × Obj)}
def TV0 : TV := ⟨⟨[], [], none, done0⟩, none, 0, none, 0, [], [], 0, .nilIface, 0, [], none, 0⟩
def TVs (p : SP) : TV := { TV0 with t := ⟨p.cs, [], none, done0⟩, sa := p.sa, sc := p.sc }
theorem TVs.ok {D : SD} {i : Nat} {p : SP} (hp : p.ok h) : (TVs p).ok h D i := ⟨hp, OwnSl.nil _ _, rfl, fun r hr => absurd hr List.not_mem_nil, Sl.nil h 2, trivial⟩
def runRow0 (D : SD) (bt n : Nat) (k : Int) : List Value := [.pointer (some ⟨D.bs, 0, none⟩), .slice (some ⟨bt, 0, none⟩) n n, .slice none 0 0, .slice none 0 0, .int .i64 k, .int .i64 0]
def R0 : RV := ⟨none, 0, [], [], none, 0, [], []⟩
theorem rows_step {l : List SP} {n i : Nat} (hi : i < l.length) (hn : l.length = n) : ((l.take i).map (fun p => (TVs p).row) ++ List.replicate (n - i) TV0.row).set i (TVs l[i]).row = (l.take (i + 1)).map (fun p => (TVs p).row) ++ List.replicate (n - (i + 1)) TV0.row := by
  have h1 : ((l.take i).map (fun p => (TVs p).row)).length = i := by rw [List.length_map, List.length_take]; omega
  have h2 : n - i = (n - (i + 1)) + 1 := by omega
  rw [List.set_append_right _ _ (by rw [h1]; exact Nat.le_refl i), h1, Nat.sub_self, h2, List.replicate_succ, List.set_cons_zero, List.take_succ_eq_append_getElem hi, List.map_append, List.append_assoc]
  rfl
theorem rows_at {l : List SP} {n i : Nat} (hi : i < n) (hl : l.length = n) : ∃ hx, ((l.take i).map (fun p => (TVs p).row) ++ List.replicate (n - i) TV0.row)[i]'hx = TV0.row := by
  have h1 : ((l.take i).map (fun p => (TVs p).row)).length = i := by rw [List.length_map, List.length_take]; omega
  have hx : i < ((l.take i).map (fun p => (TVs p).row) ++ List.replicate (n - i) TV0.row).length := by rw [List.length_append, h1, List.length_replicate]; omega
  refine ⟨hx, ?_⟩
  rw [List.getElem_append_right (by rw [h1]; exact Nat.le_refl i)]
  exact List.getElem_replicate ..
theorem rows_len {l : List SP} {n i : Nat} (hi : i ≤ n) (hl : l.length = n) : ((l.take i).map (fun p => (TVs p).row) ++ List.replicate (n - i) TV0.row).length = n := by
  rw [List.length_append, List.length_map, List.length_take, List.length_replicate]; omega
/-- What starting leaves. -/
def StartP (g : World) (h : Hp) (cap : Nat) (l : List SP) (L : List (Nat × Obj)) (v : Value) (w : World) : Prop :=
  ∃ (D : SD) (br : Nat), v = .pointer (some ⟨br, 0, none⟩) ∧ RunW g h D br (startM cap (l.map SP.cs)) 0 0 L w
theorem zero_rows (n : Nat) {bt : Nat} : Rows bt (RL.repL n TV0.row).toArray (List.replicate n TV0.row) n n := by
  refine ⟨fun r hr => ?_, .inr ⟨bt, _, n, by rw [List.length_replicate], by rw [List.length_replicate]; exact Nat.le_refl n, ?_, ?_, rfl⟩⟩
  · rw [List.eq_of_mem_replicate hr]; exact ⟨rfl, rfl⟩
  · rw [List.size_toArray, repL_length]; rfl
  · rw [List.length_replicate, repL_flat]
    exact List.take_of_length_le (by rw [List.length_flatten]; simp; exact Nat.le_refl _)
structure StS where
  i : Nat
  c : Array Value
set_option maxHeartbeats 1000000 in
theorem ilStart (H : St g h w L) {v : Value} {l : List SP} (hs : ScS h v l) {cap : Nat} (h1 : 1 ≤ cap) (h2 : cap ≤ 64) (h3 : 1 ≤ l.length) (h4 : l.length ≤ 64) (h5 : callsN l ≤ 1000000) :
    Ret Tryz.prog 20 [.int .i64 (cap : Int), v] w (StartP g h cap l L) := by
  have hfin : ∀ (w : World) (c : Array Value) (h2 : Hp) (V : SV) (br bt : Nat) (D : SD) (i : Nat), i = l.length → h.le h2 → V.ok h2 (newS cap) 0 → St g h2 w (runB br D bt l.length R0 (callsN l) 0 :: thB bt c :: stoL D V (newS cap) L) →
      Rows bt c ((l.take i).map (fun p => (TVs p).row) ++ List.replicate (l.length - i) TV0.row) l.length l.length → StartP g h cap l L (.pointer (some ⟨br, 0, none⟩)) w := by
    intro w c h2 V br bt D i hie hle hv H ho
    subst hie
    rw [List.take_length, Nat.sub_self, List.replicate_zero, List.append_nil] at ho
    have hbl : (l.map TVs).flatMap TV.blocks = [] := by
      rw [List.flatMap_eq_nil_iff]
      intro x hx
      rw [List.mem_map] at hx
      obtain ⟨p, _, rfl⟩ := hx
      rfl
    refine ⟨D, br, rfl, h2, V, bt, c, l.map TVs, R0, hle, hv, ⟨?_, ?_, fun j hj => ?_, fun T hT => ?_, ⟨OwnSl.nil _ _, Nat.zero_le _, OwnSl.nil _ _, rfl, fun d hd => absurd hd List.not_mem_nil⟩⟩, ?_⟩
    · rw [List.map_map]; show l.map _ = (l.map SP.cs).map _; rw [List.map_map]; rfl
    · rw [List.length_map, List.map_map]; exact ho
    · rw [List.getElem_map]
      exact TVs.ok (Sl.le (hs.ok _ (List.getElem_mem _)) hle)
    · rw [List.mem_map] at hT
      obtain ⟨p, _, rfl⟩ := hT
      exact Int.le_refl 0
    · rw [hbl, List.length_map]; exact H
  have hby : ti90.bytes * l.length ≤ 281474976710656 := Nat.le_trans (Nat.mul_le_mul_left _ h4) (by decide)
  obtain ⟨a, cp, rfl⟩ := hs.sl.lenM
  refine Ret.enter tabOk Tryz.func20 rfl (by rfl) rfl (by rfl) (by kernel_rfl) ?_
  refine DrawO.wi H (fun _ => True) (fun _ _ => trivial) (pl [0, 2, 3, 5] (.ll 1 (pl [] (.ll 4 (pl [1006, 7, 1008, 9] .nil) 6 (pl [1004, 7, 1008, 9] .nil))) 4 (pl [1001, 1006, 7, 1008, 9] .nil))) (by kernel_rfl) fun w H => ?_
  refine ⟨?_, ?_⟩
  · refine (storeNew H h1 h2).mono ?_; intro v w q
    refine q.elim fun D q => ?_
    have hv := q.1; have q2 := q.2; clear q
    subst hv
    refine q2.go fun h2 V hle2 hv H => ⟨trivial, ?_⟩
    have hs2 := hs.le hle2
    refine ⟨?_, ?_⟩
    · refine ⟨⟨l.length, l.length, .i64, .i64, rfl, rfl, Nat.le_refl _, by omega, hby, ?_⟩⟩
      refine AllocO.own H fun bt w H => ⟨trivial, ?_⟩
      refine (ilCalls H hs2 (by omega) h5).mono ?_; intro v w q
      have hv3 := q.1; have H := q.2; clear q
      subst hv3
      refine ⟨trivial, ?_⟩
      refine AllocO.own H fun br w H => ⟨trivial, ?_⟩
      have H : St g h2 w (runB br D bt l.length R0 (callsN l) 0 :: thB bt (RL.repL l.length TV0.row).toArray :: stoL D V (newS cap) L) := H
      refine LoopO.run (σ := StS) (fun s => [(5, .pointer (some ⟨br, 0, none⟩)), (17, .slice a l.length cp), (18, .int .i64 l.length), (19, .int .i64 (s.i : Int))])
        (fun s w => St g h2 w (runB br D bt l.length R0 (callsN l) 0 :: thB bt s.c :: stoL D V (newS cap) L) ∧ s.i ≤ l.length ∧ Rows bt s.c ((l.take s.i).map (fun p => (TVs p).row) ++ List.replicate (l.length - s.i) TV0.row) l.length l.length)
        (fun s => l.length - s.i) ⟨0, (RL.repL l.length TV0.row).toArray⟩ (by exact ⟨rfl, rfl, rfl, rfl, trivial⟩) ⟨H, Nat.zero_le _, by rw [List.take_zero]; exact zero_rows _⟩ ?_
      rintro ⟨i, c⟩ w e ⟨H, hi, ho⟩
      simp only at H hi ho
      refine CondT.dec (fun hlt => ?_) (fun hge => ?_)
      · have hlt' : i < l.length := by simp only at hlt; omega
        refine (hs2.sl.idxM hlt').elim fun b q => q.elim fun oo q => ?_
        have hidx := q.1; have hrow := q.2; clear q
        refine hidx _ _ _ rfl ?_
        refine LdO.hc (j := 0) H hrow rfl ?_
        refine LdO.own H .head rfl ?_
        refine IdxO.at0 (i := i) rfl hlt' ?_
        refine (rows_at hlt' rfl).elim fun hx hz => ?_
        have P1 := OwnSl.part ho hx (j := 0) (vs := [.slice l[i].sa l[i].cs.length l[i].sc]) (by show 0 + 1 ≤ 16; decide) rfl (row := (TVs l[i]).row) (by rw [hz]; rfl)
        rw [rows_step hlt' rfl] at P1
        refine StO.ownE H (.tail .head) rfl rfl P1.1 rfl fun w H => ?_
        refine ArO.i64 ?_ (by omega) (by omega)
        exact ⟨rfl, ⟨i + 1, _⟩, ⟨rfl, rfl, rfl, rfl, trivial⟩, ⟨H, hlt', P1.2⟩, by simp only; omega⟩
      · have hie : i = l.length := by simp only at hge; omega
        have fin : StartP g h cap l L (.pointer (some ⟨br, 0, none⟩)) w := hfin w c h2 V br bt D i hie hle2 hv H ho
        exact fin
    · refine (ilCalls H hs2 (by omega) h5).mono ?_; intro v w q
      have hv3 := q.1; have H := q.2; clear q
      subst hv3
      refine ⟨trivial, ?_⟩
      refine ⟨⟨l.length, l.length, .i64, .i64, rfl, rfl, Nat.le_refl _, by omega, hby, ?_⟩⟩
      refine AllocO.own H fun bt w H => ⟨trivial, ?_⟩
      refine AllocO.own H fun br w H => ⟨trivial, ?_⟩
      have H : St g h2 w (runB br D bt l.length R0 (callsN l) 0 :: thB bt (RL.repL l.length TV0.row).toArray :: stoL D V (newS cap) L) := H
      refine LoopO.run (σ := StS) (fun s => [(5, .pointer (some ⟨br, 0, none⟩)), (17, .slice a l.length cp), (18, .int .i64 l.length), (19, .int .i64 (s.i : Int))])
        (fun s w => St g h2 w (runB br D bt l.length R0 (callsN l) 0 :: thB bt s.c :: stoL D V (newS cap) L) ∧ s.i ≤ l.length ∧ Rows bt s.c ((l.take s.i).map (fun p => (TVs p).row) ++ List.replicate (l.length - s.i) TV0.row) l.length l.length)
        (fun s => l.length - s.i) ⟨0, (RL.repL l.length TV0.row).toArray⟩ (by exact ⟨rfl, rfl, rfl, rfl, trivial⟩) ⟨H, Nat.zero_le _, by rw [List.take_zero]; exact zero_rows _⟩ ?_
      rintro ⟨i, c⟩ w e ⟨H, hi, ho⟩
      simp only at H hi ho
      refine CondT.dec (fun hlt => ?_) (fun hge => ?_)
      · have hlt' : i < l.length := by simp only at hlt; omega
        refine (hs2.sl.idxM hlt').elim fun b q => q.elim fun oo q => ?_
        have hidx := q.1; have hrow := q.2; clear q
        refine hidx _ _ _ rfl ?_
        refine LdO.hc (j := 0) H hrow rfl ?_
        refine LdO.own H .head rfl ?_
        refine IdxO.at0 (i := i) rfl hlt' ?_
        refine (rows_at hlt' rfl).elim fun hx hz => ?_
        have P1 := OwnSl.part ho hx (j := 0) (vs := [.slice l[i].sa l[i].cs.length l[i].sc]) (by show 0 + 1 ≤ 16; decide) rfl (row := (TVs l[i]).row) (by rw [hz]; rfl)
        rw [rows_step hlt' rfl] at P1
        refine StO.ownE H (.tail .head) rfl rfl P1.1 rfl fun w H => ?_
        refine ArO.i64 ?_ (by omega) (by omega)
        exact ⟨rfl, ⟨i + 1, _⟩, ⟨rfl, rfl, rfl, rfl, trivial⟩, ⟨H, hlt', P1.2⟩, by simp only; omega⟩
      · have hie : i = l.length := by simp only at hge; omega
        have fin : StartP g h cap l L (.pointer (some ⟨br, 0, none⟩)) w := hfin w c h2 V br bt D i hie hle2 hv H ho
        exact fin
  · refine ⟨⟨l.length, l.length, .i64, .i64, rfl, rfl, Nat.le_refl _, by omega, hby, ?_⟩⟩
    refine AllocO.own H fun bt w H => ⟨trivial, ?_⟩
    refine (storeNew H h1 h2).mono ?_; intro v w q
    refine q.elim fun D q => ?_
    have hv := q.1; have q2 := q.2; clear q
    subst hv
    refine q2.go fun h2 V hle2 hv H => ⟨trivial, ?_⟩
    have hs2 := hs.le hle2
    have H := stoOut (A := [_]) H
    refine (ilCalls H hs2 (by omega) h5).mono ?_; intro v w q
    have hv3 := q.1; have H := q.2; clear q
    subst hv3
    refine ⟨trivial, ?_⟩
    refine AllocO.own H fun br w H => ⟨trivial, ?_⟩
    have H : St g h2 w (runB br D bt l.length R0 (callsN l) 0 :: thB bt (RL.repL l.length TV0.row).toArray :: stoL D V (newS cap) L) := H
    refine LoopO.run (σ := StS) (fun s => [(5, .pointer (some ⟨br, 0, none⟩)), (17, .slice a l.length cp), (18, .int .i64 l.length), (19, .int .i64 (s.i : Int))])
      (fun s w => St g h2 w (runB br D bt l.length R0 (callsN l) 0 :: thB bt s.c :: stoL D V (newS cap) L) ∧ s.i ≤ l.length ∧ Rows bt s.c ((l.take s.i).map (fun p => (TVs p).row) ++ List.replicate (l.length - s.i) TV0.row) l.length l.length)
      (fun s => l.length - s.i) ⟨0, (RL.repL l.length TV0.row).toArray⟩ (by exact ⟨rfl, rfl, rfl, rfl, trivial⟩) ⟨H, Nat.zero_le _, by rw [List.take_zero]; exact zero_rows _⟩ ?_
    rintro ⟨i, c⟩ w e ⟨H, hi, ho⟩
    simp only at H hi ho
    refine CondT.dec (fun hlt => ?_) (fun hge => ?_)
    · have hlt' : i < l.length := by simp only at hlt; omega
      refine (hs2.sl.idxM hlt').elim fun b q => q.elim fun oo q => ?_
      have hidx := q.1; have hrow := q.2; clear q
      refine hidx _ _ _ rfl ?_
      refine LdO.hc (j := 0) H hrow rfl ?_
      refine LdO.own H .head rfl ?_
      refine IdxO.at0 (i := i) rfl hlt' ?_
      refine (rows_at hlt' rfl).elim fun hx hz => ?_
      have P1 := OwnSl.part ho hx (j := 0) (vs := [.slice l[i].sa l[i].cs.length l[i].sc]) (by show 0 + 1 ≤ 16; decide) rfl (row := (TVs l[i]).row) (by rw [hz]; rfl)
      rw [rows_step hlt' rfl] at P1
      refine StO.ownE H (.tail .head) rfl rfl P1.1 rfl fun w H => ?_
      refine ArO.i64 ?_ (by omega) (by omega)
      exact ⟨rfl, ⟨i + 1, _⟩, ⟨rfl, rfl, rfl, rfl, trivial⟩, ⟨H, hlt', P1.2⟩, by simp only; omega⟩
    · have hie : i = l.length := by simp only at hge; omega
      have fin : StartP g h cap l L (.pointer (some ⟨br, 0, none⟩)) w := hfin w c h2 V br bt D i hie hle2 hv H ho
      exact fin
end Go.Proofs.YtbdoinigeaaclaaGreat
set_option maxRecDepth 20000
namespace Go.Proofs.YtbdoinigeaaclaaGreat
open Go RL PQ
variable {g : World} {h h' : Hp} {w : World} {L : List (Nat × Obj)}
theorem forever1 {l b1 n : Nat} (hn : 1 ≤ n) (hn2 : n ≤ 64) (J : Nat → World → Prop) (Z : World → Prop) (μ : World → Nat)
    (hy : ∀ p w, p < n → J p w → YldO Tryz.prog l [.int .i64 (p : Int)] w fun v w' => (v = .bool true ∧ J ((p + 1) % n) w' ∧ μ w' < μ w) ∨ (v = .bool false ∧ Z w'))
    (hc : ∀ p w, J p w → w.cell? ⟨b1, 0, none⟩ = some (.int .i64 (n : Int))) (h0 : J 0 w) : Ret Tryz.prog 46 [yieldV l, .pointer (some ⟨b1, 0, none⟩)] w fun _ w' => Z w' := by
  refine ⟨?_⟩
  rw [callFunc_run Tryz.func46 rfl (by kernel_rfl)]
  simp only [retK]
  refine (callsIn_wide (n := 0)).1 (callsIn_of_wp (F := Fence.wide) Tryz.func46 rfl trivial ?_ rfl)
  refine wpIn_seq (Go.wpIn_mono (TCIn_sound tabOk open_wide (n := 11) _ (fun x e ds w' => x = .normal ∧ ds = [] ∧ e 0 = yieldV l ∧ e 1 = .pointer (some ⟨b1, 0, none⟩) ∧ e 3 = .int .i64 0 ∧ w' = w) rfl rfl (ini [yieldV l, .pointer (some ⟨b1, 0, none⟩)]) [] w _ ⟨rfl, ini_env _ _, rfl⟩ ?_) ?_)
  · exact ⟨rfl, rfl, rfl, rfl, rfl, rfl⟩
  intro x a w1 hx
  cases x with
  | normal =>
    obtain ⟨hz, _, hd, e0, e1, e3, rfl⟩ := hx
    refine wpIn_block (wpIn_loop (fun a w => a.tmps.size = 11 ∧ a.defers = [] ∧ ∃ p, p < n ∧ envOf a 0 = yieldV l ∧ envOf a 1 = .pointer (some ⟨b1, 0, none⟩) ∧ envOf a 3 = .int .i64 ((p : Nat) : Int) ∧ J p w) (fun _ w => μ w) ⟨hz, hd, 0, by omega, e0, e1, e3, h0⟩ ?_)
    rintro a w ⟨hz, hd, p, hp, e0, e1, e3, hJ⟩
    have hf : Fr 11 a (envOf a) [] := ⟨hz, rfl, hd⟩
    refine wpIn_seq (wpIn_seq (wpIn_region_list ?_))
    refine wpListIn_op tabOk open_wide (e := envOf a) rfl rfl rfl ?_
    have hf4 := hf.put (o := ⟨some 4, .move (.tmp 0), 71, "", #[], none⟩) rfl (envOf a 0)
    change wpListIn Fence.wide 0 Tryz.prog _ _ _ (a.put (some 4) (envOf a 0)) w
    refine wpListIn_op tabOk open_wide hf4.env rfl rfl ?_
    have hf5 := hf4.put (o := ⟨some 5, .move (.tmp 3), 3, "", #[], none⟩) rfl (envOf a 3)
    change wpListIn Fence.wide 0 Tryz.prog _ _ _ ((a.put (some 4) (envOf a 0)).put (some 5) (envOf a 3)) w
    refine wpListIn_yield open_wide rfl (l := l) (by rw [eval_eq]; exact (congrFun hf5.env 4).trans e0) ?_
    have hy5 : ((a.put (some 4) (envOf a 0)).put (some 5) (envOf a 3)).eval (.tmp 5) = .int .i64 ((p : Nat) : Int) := by rw [eval_eq]; exact (congrFun hf5.env 5).trans e3
    refine YldO.mono (show YldO Tryz.prog l [((a.put (some 4) (envOf a 0)).put (some 5) (envOf a 3)).eval (.tmp 5)] w _ from by rw [hy5]; exact hy p w hp hJ) ?_
    rintro v w' (⟨rfl, hJ', hμ⟩ | ⟨rfl, hZ⟩)
    · have hf6 := hf5.put (o := ⟨some 6, .move (.tmp 3), 3, "", #[], none⟩) rfl (.bool true)
      refine wpIn_cond_true (by rw [eval_eq]; exact congrFun hf6.env 6) (wpIn_skip ?_)
      refine wpIn_seq (wpIn_block (wpIn_skip ?_))
      refine Go.wpIn_mono (TCIn_sound tabOk open_wide (n := 11) _ (fun x e ds w2 => x = .normal ∧ ds = [] ∧ e 0 = yieldV l ∧ e 1 = .pointer (some ⟨b1, 0, none⟩) ∧ e 3 = .int .i64 (((p + 1) % n : Nat) : Int) ∧ w2 = w') rfl rfl _ [] w' _ hf6 ?_) ?_
      · have e3' : (upo (upo (upo (envOf a) (some 4) (envOf a 0)) (some 5) (envOf a 3)) (some 6) (.bool true)) 3 = .int .i64 ((p : Nat) : Int) := e3
        have e1' : (upo (upo (upo (envOf a) (some 4) (envOf a 0)) (some 5) (envOf a 3)) (some 6) (.bool true)) 1 = .pointer (some ⟨b1, 0, none⟩) := e1
        have e0' : (upo (upo (upo (envOf a) (some 4) (envOf a 0)) (some 5) (envOf a 3)) (some 6) (.bool true)) 0 = yieldV l := e0
        generalize upo (upo (upo (envOf a) (some 4) (envOf a 0)) (some 5) (envOf a 3)) (some 6) (.bool true) = E at e0' e1' e3'
        have hE : upd (upd (upd E 0 (yieldV l)) 1 (.pointer (some ⟨b1, 0, none⟩))) 3 (.int .i64 ((p : Nat) : Int)) = E := by
          rw [upd_self (upd (upd E 0 (yieldV l)) 1 (.pointer (some ⟨b1, 0, none⟩))) (by rw [upd_ne _ _ (by decide), upd_ne _ _ (by decide)]; exact e3'), upd_self (upd E 0 (yieldV l)) (by rw [upd_ne _ _ (by decide)]; exact e1'), upd_self E e0']
        rw [← hE]
        refine ArO.i64 ?_ (by omega) (by omega)
        refine LdO.cell1 (hc _ _ hJ') ?_
        have hpm : ((p : Int) + 1).tmod n = (((p + 1) % n : Nat) : Int) := by
          rw [Int.tmod_eq_emod_of_nonneg (by omega)]; simp
        have hpl : (p + 1) % n < n := Nat.mod_lt _ (by omega)
        refine ⟨⟨by omega, ?_⟩⟩
        show (_ ∧ _)
        refine ⟨rfl, rfl, rfl, rfl, ?_, rfl⟩
        show Value.int .i64 (((p : Int) + 1).tmod n) = _
        rw [hpm]
      · intro x a2 w2 hx
        cases x with
        | normal =>
          obtain ⟨hz2, _, hd2, f0, f1, f3, rfl⟩ := hx
          exact ⟨⟨hz2, hd2, (p + 1) % n, Nat.mod_lt _ (by omega), f0, f1, f3, hJ'⟩, hμ⟩
        | ret => exact absurd hx.2.1 (by intro h; cases h)
        | exit id => exact absurd hx.2.1 (by intro h; cases h)
        | _ => exact hx.elim
    · have hf6 := hf5.put (o := ⟨some 6, .move (.tmp 3), 3, "", #[], none⟩) rfl (.bool false)
      refine wpIn_cond_false (by rw [eval_eq]; exact congrFun hf6.env 6) (wpIn_exit ?_)
      obtain ⟨v, hv, _⟩ := results_run (P := Tryz.prog) (tab := tab) (fn := Tryz.f46) (a := ((a.put (some 4) (envOf a 0)).put (some 5) (envOf a 3)).put (some 6) (.bool false)) (w := w') (K := fun _ => True) tabOk trivial
      exact ⟨hf6.defers, v, hv, v, rfl, hZ⟩
  | ret => exact absurd hx.2.1 (by intro h; cases h)
  | exit id => exact absurd hx.2.1 (by intro h; cases h)
  | _ => exact hx.elim
end Go.Proofs.YtbdoinigeaaclaaGreat
