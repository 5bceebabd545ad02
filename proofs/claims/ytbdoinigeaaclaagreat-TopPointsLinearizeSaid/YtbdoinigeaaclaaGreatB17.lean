/- One pick of a workload. Conditions: the store is in order; slices are short. -/
import Derived.Test.YtbdoinigeaaclaaGreatB16
set_option linter.all false
set_option maxRecDepth 20000
namespace Go.Proofs.YtbdoinigeaaclaaGreat
open Go RL PQ
variable {g : World} {h h' : Hp} {w : World} {L : List (Nat × Obj)}
section
variable {bt br n i m N : Nat} {c c1 : Array Value} {rows : List (List Value)} {T T1 : TV} {D : SD} {V : SV} {R R1 : RV} {s : Sto} {left picks : Int} {dones : List Done} {o : PQ.OpS} {FA FB : List (Nat × Obj)}
/-- What a pick leaves. -/
def PickP (g : World) (h : Hp) (D : SD) (br bt n i m N : Nat) (rows : List (List Value)) (FA FB L : List (Nat × Obj)) (s' : Sto) (t' : Thr) (dones' : List Done) (left' picks' : Int) (w : World) : Prop :=
  ∃ (h' : Hp) (V : SV) (c : Array Value) (T' : TV) (R' : RV), h.le h' ∧ V.ok h' s' N ∧ Rows bt c (rows.set i T'.row) n n ∧ T'.ok h' D i ∧ T'.n ≤ m ∧ T'.t = t' ∧ R'.ok h' dones' m ∧
    St g h' w (runB br D bt n R' left' picks' :: thB bt c :: (R'.mx ++ (R'.dx ++ (T'.rx ++ (T'.ops ++ (FA ++ (FB ++ stoL D V s' L)))))))
/-- What a pick of a thread does. -/
def PickQ (g : World) (h : Hp) (D : SD) (br bt n i m N : Nat) (rows : List (List Value)) (FA FB L : List (Nat × Obj)) (s : Sto) (t1 : Thr) (o : PQ.OpS) (dones : List Done) (left picks : Int) (w : World) : Prop :=
  PickP g h D br bt n i (m + 2) (N + 3) rows FA FB L (PQ.stepT s t1 o i picks).1 (PQ.stepT s t1 o i picks).2.1
    (if (PQ.stepT s t1 o i picks).2.2 = true then dones ++ [(PQ.stepT s t1 o i picks).2.1.cur] else dones) (if (PQ.stepT s t1 o i picks).2.2 = true then left - 1 else left) (picks + 1) w
theorem row_run {T : TV} {o o' : PQ.OpS} (hr : T.t.run = some o) (k : Int) (x : List (Nat × Obj)) : ({ T with t := { T.t with run := some o' }, n := k, ox := x } : TV).row = T.row := by
  unfold TV.row; rw [hr]
def stoB (D : SD) (V : SV) (s : Sto) : List (Nat × Obj) := stoL D V s []
theorem sto_sum (D : SD) (V : SV) (s : Sto) (L : List (Nat × Obj)) (f : Nat × Obj → Nat) : ((stoL D V s L).map f).sum = ((stoB D V s).map f).sum + (L.map f).sum := by
  rw [stoL_eq, List.map_append, List.sum_append]; rfl
/-- What a pick wants of its thread. -/
structure PickPre (s : Sto) (K : Int) (t : Thr) (i : Nat) (picks : Int) : Prop where
  lt : t.run = none → t.results.length < t.script.length
  sm : t.script.length ≤ 1000
  rs : t.results.length ≤ 1000
  step : ∀ o, (startT t i picks).run = some o → StepPre s K o
set_option maxHeartbeats 4000000 in
theorem ilPick (H : St g h w (runB br D bt n R1 left picks :: thB bt c1 :: (R1.mx ++ (R1.dx ++ (T1.rx ++ (T1.ops ++ (FA ++ (FB ++ stoL D V s L)))))))) (hv : V.ok h s N) (ho : Rows bt c1 rows n n) (hin : i < n) (hi : i < rows.length) (hr : rows[i] = T1.row)
    (hR : R1.ok h dones m) (hT : T1.ok h D i) (hTn : T1.n ≤ m) (hN : N ≤ 499970) {K : Int} (hpr : PickPre s K T1.t i picks) (hm : m ≤ 90000) (hd : dones.length ≤ 90000) (hl : 0 ≤ left ∧ left ≤ 1000000) (hp : 0 ≤ picks ∧ picks ≤ 1000000)
    {ts : Thr} (hts : ts = startT T1.t i picks) (hrun : ts.run = some o) :
    Ret Tryz.prog 21 [.pointer (some ⟨br, 0, none⟩), .int .i64 (i : Int)] w fun _ w' => PickQ g h D br bt n i m N rows FA FB L s ts o dones left picks w' := by
  have hpre := hpr.step o (by rw [← hts]; exact hrun)
  refine (show ∃ cl, cl = nextT T1.t from ⟨_, rfl⟩).elim fun cl hcl => ?_
  refine Ret.enter tabOk Tryz.func21 rfl (by rfl) rfl (by rfl) (by kernel_rfl) ?_
  refine LdO.own H .head rfl ?_
  refine IdxO.at0 (i := i) rfl hin ?_
  refine LdO.own H .head rfl ?_
  refine LdO.own H .head rfl ?_
  refine ArO.i64 ?_ (by omega) (by omega)
  refine StO.own H .head rfl rfl rfl fun w H => ?_
  have H : St g h w (runB br D bt n R1 left (picks + 1) :: thB bt c1 :: (R1.mx ++ (R1.dx ++ (T1.rx ++ (T1.ops ++ (FA ++ (FB ++ stoL D V s L))))))) := H
  cases hrn : T1.t.run with
  | some o1 =>
    have hts1 : ts = T1.t := by rw [hts]; unfold startT; rw [hrn]
    have hrun1 : T1.t.run = some o := by rw [← hts1]; exact hrun
    have hrp0 : rows[i][2]? = some (.pointer (some ⟨T1.bc, 0, none⟩)) := by rw [hr]; unfold TV.row; rw [hrn]; rfl
    refine LdO.ownE H (.tail .head) ((OwnSl.read ho hi (j := 2) (by decide)).trans hrp0) ?_
    refine CondT.of (u := false) rfl ?_
    refine CondT.mk ?_
    refine LdO.ownE H (.tail .head) ((OwnSl.read ho hi (j := 2) (by decide)).trans hrp0) ?_
    refine CondT.of (u := false) rfl ?_
    refine (show ∃ h1, h1 = h from ⟨_, rfl⟩).elim fun h1 hh => ?_
    have hT1 : T1.ok h1 D i := by rw [hh]; exact hT
    have hR1 : R1.ok h1 dones (m + 1) := by rw [hh]; exact hR.mono (Nat.le_succ m)
    have hle1 : h.le h1 := by rw [hh]; exact Hp.le_refl h
    have hv1 : V.ok h1 s N := by rw [hh]; exact hv
    rw [← hh] at H
    have hset : rows.set i T1.row = rows := by rw [← hr]; exact List.set_getElem_self hi
    have ho1 : Rows bt c1 (rows.set i T1.row) n n := by rw [hset]; exact ho
    have hops : T1.ops = callB T1.bc T1.iv T1.n :: T1.ox := by unfold TV.ops; rw [hrn]
    rw [hops] at H
    have H : St g h1 w (runB br D bt n R1 left (picks + 1) :: thB bt c1 :: (R1.mx ++ (R1.dx ++ (T1.rx ++ (callB T1.bc T1.iv T1.n :: (T1.ox ++ (FA ++ (FB ++ stoL D V s L)))))))) := H
    have hn1 : T1.n ≤ 1000000000 := by omega
    have hrs : T1.t.results.length ≤ 1000 := hpr.rs
    have hnm : T1.n + 1 ≤ ((m + 2 : Nat) : Int) := by omega
    clear hrp0 ho hr hops hset
    -- the step
    have hop := hT1.run
    rw [hrun1] at hop
    have hi1 : i < (rows.set i T1.row).length := by rw [List.length_set]; exact hi
    have hr1 : (rows.set i T1.row)[i] = T1.row := List.getElem_set_self ..
    have hrp : (rows.set i T1.row)[i][2]? = some (.pointer (some ⟨T1.bc, 0, none⟩)) := by rw [hr1]; unfold TV.row; rw [hrun1]; rfl
    refine LdO.ownE H (.tail .head) ((OwnSl.read ho1 hi1 (j := 2) (by decide)).trans hrp) ?_
    have H : St g h1 w (callB T1.bc T1.iv T1.n :: (T1.ox ++ stoL D V s (runB br D bt n R1 left (picks + 1) :: thB bt c1 :: (R1.mx ++ (R1.dx ++ (T1.rx ++ (FA ++ (FB ++ L)))))))) := by
      refine H.perm (perm_of_sum fun f => ?_)
      simp only [List.map_append, List.map_cons, List.sum_append, List.sum_cons, sto_sum]; omega
    refine (callStep H hv1 hop.1 hN hpre ⟨hop.2, hn1⟩).mono ?_; intro v w q
    have hvs := q.1; have q2 := q.2; clear q
    subst hvs
    refine q2.elim fun h2 q => q.elim fun V2 q => q.elim fun x2 q => ?_
    have hle2 := q.1; have hv2 := q.2.1; have hb2 := q.2.2.1; have H := q.2.2.2; clear q q2
    refine (show ∃ s2, s2 = (stepO s i o).1 from ⟨_, rfl⟩).elim fun s2 hs2 => ?_
    refine (show ∃ o2, o2 = (stepO s i o).2.1 from ⟨_, rfl⟩).elim fun o2 ho2 => ?_
    refine (show ∃ e2, e2 = (stepO s i o).2.2 from ⟨_, rfl⟩).elim fun e2 he2 => ?_
    rw [← hs2] at hv2 H
    rw [← ho2] at hb2
    have hle := Hp.le_trans hle1 hle2
    have hT1 := hT1.le hle2
    have hR1 := hR1.le hle2
    have H : St g h2 w (callB T1.bc T1.iv (T1.n + 1) :: runB br D bt n R1 left (picks + 1) :: thB bt c1 :: (x2 ++ (R1.mx ++ (R1.dx ++ (T1.rx ++ (FA ++ (FB ++ stoL D V2 s2 L))))))) := by
      refine H.perm (perm_of_sum fun f => ?_)
      simp only [List.map_append, List.map_cons, List.sum_append, List.sum_cons, sto_sum]; omega
    -- the effect
    refine LdO.ownE H (.tail (.tail .head)) ((OwnSl.read ho1 hi1 (j := 2) (by decide)).trans hrp) ?_
    refine LdO.own H .head rfl ?_
    have H : St g h2 w (x2 ++ (callB T1.bc T1.iv (T1.n + 1) :: runB br D bt n R1 left (picks + 1) :: thB bt c1 :: (R1.mx ++ (R1.dx ++ (T1.rx ++ (FA ++ (FB ++ stoL D V2 s2 L))))))) := by
      refine H.perm (perm_of_sum fun f => ?_)
      simp only [List.map_append, List.map_cons, List.sum_append, List.sum_cons]; omega
    refine InvO_mono (opEffect H hb2) ?_; intro v w q
    have hve := q.1; have H := q.2; clear q
    subst hve
    have H : St g h2 w (runB br D bt n R1 left (picks + 1) :: thB bt c1 :: (R1.mx ++ (R1.dx ++ (T1.rx ++ (callB T1.bc T1.iv (T1.n + 1) :: (x2 ++ (FA ++ (FB ++ stoL D V2 s2 L)))))))) := by
      refine H.perm (perm_of_sum fun f => ?_)
      simp only [List.map_append, List.map_cons, List.sum_append, List.sum_cons]; omega
    refine (show ∃ T2, T2 = { T1 with t := { T1.t with run := some o2 }, n := T1.n + 1, ox := x2 } from ⟨_, rfl⟩).elim fun T2 hT2 => ?_
    have hrow2 : T2.row = T1.row := by rw [hT2]; exact row_run hrun1 _ _
    have hok2 : T2.ok h2 D i := by
      rw [hT2]
      exact ⟨hT1.script, hT1.res, hT1.rps, hT1.rok, hT1.ev, ⟨hb2, Int.add_nonneg hop.2 (by decide)⟩⟩
    have hn2 : T2.n ≤ m + 2 := by rw [hT2]; exact hnm
    have hrun2 : T2.t.run = some o2 := by rw [hT2]
    have ht2 : T2.t = { T1.t with run := some o2 } := by rw [hT2]
    have hb2 : T2.bc = T1.bc ∧ T2.iv = T1.iv ∧ T2.n = T1.n + 1 ∧ T2.rx = T1.rx ∧ T2.ox = x2 := by rw [hT2]; exact ⟨rfl, rfl, rfl, rfl, rfl⟩
    rw [← hb2.1, ← hb2.2.1, ← hb2.2.2.1, ← hb2.2.2.2.1, ← hb2.2.2.2.2] at H
    rw [← hrow2] at ho1
    have hi1 : i < (rows.set i T2.row).length := by rw [List.length_set]; exact hi
    have hr1 : (rows.set i T2.row)[i] = T2.row := List.getElem_set_self ..
    have hstep : ∀ _ : Done, PQ.stepT s T1.t o i picks = if e2 = true then (s2, { T1.t with run := none, results := T1.t.results ++ [resO o2], cur := { (if effO o2 = true then { T1.t.cur with point := picks } else T1.t.cur) with fin := picks, res := resO o2 } }, true) else (s2, { T1.t with run := some o2, cur := (if effO o2 = true then { T1.t.cur with point := picks } else T1.t.cur) }, false) := fun _ => by
      unfold PQ.stepT; simp only [← hs2, ← ho2, ← he2]
    have hdpl : R1.dps.length = dones.length := by rw [← hR1.dps]; simp
    clear hT2 hrow2 hop
    -- both ends
    have hend : ∀ (w : World) (T3 : TV) (c3 : Array Value), Rows bt c3 (rows.set i T3.row) n n → T3.ok h2 D i → T3.n ≤ m + 2 → T3.rx = T2.rx → T3.ops = callB T2.bc T2.iv T2.n :: T2.ox → T3.t = { T1.t with run := some o2, cur := (if effO o2 = true then { T1.t.cur with point := picks } else T1.t.cur) } → e2 = false →
        St g h2 w (runB br D bt n R1 left (picks + 1) :: thB bt c3 :: (R1.mx ++ (R1.dx ++ (T2.rx ++ (callB T2.bc T2.iv T2.n :: (T2.ox ++ (FA ++ (FB ++ stoL D V2 s2 L)))))))) → PickQ g h D br bt n i m N rows FA FB L s ts o dones left picks w := fun w T3 c3 q1 q2 q3 q4 q5 q6 q7 H => by
      unfold PickQ
      rw [hts1]
      rw [hstep T1.t.cur, if_neg (by rw [q7]; decide)]
      exact ⟨h2, V2, c3, T3, R1, hle, hv2, q1, q2, q3, q6, hR1.mono (by omega), by rw [q4, q5]; exact H⟩
    -- the end of a call
    have hfin : ∀ (w : World) (T3 : TV) (c3 : Array Value), T3.ok h2 D i → T3.n ≤ m + 2 → T3.t = { T1.t with run := some o2, cur := (if effO o2 = true then { T1.t.cur with point := picks } else T1.t.cur) } → e2 = true →
        FinP g h2 D br bt n i (m + 1) (rows.set i T3.row) T3 left (picks + 1) picks dones o2 (FA ++ (FB ++ stoL D V2 s2 L)) w → PickQ g h D br bt n i m N rows FA FB L s ts o dones left picks w := fun w T3 c3 q2 q3 q6 q7 q => by
      rw [hts1]
      obtain ⟨h', c, p, ra, rc, rx, R, f1, f2, f3, f4, f5, f6, f7⟩ := q
      unfold PickQ
      rw [hstep T1.t.cur, if_pos q7]
      rw [List.set_set] at f4
      have hrl : T3.rps.length = T3.t.results.length := by rw [← q2.rps]; simp
      have hcur : ({ T3.t.cur with fin := picks, res := p.r } : Done) = { (if effO o2 = true then { T1.t.cur with point := picks } else T1.t.cur) with fin := picks, res := resO o2 } := by rw [q6, f2]
      rw [hcur] at f6
      refine ⟨h', V2, c, finTV T3 picks p ra rc rx, R, Hp.le_trans hle f1, hv2.le f1, f4, ⟨q2.script.le f1, ?_, ?_, ?_, f3, trivial⟩, q3, ?_, f6, f7⟩
      · show OwnSl 38 4 (.slice ra (T3.t.results ++ [p.r]).length rc) ((T3.rps ++ [p]).map RP.row) rx
        rw [List.length_append, ← hrl]; exact f5
      · show (T3.rps ++ [p]).map RP.r = T3.t.results ++ [p.r]
        rw [List.map_append, q2.rps]; rfl
      · intro r hr
        rcases List.mem_append.1 hr with h5 | h5
        · exact (q2.rok r h5).le f1
        · rw [List.mem_singleton] at h5; subst h5; exact f3
      · show ({ T3.t with run := none, results := T3.t.results ++ [p.r], cur := { T3.t.cur with fin := picks, res := p.r } } : Thr) = _
        rw [hcur, q6, f2]
    refine CondT.bool (fun hef => ?_) (fun hef => ?_)
    · refine (show ∃ T3, T3 = { T2 with t := { T2.t with cur := { T2.t.cur with point := picks } } } from ⟨_, rfl⟩).elim fun T3 hT3 => ?_
      have P3 := OwnSl.part ho1 hi1 (j := 14) (vs := [.int .i64 picks]) (by show 14 + 1 ≤ 16; decide) rfl (row := T3.row) (by rw [hr1, hT3]; rfl)
      rw [List.set_set] at P3
      refine StO.ownE H (.tail .head) rfl rfl P3.1 rfl fun w H => ?_
      have hok3 : T3.ok h2 D i := by rw [hT3]; exact ⟨hok2.script, hok2.res, hok2.rps, hok2.rok, hok2.ev, hok2.run⟩
      have ht3 : T3.t = { T1.t with run := some o2, cur := (if effO o2 = true then { T1.t.cur with point := picks } else T1.t.cur) } := by rw [hT3, if_pos hef, ht2]
      have hn3 : T3.n ≤ m + 2 := by rw [hT3]; exact hn2
      have hrx3 : T3.rx = T2.rx := by rw [hT3]
      have hops3 : T3.ops = callB T2.bc T2.iv T2.n :: T2.ox := by rw [hT3]; unfold TV.ops; simp only [hrun2]
      have hf3 : T3.bc = T2.bc ∧ T3.iv = T2.iv ∧ T3.n = T2.n ∧ T3.ox = T2.ox := by rw [hT3]; exact ⟨rfl, rfl, rfl, rfl⟩
      refine (show ∃ c3, c3 = putA c1 (i * 16 + 14) [.int .i64 picks] from ⟨_, rfl⟩).elim fun c3 hc3 => ?_
      have P3 := P3.2
      have H : St g h2 w (runB br D bt n R1 left (picks + 1) :: thB bt c3 :: (R1.mx ++ (R1.dx ++ (T2.rx ++ (callB T2.bc T2.iv T2.n :: (T2.ox ++ (FA ++ (FB ++ stoL D V2 s2 L)))))))) := by rw [hc3]; exact H
      rw [← hc3] at P3
      clear hc3 hT3
      have hi3 : i < (rows.set i T3.row).length := by rw [List.length_set]; exact hi
      refine CondT.bool (fun hrt => ?_) (fun hrt => ?_)
      · rw [← hf3.1, ← hf3.2.1, ← hf3.2.2.1, ← hf3.2.2.2, ← hrx3] at H
        refine (ilFinish (o := o2) (m := m + 1) (dones := dones) (q := i) H P3 hi3 (List.getElem_set_self ..) hR1 hok3 (by rw [ht3]) (by omega) (by omega) (by rw [ht3]; exact Nat.le_trans hrs (by decide)) hl).mono ?_; intro v w q
        exact hfin w T3 c3 hok3 hn3 ht3 (he2.trans hrt) q
      · exact hend w T3 c3 P3 hok3 hn3 hrx3 hops3 ht3 (he2.trans hrt) H
    · refine (show ∃ T3, T3 = T2 from ⟨_, rfl⟩).elim fun T3 hT3 => ?_
      have hok3 : T3.ok h2 D i := by rw [hT3]; exact hok2
      have hef2 : effO o2 = false := hef
      have ht3 : T3.t = { T1.t with run := some o2, cur := (if effO o2 = true then { T1.t.cur with point := picks } else T1.t.cur) } := by rw [hT3, if_neg (by rw [hef2]; decide), ht2]
      have hn3 : T3.n ≤ m + 2 := by rw [hT3]; exact hn2
      have hrx3 : T3.rx = T2.rx := by rw [hT3]
      have hops3 : T3.ops = callB T2.bc T2.iv T2.n :: T2.ox := by rw [hT3]; unfold TV.ops; simp only [hrun2]
      have hf3 : T3.bc = T2.bc ∧ T3.iv = T2.iv ∧ T3.n = T2.n ∧ T3.ox = T2.ox := by rw [hT3]; exact ⟨rfl, rfl, rfl, rfl⟩
      have P3 : Rows bt c1 (rows.set i T3.row) n n := by rw [hT3]; exact ho1
      refine (show ∃ c3, c3 = c1 from ⟨_, rfl⟩).elim fun c3 hc3 => ?_
      rw [← hc3] at H P3
      clear hc3 hT3
      have hi3 : i < (rows.set i T3.row).length := by rw [List.length_set]; exact hi
      refine CondT.bool (fun hrt => ?_) (fun hrt => ?_)
      · rw [← hf3.1, ← hf3.2.1, ← hf3.2.2.1, ← hf3.2.2.2, ← hrx3] at H
        refine (ilFinish (o := o2) (m := m + 1) (dones := dones) (q := i) H P3 hi3 (List.getElem_set_self ..) hR1 hok3 (by rw [ht3]) (by omega) (by omega) (by rw [ht3]; exact Nat.le_trans hrs (by decide)) hl).mono ?_; intro v w q
        exact hfin w T3 c3 hok3 hn3 ht3 (he2.trans hrt) q
      · exact hend w T3 c3 P3 hok3 hn3 hrx3 hops3 ht3 (he2.trans hrt) H
  | none =>
    have hlt := hpr.lt hrn
    have hrp0 : rows[i][2]? = some (.pointer none) := by rw [hr]; unfold TV.row; rw [hrn]; rfl
    have hops : T1.ops = [] := by unfold TV.ops; rw [hrn]
    rw [hops] at H
    refine LdO.ownE H (.tail .head) ((OwnSl.read ho hi (j := 2) (by decide)).trans hrp0) ?_
    refine CondT.of (u := true) rfl ?_
    refine (thFinished (H.perm (List.Perm.swap _ _ _)) ho hi hr).mono ?_; intro v w q
    have hv2 := q.1; have H := q.2.perm (List.Perm.swap _ _ _); clear q
    subst hv2
    have H : St g h w (runB br D bt n R1 left (picks + 1) :: thB bt c1 :: (R1.mx ++ (R1.dx ++ (T1.rx ++ (FA ++ (FB ++ stoL D V s L)))))) := H
    refine CondT.of (u := false) (decide_eq_false (by omega)) ?_
    refine LdO.ownE H (.tail .head) ((OwnSl.read ho hi (j := 2) (by decide)).trans hrp0) ?_
    refine CondT.of (u := true) rfl ?_
    have H : St g h w (thB bt c1 :: (T1.rx ++ (runB br D bt n R1 left (picks + 1) :: (R1.mx ++ (R1.dx ++ (FA ++ (FB ++ stoL D V s L))))))) := by
      refine H.perm (perm_of_sum fun f => ?_)
      simp only [List.map_append, List.map_cons, List.sum_append, List.sum_cons]; omega
    refine (thNext H ho hi hr hT hlt hpr.sm).mono ?_; intro v w q
    have hv2 : v = callV cl := by rw [hcl]; exact q.1
    have H := q.2; clear q
    subst hv2
    refine AllocO.own H fun b6 w H => ?_
    refine StO.own H .head rfl rfl rfl fun w H => ?_
    have H : St g h w ((b6, .cells (callL cl).toArray 34 (0, 0)) :: thB bt c1 :: (T1.rx ++ (runB br D bt n R1 left (picks + 1) :: (R1.mx ++ (R1.dx ++ (FA ++ (FB ++ stoL D V s L))))))) := H
    have H : St g h w ((b6, .cells (callL cl).toArray 34 (0, 0)) :: runB br D bt n R1 left (picks + 1) :: thB bt c1 :: (R1.mx ++ (R1.dx ++ (T1.rx ++ (FA ++ (FB ++ stoL D V s L)))))) := by
      refine H.perm (perm_of_sum fun f => ?_)
      simp only [List.map_append, List.map_cons, List.sum_append, List.sum_cons]; omega
    have hcc : ∀ {w : World} {h : Hp} {A : List (Nat × Obj)} {k : Nat}, St g h w A → At (b6, .cells (callL cl).toArray 34 (0, 0)) k A → Cells w b6 0 (callL cl) := fun H ha => H.ocells ha 5
    refine DrawO.wx H (fun w => w.cell? ⟨br, 0, none⟩ = some (.pointer (some ⟨D.bs, 0, none⟩)) ∧ Cells w b6 0 (callL cl)) (fun w H => ⟨H.ocell (.tail .head) rfl, hcc H .head⟩) (fun j => Nat.beq j 10) (by kernel_rfl) (pl [0, 1, 2, 3, 4, 5, 6, 1007, 8, 9, 1010] .nil) (by kernel_rfl) fun w H => ?_
    refine LdQ.cell (fun _ hs => hs.1) ?_
    refine LdQ.cellsO (fun _ hs => hs.2) rfl ?_
    refine (cpqNew H D i cl).mono ?_; intro v w q
    refine q.elim fun h1 q => q.elim fun bc q => q.elim fun iv q => q.elim fun x q => ?_
    have hv2 := q.1; have hle1 := q.2.1; have hob := q.2.2.1; have H := q.2.2.2; clear q
    subst hv2
    have H : St g h1 w ((b6, .cells (callL cl).toArray 34 (0, 0)) :: runB br D bt n R1 left (picks + 1) :: thB bt c1 :: (R1.mx ++ (R1.dx ++ (T1.rx ++ (callB bc iv 0 :: (x ++ (FA ++ (FB ++ stoL D V s L)))))))) := by
      refine H.perm (perm_of_sum fun f => ?_)
      simp only [List.map_append, List.map_cons, List.sum_append, List.sum_cons]; omega
    refine ⟨⟨H.ocell (.tail .head) rfl, hcc H .head⟩, ?_⟩
    refine (show ∃ Ta, Ta = { T1 with t := { T1.t with run := some (newO cl) }, bc := bc, iv := iv, n := 0, ox := x } from ⟨_, rfl⟩).elim fun Ta hTa => ?_
    have Pa := OwnSl.part ho hi (j := 2) (vs := [.pointer (some ⟨bc, 0, none⟩)]) (by show 2 + 1 ≤ 16; decide) rfl (row := Ta.row) (by rw [hr, hTa]; rfl)
    refine StO.ownE H (.tail (.tail .head)) rfl rfl Pa.1 rfl fun w H => ⟨rfl, ?_⟩
    have hia : i < (rows.set i Ta.row).length := by rw [List.length_set]; exact hi
    have hra : (rows.set i Ta.row)[i] = Ta.row := List.getElem_set_self ..
    refine LdO.owns H .head rfl ?_
    refine (show ∃ Tb, Tb = { Ta with t := { Ta.t with cur := ⟨i, cl, {}, picks, 0, 0⟩ }, ea := none, ec := 0 } from ⟨_, rfl⟩).elim fun Tb hTb => ?_
    have Pb := OwnSl.part Pa.2 hia (j := 3) (vs := DP.row ⟨⟨i, cl, {}, picks, 0, 0⟩, none, 0⟩) (by show 3 + 13 ≤ 16; decide) rfl (row := Tb.row) (by rw [hra, hTb]; rfl)
    rw [List.set_set] at Pb
    refine StO.ownE H (.tail (.tail .head)) (v := DP.val ⟨⟨i, cl, {}, picks, 0, 0⟩, none, 0⟩) rfl rfl Pb.1 rfl fun w H => ?_
    refine (show ∃ cb, cb = putA (putA c1 (i * 16 + 2) [.pointer (some ⟨bc, 0, none⟩)]) (i * 16 + 3) (DP.row ⟨⟨i, cl, {}, picks, 0, 0⟩, none, 0⟩) from ⟨_, rfl⟩).elim fun cb hcb => ?_
    have H : St g h1 w ((b6, .cells (callL cl).toArray 34 (0, 0)) :: runB br D bt n R1 left (picks + 1) :: thB bt cb :: (R1.mx ++ (R1.dx ++ (T1.rx ++ (callB bc iv 0 :: (x ++ (FA ++ (FB ++ stoL D V s L)))))))) := by rw [hcb]; exact H
    have Pb := Pb.2
    rw [← hcb] at Pb
    clear hcb Pa hia hra
    have hmk := hR.marks
    have hmkl := hR.few
    refine DrawO.wx H (fun w => w.cell? ⟨br, 2, none⟩ = some (.slice R1.ma R1.mks.length R1.mc) ∧ Cells w b6 0 (callL cl)) (fun w H => ⟨H.ocell (.tail .head) rfl, hcc H .head⟩) (fun j => Nat.beq j 12) (by kernel_rfl) (pl [0, 1, 2, 3, 4, 5, 6, 7, 1008, 1009, 10, 11, 1012] .nil) (by kernel_rfl) fun w H => ?_
    refine LdQ.cell (fun _ hs => hs.1) ?_
    refine LdQ.cellsO (fun _ hs => hs.2) rfl ?_
    refine AllocO.own H fun b66 w H => ⟨⟨H.ocell (.tail (.tail .head)) rfl, hcc H (.tail .head)⟩, ?_⟩
    refine (show ∃ mrow : List Value, mrow = [.int .i64 1, .int .i64 (i : Int)] ++ (callL cl ++ [.int .i64 0, .int .i64 0, .bool false, .slice none 0 0]) from ⟨_, rfl⟩).elim fun mrow hmrow => ?_
    have hml : mrow.length = 11 := by rw [hmrow]; rfl
    have H : St g h1 w ((b66, .cells mrow.toArray 95 (0, 0)) :: (b6, .cells (callL cl).toArray 34 (0, 0)) :: runB br D bt n R1 left (picks + 1) :: thB bt cb :: (R1.mx ++ (R1.dx ++ (T1.rx ++ (callB bc iv 0 :: (x ++ (FA ++ (FB ++ stoL D V s L)))))))) := by rw [hmrow]; exact H
    have hsrc : Src w 11 (.slice (some ⟨b66, 0, none⟩) 1 1) [mrow] := H.srcOwn .head (by simp [hml]) (by simp) rfl
    have H : St g h1 w (R1.mx ++ ((b66, .cells mrow.toArray 95 (0, 0)) :: (b6, .cells (callL cl).toArray 34 (0, 0)) :: runB br D bt n R1 left (picks + 1) :: thB bt cb :: (R1.dx ++ (T1.rx ++ (callB bc iv 0 :: (x ++ (FA ++ (FB ++ stoL D V s L)))))))) := by
      refine H.perm (perm_of_sum fun f => ?_)
      simp only [List.map_append, List.map_cons, List.sum_append, List.sum_cons]; omega
    refine RunO.apps (n := R1.mks.length) (m := 1) tabOk rfl rfl rfl rfl rfl rfl rfl H hmk hsrc (by rw [hmrow]; simp [oneCells, callL, Value.oneCell']) rfl rfl (by omega) fun v w mx hom H => ?_
    have H : St g h1 w ((b6, .cells (callL cl).toArray 34 (0, 0)) :: runB br D bt n R1 left (picks + 1) :: thB bt cb :: (mx ++ (R1.dx ++ (T1.rx ++ (callB bc iv 0 :: (x ++ (FA ++ (FB ++ stoL D V s L)))))))) := by
      have H : St g h1 w ((b66, .cells mrow.toArray 95 (0, 0)) :: (b6, .cells (callL cl).toArray 34 (0, 0)) :: runB br D bt n R1 left (picks + 1) :: thB bt cb :: (mx ++ (R1.dx ++ (T1.rx ++ (callB bc iv 0 :: (x ++ (FA ++ (FB ++ stoL D V s L)))))))) := by
        refine H.perm (perm_of_sum fun f => ?_)
        simp only [List.map_append, List.map_cons, List.sum_append, List.sum_cons]; omega
      exact H.tail
    refine ⟨⟨H.ocell (.tail .head) rfl, hcc H .head⟩, ?_⟩
    refine (OwnSl.len hom).elim fun ma q => q.elim fun mc q => ?_
    have q := q.1
    subst q
    refine StO.own H (.tail .head) rfl rfl rfl fun w H => ⟨rfl, ?_⟩
    refine (show ∃ Rn, Rn = { R1 with ma := ma, mc := mc, mx := mx, mks := R1.mks ++ [mrow] } from ⟨_, rfl⟩).elim fun Rn hRn => ?_
    have hRok : Rn.ok h1 dones (m + 1) := by
      rw [hRn]
      refine ⟨hom, ?_, hR.done, hR.dps, fun d hd => (hR.dok d hd).le hle1⟩
      show (R1.mks ++ [mrow]).length ≤ m + 1
      rw [List.length_append]; show R1.mks.length + 1 ≤ m + 1; omega
    have H : St g h1 w (runB br D bt n Rn left (picks + 1) :: thB bt cb :: (Rn.mx ++ (Rn.dx ++ (Tb.rx ++ (callB Tb.bc Tb.iv Tb.n :: (Tb.ox ++ (FA ++ (FB ++ stoL D V s L)))))))) := by
      rw [hRn, hTb, hTa]; exact H.tail
    have hTbt : Tb.t = startT T1.t i picks := by rw [hTb, hTa]; unfold startT; rw [hrn, hcl]
    have hTbr : Tb.t.run = some (newO cl) := by rw [hTb, hTa]
    have hTbok : Tb.ok h1 D i := by
      have h9 := hT.le hle1
      rw [hTb, hTa]
      exact ⟨h9.script, h9.res, h9.rps, h9.rok, Sl.nil h1 2, ⟨hob, Int.le_refl 0⟩⟩
    have hTbn : Tb.n = 0 := by rw [hTb, hTa]
    have hTbl : Tb.t.results.length ≤ 1000 := by rw [hTb, hTa]; exact hpr.rs
    have hvn : V.ok h1 s N := hv.le hle1
    have hts1 : ts = Tb.t := hts.trans hTbt.symm
    have hoe : newO cl = o := by rw [hts1, hTbr] at hrun; exact Option.some.inj hrun
    rw [hoe] at hTbr
    refine (show ∃ T1, T1 = Tb from ⟨_, rfl⟩).elim fun T1 hT1e => ?_
    rw [← hT1e] at H Pb hTbr hTbok hTbn hTbl hts1
    refine (show ∃ R1, R1 = Rn from ⟨_, rfl⟩).elim fun R1 hR1e => ?_
    rw [← hR1e] at H hRok
    refine (show ∃ c1, c1 = cb from ⟨_, rfl⟩).elim fun c1 hc1e => ?_
    rw [← hc1e] at H Pb
    have hT1 := hTbok
    have hR1 := hRok
    have hrun1 := hTbr
    have hv1 := hvn
    have ho1 := Pb
    have hn1 : T1.n ≤ 1000000000 := by rw [hTbn]; decide
    have hnm : T1.n + 1 ≤ ((m + 2 : Nat) : Int) := by rw [hTbn]; omega
    have hrs := hTbl
    clear hTb hTa hRn hmrow hcl hrp0 ho hr hT1e hR1e hc1e hom
    -- the step
    have hop := hT1.run
    rw [hrun1] at hop
    have hi1 : i < (rows.set i T1.row).length := by rw [List.length_set]; exact hi
    have hr1 : (rows.set i T1.row)[i] = T1.row := List.getElem_set_self ..
    have hrp : (rows.set i T1.row)[i][2]? = some (.pointer (some ⟨T1.bc, 0, none⟩)) := by rw [hr1]; unfold TV.row; rw [hrun1]; rfl
    refine LdO.ownE H (.tail .head) ((OwnSl.read ho1 hi1 (j := 2) (by decide)).trans hrp) ?_
    have H : St g h1 w (callB T1.bc T1.iv T1.n :: (T1.ox ++ stoL D V s (runB br D bt n R1 left (picks + 1) :: thB bt c1 :: (R1.mx ++ (R1.dx ++ (T1.rx ++ (FA ++ (FB ++ L)))))))) := by
      refine H.perm (perm_of_sum fun f => ?_)
      simp only [List.map_append, List.map_cons, List.sum_append, List.sum_cons, sto_sum]; omega
    refine (callStep H hv1 hop.1 hN hpre ⟨hop.2, hn1⟩).mono ?_; intro v w q
    have hvs := q.1; have q2 := q.2; clear q
    subst hvs
    refine q2.elim fun h2 q => q.elim fun V2 q => q.elim fun x2 q => ?_
    have hle2 := q.1; have hv2 := q.2.1; have hb2 := q.2.2.1; have H := q.2.2.2; clear q q2
    refine (show ∃ s2, s2 = (stepO s i o).1 from ⟨_, rfl⟩).elim fun s2 hs2 => ?_
    refine (show ∃ o2, o2 = (stepO s i o).2.1 from ⟨_, rfl⟩).elim fun o2 ho2 => ?_
    refine (show ∃ e2, e2 = (stepO s i o).2.2 from ⟨_, rfl⟩).elim fun e2 he2 => ?_
    rw [← hs2] at hv2 H
    rw [← ho2] at hb2
    have hle := Hp.le_trans hle1 hle2
    have hT1 := hT1.le hle2
    have hR1 := hR1.le hle2
    have H : St g h2 w (callB T1.bc T1.iv (T1.n + 1) :: runB br D bt n R1 left (picks + 1) :: thB bt c1 :: (x2 ++ (R1.mx ++ (R1.dx ++ (T1.rx ++ (FA ++ (FB ++ stoL D V2 s2 L))))))) := by
      refine H.perm (perm_of_sum fun f => ?_)
      simp only [List.map_append, List.map_cons, List.sum_append, List.sum_cons, sto_sum]; omega
    -- the effect
    refine LdO.ownE H (.tail (.tail .head)) ((OwnSl.read ho1 hi1 (j := 2) (by decide)).trans hrp) ?_
    refine LdO.own H .head rfl ?_
    have H : St g h2 w (x2 ++ (callB T1.bc T1.iv (T1.n + 1) :: runB br D bt n R1 left (picks + 1) :: thB bt c1 :: (R1.mx ++ (R1.dx ++ (T1.rx ++ (FA ++ (FB ++ stoL D V2 s2 L))))))) := by
      refine H.perm (perm_of_sum fun f => ?_)
      simp only [List.map_append, List.map_cons, List.sum_append, List.sum_cons]; omega
    refine InvO_mono (opEffect H hb2) ?_; intro v w q
    have hve := q.1; have H := q.2; clear q
    subst hve
    have H : St g h2 w (runB br D bt n R1 left (picks + 1) :: thB bt c1 :: (R1.mx ++ (R1.dx ++ (T1.rx ++ (callB T1.bc T1.iv (T1.n + 1) :: (x2 ++ (FA ++ (FB ++ stoL D V2 s2 L)))))))) := by
      refine H.perm (perm_of_sum fun f => ?_)
      simp only [List.map_append, List.map_cons, List.sum_append, List.sum_cons]; omega
    refine (show ∃ T2, T2 = { T1 with t := { T1.t with run := some o2 }, n := T1.n + 1, ox := x2 } from ⟨_, rfl⟩).elim fun T2 hT2 => ?_
    have hrow2 : T2.row = T1.row := by rw [hT2]; exact row_run hrun1 _ _
    have hok2 : T2.ok h2 D i := by
      rw [hT2]
      exact ⟨hT1.script, hT1.res, hT1.rps, hT1.rok, hT1.ev, ⟨hb2, Int.add_nonneg hop.2 (by decide)⟩⟩
    have hn2 : T2.n ≤ m + 2 := by rw [hT2]; exact hnm
    have hrun2 : T2.t.run = some o2 := by rw [hT2]
    have ht2 : T2.t = { T1.t with run := some o2 } := by rw [hT2]
    have hb2 : T2.bc = T1.bc ∧ T2.iv = T1.iv ∧ T2.n = T1.n + 1 ∧ T2.rx = T1.rx ∧ T2.ox = x2 := by rw [hT2]; exact ⟨rfl, rfl, rfl, rfl, rfl⟩
    rw [← hb2.1, ← hb2.2.1, ← hb2.2.2.1, ← hb2.2.2.2.1, ← hb2.2.2.2.2] at H
    rw [← hrow2] at ho1
    have hi1 : i < (rows.set i T2.row).length := by rw [List.length_set]; exact hi
    have hr1 : (rows.set i T2.row)[i] = T2.row := List.getElem_set_self ..
    have hstep : ∀ _ : Done, PQ.stepT s T1.t o i picks = if e2 = true then (s2, { T1.t with run := none, results := T1.t.results ++ [resO o2], cur := { (if effO o2 = true then { T1.t.cur with point := picks } else T1.t.cur) with fin := picks, res := resO o2 } }, true) else (s2, { T1.t with run := some o2, cur := (if effO o2 = true then { T1.t.cur with point := picks } else T1.t.cur) }, false) := fun _ => by
      unfold PQ.stepT; simp only [← hs2, ← ho2, ← he2]
    have hdpl : R1.dps.length = dones.length := by rw [← hR1.dps]; simp
    clear hT2 hrow2 hop
    -- both ends
    have hend : ∀ (w : World) (T3 : TV) (c3 : Array Value), Rows bt c3 (rows.set i T3.row) n n → T3.ok h2 D i → T3.n ≤ m + 2 → T3.rx = T2.rx → T3.ops = callB T2.bc T2.iv T2.n :: T2.ox → T3.t = { T1.t with run := some o2, cur := (if effO o2 = true then { T1.t.cur with point := picks } else T1.t.cur) } → e2 = false →
        St g h2 w (runB br D bt n R1 left (picks + 1) :: thB bt c3 :: (R1.mx ++ (R1.dx ++ (T2.rx ++ (callB T2.bc T2.iv T2.n :: (T2.ox ++ (FA ++ (FB ++ stoL D V2 s2 L)))))))) → PickQ g h D br bt n i m N rows FA FB L s ts o dones left picks w := fun w T3 c3 q1 q2 q3 q4 q5 q6 q7 H => by
      unfold PickQ
      rw [hts1]
      rw [hstep T1.t.cur, if_neg (by rw [q7]; decide)]
      exact ⟨h2, V2, c3, T3, R1, hle, hv2, q1, q2, q3, q6, hR1.mono (by omega), by rw [q4, q5]; exact H⟩
    -- the end of a call
    have hfin : ∀ (w : World) (T3 : TV) (c3 : Array Value), T3.ok h2 D i → T3.n ≤ m + 2 → T3.t = { T1.t with run := some o2, cur := (if effO o2 = true then { T1.t.cur with point := picks } else T1.t.cur) } → e2 = true →
        FinP g h2 D br bt n i (m + 1) (rows.set i T3.row) T3 left (picks + 1) picks dones o2 (FA ++ (FB ++ stoL D V2 s2 L)) w → PickQ g h D br bt n i m N rows FA FB L s ts o dones left picks w := fun w T3 c3 q2 q3 q6 q7 q => by
      rw [hts1]
      obtain ⟨h', c, p, ra, rc, rx, R, f1, f2, f3, f4, f5, f6, f7⟩ := q
      unfold PickQ
      rw [hstep T1.t.cur, if_pos q7]
      rw [List.set_set] at f4
      have hrl : T3.rps.length = T3.t.results.length := by rw [← q2.rps]; simp
      have hcur : ({ T3.t.cur with fin := picks, res := p.r } : Done) = { (if effO o2 = true then { T1.t.cur with point := picks } else T1.t.cur) with fin := picks, res := resO o2 } := by rw [q6, f2]
      rw [hcur] at f6
      refine ⟨h', V2, c, finTV T3 picks p ra rc rx, R, Hp.le_trans hle f1, hv2.le f1, f4, ⟨q2.script.le f1, ?_, ?_, ?_, f3, trivial⟩, q3, ?_, f6, f7⟩
      · show OwnSl 38 4 (.slice ra (T3.t.results ++ [p.r]).length rc) ((T3.rps ++ [p]).map RP.row) rx
        rw [List.length_append, ← hrl]; exact f5
      · show (T3.rps ++ [p]).map RP.r = T3.t.results ++ [p.r]
        rw [List.map_append, q2.rps]; rfl
      · intro r hr
        rcases List.mem_append.1 hr with h5 | h5
        · exact (q2.rok r h5).le f1
        · rw [List.mem_singleton] at h5; subst h5; exact f3
      · show ({ T3.t with run := none, results := T3.t.results ++ [p.r], cur := { T3.t.cur with fin := picks, res := p.r } } : Thr) = _
        rw [hcur, q6, f2]
    refine CondT.bool (fun hef => ?_) (fun hef => ?_)
    · refine (show ∃ T3, T3 = { T2 with t := { T2.t with cur := { T2.t.cur with point := picks } } } from ⟨_, rfl⟩).elim fun T3 hT3 => ?_
      have P3 := OwnSl.part ho1 hi1 (j := 14) (vs := [.int .i64 picks]) (by show 14 + 1 ≤ 16; decide) rfl (row := T3.row) (by rw [hr1, hT3]; rfl)
      rw [List.set_set] at P3
      refine StO.ownE H (.tail .head) rfl rfl P3.1 rfl fun w H => ?_
      have hok3 : T3.ok h2 D i := by rw [hT3]; exact ⟨hok2.script, hok2.res, hok2.rps, hok2.rok, hok2.ev, hok2.run⟩
      have ht3 : T3.t = { T1.t with run := some o2, cur := (if effO o2 = true then { T1.t.cur with point := picks } else T1.t.cur) } := by rw [hT3, if_pos hef, ht2]
      have hn3 : T3.n ≤ m + 2 := by rw [hT3]; exact hn2
      have hrx3 : T3.rx = T2.rx := by rw [hT3]
      have hops3 : T3.ops = callB T2.bc T2.iv T2.n :: T2.ox := by rw [hT3]; unfold TV.ops; simp only [hrun2]
      have hf3 : T3.bc = T2.bc ∧ T3.iv = T2.iv ∧ T3.n = T2.n ∧ T3.ox = T2.ox := by rw [hT3]; exact ⟨rfl, rfl, rfl, rfl⟩
      refine (show ∃ c3, c3 = putA c1 (i * 16 + 14) [.int .i64 picks] from ⟨_, rfl⟩).elim fun c3 hc3 => ?_
      have P3 := P3.2
      have H : St g h2 w (runB br D bt n R1 left (picks + 1) :: thB bt c3 :: (R1.mx ++ (R1.dx ++ (T2.rx ++ (callB T2.bc T2.iv T2.n :: (T2.ox ++ (FA ++ (FB ++ stoL D V2 s2 L)))))))) := by rw [hc3]; exact H
      rw [← hc3] at P3
      clear hc3 hT3
      have hi3 : i < (rows.set i T3.row).length := by rw [List.length_set]; exact hi
      refine CondT.bool (fun hrt => ?_) (fun hrt => ?_)
      · rw [← hf3.1, ← hf3.2.1, ← hf3.2.2.1, ← hf3.2.2.2, ← hrx3] at H
        refine (ilFinish (o := o2) (m := m + 1) (dones := dones) (q := i) H P3 hi3 (List.getElem_set_self ..) hR1 hok3 (by rw [ht3]) (by omega) (by omega) (by rw [ht3]; exact Nat.le_trans hrs (by decide)) hl).mono ?_; intro v w q
        exact hfin w T3 c3 hok3 hn3 ht3 (he2.trans hrt) q
      · exact hend w T3 c3 P3 hok3 hn3 hrx3 hops3 ht3 (he2.trans hrt) H
    · refine (show ∃ T3, T3 = T2 from ⟨_, rfl⟩).elim fun T3 hT3 => ?_
      have hok3 : T3.ok h2 D i := by rw [hT3]; exact hok2
      have hef2 : effO o2 = false := hef
      have ht3 : T3.t = { T1.t with run := some o2, cur := (if effO o2 = true then { T1.t.cur with point := picks } else T1.t.cur) } := by rw [hT3, if_neg (by rw [hef2]; decide), ht2]
      have hn3 : T3.n ≤ m + 2 := by rw [hT3]; exact hn2
      have hrx3 : T3.rx = T2.rx := by rw [hT3]
      have hops3 : T3.ops = callB T2.bc T2.iv T2.n :: T2.ox := by rw [hT3]; unfold TV.ops; simp only [hrun2]
      have hf3 : T3.bc = T2.bc ∧ T3.iv = T2.iv ∧ T3.n = T2.n ∧ T3.ox = T2.ox := by rw [hT3]; exact ⟨rfl, rfl, rfl, rfl⟩
      have P3 : Rows bt c1 (rows.set i T3.row) n n := by rw [hT3]; exact ho1
      refine (show ∃ c3, c3 = c1 from ⟨_, rfl⟩).elim fun c3 hc3 => ?_
      rw [← hc3] at H P3
      clear hc3 hT3
      have hi3 : i < (rows.set i T3.row).length := by rw [List.length_set]; exact hi
      refine CondT.bool (fun hrt => ?_) (fun hrt => ?_)
      · rw [← hf3.1, ← hf3.2.1, ← hf3.2.2.1, ← hf3.2.2.2, ← hrx3] at H
        refine (ilFinish (o := o2) (m := m + 1) (dones := dones) (q := i) H P3 hi3 (List.getElem_set_self ..) hR1 hok3 (by rw [ht3]) (by omega) (by omega) (by rw [ht3]; exact Nat.le_trans hrs (by decide)) hl).mono ?_; intro v w q
        exact hfin w T3 c3 hok3 hn3 ht3 (he2.trans hrt) q
      · exact hend w T3 c3 P3 hok3 hn3 hrx3 hops3 ht3 (he2.trans hrt) H
end
end Go.Proofs.YtbdoinigeaaclaaGreat
