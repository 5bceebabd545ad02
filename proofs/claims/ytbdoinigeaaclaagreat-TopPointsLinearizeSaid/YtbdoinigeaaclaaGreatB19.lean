/- A workload with blocks of the caller's behind it: reading, adding blocks; the iterator made. Conditions: none.
   A workload run to its end. Conditions: the machine's runs are in order and end.
   A workload run to its end, walked. Conditions: the machine's runs are in order and end. -/
import Derived.Test.YtbdoinigeaaclaaGreatB18
set_option linter.all false
set_option maxRecDepth 20000
namespace Go.Proofs.YtbdoinigeaaclaaGreat
open Go RL PQ
variable {g : World} {h h' : Hp} {w : World} {L : List (Nat × Obj)}
section
variable {D : SD} {br N m : Nat} {r : RunS}
theorem run_perm {D : SD} {V : SV} {s : Sto} {a b c : Nat × Obj} {x y z L : List (Nat × Obj)} : (a :: b :: (x ++ (y ++ (z ++ stoL D V s (c :: L))))).Perm (c :: a :: b :: (x ++ (y ++ (z ++ stoL D V s L)))) := by
  refine perm_of_sum fun f => ?_
  simp only [List.map_append, List.map_cons, List.sum_append, List.sum_cons, sto_sum]; omega
theorem RunW.mem (q : RunW g h D br r N m L w) {p : Nat × Obj} (hp : p ∈ L) : w.heap[p.1]? = some p.2 := by
  obtain ⟨h', V, bt, c, tvs, R, hle, hv, hk, H⟩ := q
  refine H.own p ?_
  rw [stoL_eq]
  simp only [List.mem_cons, List.mem_append]
  exact .inr (.inr (.inr (.inr (.inr (.inr hp)))))
theorem RunW.cellL (q : RunW g h D br r N m L w) {b o : Nat} {c : Array Value} {e : TypeId} {fz : Nat × Nat} (hp : (b, Obj.cells c e fz) ∈ L) {v : Value} (hv : nth c.toList o = some v) : w.cell? ⟨b, o, none⟩ = some v := by
  have := q.mem hp
  simp only [World.cell?, this]
  rw [if_neg (by simp)]
  rw [nth_eq] at hv
  simpa using hv
theorem RunW.left (q : RunW g h D br r N m L w) : w.cell? ⟨br, 4, none⟩ = some (.int .i64 r.left) := by
  obtain ⟨h', V, bt, c, tvs, R, hle, hv, hk, H⟩ := q
  exact H.ocell .head rfl
theorem RunW.picks (q : RunW g h D br r N m L w) : w.cell? ⟨br, 5, none⟩ = some (.int .i64 r.picks) := by
  obtain ⟨h', V, bt, c, tvs, R, hle, hv, hk, H⟩ := q
  exact H.ocell .head rfl
theorem RunW.hcell (q : RunW g h D br r N m L w) {b o j : Nat} {vs : List Value} (hc : HC h b o vs) {v : Value} (hv : vs[j]? = some v) : w.cell? ⟨b, o + j, none⟩ = some v := by
  obtain ⟨h', V, bt, c, tvs, R, hle, _, hk, H⟩ := q
  exact H.hcell (hc.le hle) hv
theorem RunW.alloc (q : RunW g h D br r N m L w) {o : Obj} {K : Nat → World → Prop} (k : ∀ b w', RunW g h D br r N m ((b, o) :: L) w' → K b w') : AllocO w o K := by
  obtain ⟨h', V, bt, c, tvs, R, hle, hv, hk, H⟩ := q
  exact AllocO.own H fun b w' H => k b w' ⟨h', V, bt, c, tvs, R, hle, hv, hk, H.perm run_perm.symm⟩
theorem RunW.store {b : Nat} {c : Array Value} {e : TypeId} (q : RunW g h D br r N m ((b, .cells c e (0, 0)) :: L) w) {o n : Nat} {v : Value} (hn : Nat.beq v.cells.toList.length n = true) (h1 : oneCells v.cells.toList = true) (hs : Nat.ble (o + n) c.size = true)
    {K : World → Prop} (k : ∀ w', RunW g h D br r N m ((b, .cells (putA c o v.cells.toList) e (0, 0)) :: L) w' → K w') : StO n w (.pointer (some ⟨b, o, none⟩)) v K := by
  obtain ⟨h', V, bt, c2, tvs, R, hle, hv, hk, H⟩ := q
  exact StO.own (H.perm run_perm) .head hn h1 hs fun w' H => k w' ⟨h', V, bt, c2, tvs, R, hle, hv, hk, H.perm run_perm.symm⟩
theorem RunW.put {b : Nat} {o : Obj} (q : RunW g h D br r N m ((b, o) :: L) w) (o' : Obj) : RunW g h D br r N m ((b, o') :: L) (w.putObj b o') := by
  obtain ⟨h', V, bt, c, tvs, R, hle, hv, hk, H⟩ := q
  exact ⟨h', V, bt, c, tvs, R, hle, hv, hk, ((H.perm run_perm).setObj .head o').perm run_perm.symm⟩
theorem RunW.swap {a b : Nat × Obj} (q : RunW g h D br r N m (a :: b :: L) w) : RunW g h D br r N m (b :: a :: L) w := by
  obtain ⟨h', V, bt, c, tvs, R, hle, hv, hk, H⟩ := q
  refine ⟨h', V, bt, c, tvs, R, hle, hv, hk, H.perm (perm_of_sum fun f => ?_)⟩
  simp only [List.map_append, List.map_cons, List.sum_append, List.sum_cons, sto_sum]; omega
theorem RunW.pop {a : Nat × Obj} (q : RunW g h D br r N m (a :: L) w) : RunW g h D br r N m L w := by
  obtain ⟨h', V, bt, c, tvs, R, hle, hv, hk, H⟩ := q
  exact ⟨h', V, bt, c, tvs, R, hle, hv, hk, (H.perm run_perm).tail⟩
theorem ilForever (q : RunW g h D br r N m L w) (n : Nat) : Ret Tryz.prog 22 [.int .i64 (n : Int)] w fun v w' => ∃ b1, v = .func (.func 46) #[] #[.pointer (some ⟨b1, 0, none⟩)] ∧ RunW g h D br r N m ((b1, .cells #[.int .i64 (n : Int)] 3 (0, 0)) :: L) w' := by
  refine Ret.enter tabOk Tryz.func22 rfl (by rfl) rfl (by rfl) (by kernel_rfl) ?_
  refine q.alloc fun b1 w q => ?_
  exact ⟨b1, rfl, q⟩
/-- A workload, its log as long as its picks allow. -/
def RunC (g : World) (h : Hp) (D : SD) (br : Nat) (r : RunS) (L : List (Nat × Obj)) (w : World) : Prop := RunW g h D br r (3 * r.picks.toNat) (2 * r.picks.toNat) L w
theorem runC_pick (q : RunC g h D br r L w) {i : Nat} (hi : i < r.thrs.length) {K : Int} (hg : Good r i K) (hp : r.picks ≤ 40000) (hp0 : 0 ≤ r.picks) :
    Ret Tryz.prog 21 [.pointer (some ⟨br, 0, none⟩), .int .i64 (i : Int)] w fun _ w' => RunC g h D br (pickM r i) L w' := by
  refine (runPick q hi hg (by omega) (by omega)).mono fun v w q => ?_
  have e : (pickM r i).picks.toNat = r.picks.toNat + 1 := by rw [pickM_picks]; omega
  unfold RunC
  rw [e]
  exact q
end
end Go.Proofs.YtbdoinigeaaclaaGreat
set_option maxRecDepth 20000
namespace Go.Proofs.YtbdoinigeaaclaaGreat
open Go RL PQ
variable {g : World} {h h' : Hp} {w : World} {L : List (Nat × Obj)}
theorem RunW.draw {D : SD} {br N m : Nat} {r : RunS} {ops : Array Oper} {K : Env → List Deferred → World → Prop} {e : Env} {ds : List Deferred} (q : RunW g h D br r N m L w) (S : World → Prop) (hS : ∀ w, RunW g h D br r N m L w → S w) (p : Plan) (hp : planAll ops p = true)
    (k : ∀ w', RunW g h D br r N m L w' → TD Tryz.prog tab ops.toList S (fun _ => false) p [] K e ds w') : DrawO Tryz.prog tab ops K e ds w := by
  have q2 : RunW g h D br r N m L w.drew := by
    obtain ⟨h', V, bt, c, tvs, R, hle, hv, hk, H⟩ := q
    exact ⟨h', V, bt, c, tvs, R, hle, hv, hk, H.drew⟩
  exact ⟨⟨S, fun _ => false, p, closeOk_none ops, hp, hS _ q2, k _ q2⟩⟩
/-- What a run to its end leaves. -/
def FinishP (g : World) (h : Hp) (r : RunS) (L : List (Nat × Obj)) (v : Value) (w : World) : Prop :=
  ∃ (h' : Hp) (dv : Value) (dps : List DP), h.le h' ∧ v = .tuple #[dv, .int .i64 r.picks] ∧ DnS h' dv dps ∧ ds dps = r.dones ∧ St g h' w L
section
variable {sv pv : Value} {l : List SP} {pks : List Nat} {cap B : Nat} {inv : RunS → Prop}
structure FinPre (l : List SP) (pks : List Nat) (cap B : Nat) (inv : RunS → Prop) : Prop where
  c1 : 1 ≤ cap
  c2 : cap ≤ 64
  l1 : 1 ≤ l.length
  l2 : l.length ≤ 64
  l3 : ∀ p ∈ l, p.cs.length ≤ 16
  p1 : pks.length ≤ 300
  p2 : ∀ p ∈ pks, p < l.length
  B1 : B ≤ 25000
  runs : Runs l.length B inv
  start : inv (startM cap (l.map SP.cs))
  good : ∀ r p, inv r → p < l.length → 0 < r.left → r.picks ≤ 30000 → ∃ K, Good r p K
theorem callsN_le16 : ∀ {l : List SP} (_ : ∀ p ∈ l, p.cs.length ≤ 16), callsN l ≤ 16 * l.length
  | [], _ => Nat.le_refl 0
  | p :: l, h => by
    have h1 := callsN_le16 (l := l) fun q hq => h q (.tail _ hq)
    have h2 := h p (.head _)
    have : callsN (p :: l) = p.cs.length + callsN l := rfl
    rw [this, List.length_cons]; omega
def stP (l : List SP) (cap : Nat) (pks : List Nat) (i : Nat) : RunS := runPicks (startM cap (l.map SP.cs)) (pks.take i)
theorem stP_succ {i : Nat} (hi : i < pks.length) : stP l cap pks (i + 1) = if 0 < (stP l cap pks i).left then pickM (stP l cap pks i) pks[i] else stP l cap pks i := by
  unfold stP
  rw [List.take_succ_eq_append_getElem hi]
  exact runPicks_snoc _ _ _
theorem stP_ok (hF : FinPre l pks cap B inv) : ∀ {i : Nat}, i ≤ pks.length → inv (stP l cap pks i) ∧ 0 ≤ (stP l cap pks i).picks ∧ (stP l cap pks i).picks ≤ i
  | 0, _ => by
    unfold stP; rw [List.take_zero]
    exact ⟨hF.start, Int.le_refl 0, Int.le_refl 0⟩
  | i + 1, hi => by
    have hi' : i < pks.length := by omega
    obtain ⟨h1, h2, h3⟩ := stP_ok hF (i := i) (by omega)
    rw [stP_succ hi']
    split
    · rename_i hl
      refine ⟨hF.runs.step _ _ h1 (hF.p2 _ (List.getElem_mem hi')) hl, ?_, ?_⟩ <;> rw [pickM_picks] <;> omega
    · exact ⟨h1, h2, by omega⟩
/-- The rounds. -/
def stR (l : List SP) (cap : Nat) (pks : List Nat) (k : Nat) : RunS := rounds l.length k 0 (stP l cap pks pks.length)
theorem stR_succ (hF : FinPre l pks cap B inv) (k : Nat) : stR l cap pks (k + 1) = if (stR l cap pks k).left = 0 then stR l cap pks k else pickM (stR l cap pks k) (k % l.length) := by
  have h1 := hF.l1
  unfold stR
  rw [rounds_succ (by omega) k 0 _ (by omega), Nat.zero_add]
theorem stR_ok (hF : FinPre l pks cap B inv) : ∀ (k : Nat), inv (stR l cap pks k) ∧ 0 ≤ (stR l cap pks k).picks ∧ (stR l cap pks k).picks ≤ 300 + k
  | 0 => by
    have := stP_ok hF (Nat.le_refl pks.length)
    have h5 := hF.p1
    exact ⟨this.1, this.2.1, by have := this.2.2; show (stP l cap pks pks.length).picks ≤ 300 + ((0 : Nat) : Int); omega⟩
  | k + 1 => by
    obtain ⟨h1, h2, h3⟩ := stR_ok hF k
    rw [stR_succ hF]
    split
    · exact ⟨h1, h2, by omega⟩
    · rename_i hl
      have h6 := hF.runs.left _ h1
      refine ⟨hF.runs.step _ _ h1 (Nat.mod_lt _ hF.l1) (by omega), ?_, ?_⟩ <;> rw [pickM_picks] <;> omega
theorem stR_stay (hF : FinPre l pks cap B inv) {k : Nat} (h : (stR l cap pks k).left = 0) : ∀ j, stR l cap pks (k + j) = stR l cap pks k
  | 0 => rfl
  | j + 1 => by
    have := stR_stay hF h j
    rw [← Nat.add_assoc, stR_succ hF, this, if_pos h]
theorem stR_fin (hF : FinPre l pks cap B inv) : (stR l cap pks B).left = 0 := by
  have h1 := stP_ok hF (Nat.le_refl pks.length)
  have h2 := hF.p1
  have h3 := h1.2.2
  exact hF.runs.fin _ h1.1 (by omega)
/-- The first round at which nothing is left gives the end. -/
theorem stR_end (hF : FinPre l pks cap B inv) {k : Nat} (h : (stR l cap pks k).left = 0) : stR l cap pks k = finishM cap (l.map SP.cs) pks B := by
  have hB : (stR l cap pks B).left = 0 := stR_fin hF
  have e : finishM cap (l.map SP.cs) pks B = stR l cap pks B := by
    unfold finishM stR stP
    rw [List.take_length, List.length_map]
  rw [e]
  rcases Nat.le_total k B with hk | hk
  · obtain ⟨j, rfl⟩ := Nat.exists_eq_add_of_le hk
    exact (stR_stay hF h j).symm
  · obtain ⟨j, rfl⟩ := Nat.exists_eq_add_of_le hk
    exact stR_stay hF hB j
theorem stR_lt (hF : FinPre l pks cap B inv) {k : Nat} (h : (stR l cap pks k).left ≠ 0) : k < B := by
  rcases Nat.lt_or_ge k B with hk | hk
  · exact hk
  · obtain ⟨j, rfl⟩ := Nat.exists_eq_add_of_le hk
    have hB : (stR l cap pks B).left = 0 := stR_fin hF
    rw [stR_stay hF hB j] at h
    exact absurd hB h
end
end Go.Proofs.YtbdoinigeaaclaaGreat
set_option maxRecDepth 20000
namespace Go.Proofs.YtbdoinigeaaclaaGreat
open Go RL PQ
variable {g : World} {h h' : Hp} {w : World} {L : List (Nat × Obj)}
section
variable {sv pv : Value} {l : List SP} {pks : List Nat} {cap B : Nat} {inv : RunS → Prop} {D : SD} {br lp bd b1 b8 : Nat}
def finL (lp bd b1 b8 br n : Nat) (r : Loop) (L : List (Nat × Obj)) : List (Nat × Obj) :=
  (lp, .loop r) :: (bd, .deferred (some [])) :: (b1, .cells #[.int .i64 (n : Int)] 3 (0, 0)) :: (b8, .cells #[.pointer (some ⟨br, 0, none⟩)] 53 (0, 0)) :: L
def finJ (g : World) (h : Hp) (D : SD) (br lp bd b1 b8 : Nat) (l : List SP) (cap : Nat) (pks : List Nat) (r : Loop) (L : List (Nat × Obj)) (p : Nat) (w : World) : Prop :=
  ∃ k, p = k % l.length ∧ (stR l cap pks k).picks = (stR l cap pks 0).picks + k ∧ RunC g h D br (stR l cap pks k) (finL lp bd b1 b8 br l.length r L) w
def finZ (g : World) (h : Hp) (D : SD) (br lp bd b1 b8 : Nat) (l : List SP) (cap : Nat) (pks : List Nat) (r : Loop) (L : List (Nat × Obj)) (w : World) : Prop :=
  ∃ k, (stR l cap pks k).left = 0 ∧ RunC g h D br (stR l cap pks k) (finL lp bd b1 b8 br l.length { r with state := .done, pending := some (.exit 2) } L) w
def finM (br : Nat) (P0 : Int) (B : Nat) (w : World) : Nat := match w.cell? ⟨br, 5, none⟩ with
  | some (.int _ z) => (P0 + B + 1 - z).toNat
  | _ => 0
theorem finM_run {r : RunS} {L : List (Nat × Obj)} {P0 : Int} (q : RunC g h D br r L w) : finM br P0 B w = (P0 + B + 1 - r.picks).toNat := by
  unfold finM; rw [q.picks]
def finAssign : Code := .region 9 #[{ dst := some 10, op := Op.assign (.tmp 40), type := 3, pos := "interleave.go:139", after := #[], guard := none }] false
theorem finRound (hF : FinPre l pks cap B inv) {r : Loop} (hs : r.state = .ready) (hpd : r.pending = none) (hps : r.params = #[40]) {sz : Nat} (hsz : r.tmps.size = sz) (c1 : codeOk sz r.assign = true) (c2 : codeOk sz r.body = true) (h41 : 48 < sz)
    {e : Env} (he : envOf ⟨r.tmps, []⟩ = e) (e8 : e 8 = .pointer (some ⟨b8, 0, none⟩)) (m1 : calmC r.assign = true) (m2 : calmC r.body = true)
    (hA : ∀ {Q : Post} {ee : Env} {w : World}, Q .normal (upd ee 10 (ee 40)) [] w → TC Tryz.prog tab r.assign Q ee [] w)
    (hBd : ∀ {Q : Post} {ee : Env} {p : Nat} {r0 : RunS} {L0 : List (Nat × Obj)} {w : World}, ee 8 = .pointer (some ⟨b8, 0, none⟩) → ee 10 = .int .i64 (p : Int) → RunC g h D br r0 L0 w → (b8, Obj.cells #[.pointer (some ⟨br, 0, none⟩)] 53 (0, 0)) ∈ L0 →
      (r0.left = 0 → ∀ ee2, Q (.exit 2) ee2 [] w) → (r0.left ≠ 0 → Ret Tryz.prog 21 [.pointer (some ⟨br, 0, none⟩), .int .i64 (p : Int)] w fun _ w' => ∀ ee2, Q .normal ee2 [] w') → TC Tryz.prog tab r.body Q ee [] w)
    {p : Nat} (hJ : finJ g h D br lp bd b1 b8 l cap pks r L p w) :
    YldO Tryz.prog lp [.int .i64 (p : Int)] w fun v w' => (v = .bool true ∧ finJ g h D br lp bd b1 b8 l cap pks r L ((p + 1) % l.length) w' ∧ finM br (stR l cap pks 0).picks B w' < finM br (stR l cap pks 0).picks B w) ∨ (v = .bool false ∧ finZ g h D br lp bd b1 b8 l cap pks r L w') := by
  obtain ⟨k, hk, hpk, q⟩ := hJ
  have hrec : ({ r with state := .ready, pending := none } : Loop) = r := by
    cases r; simp only at hs hpd; subst hs hpd; rfl
  have hl : w.heap[lp]? = some (.loop r) := q.mem (p := (lp, .loop r)) (.head _)
  have ht : roundTmps r [.int .i64 (p : Int)] = r.tmps.setIfInBounds 40 (.int .i64 (p : Int)) := by
    unfold roundTmps; rw [hps]; simp
  have hee : envOf ⟨roundTmps r [.int .i64 (p : Int)], []⟩ = upd e 40 (.int .i64 (p : Int)) := by
    have := envOf_put ⟨r.tmps, []⟩ (some 40) (.int .i64 (p : Int)) (fun t ht => by cases ht; show 40 < r.tmps.size; omega)
    rw [he] at this
    rw [ht]; exact this
  have hst := stR_ok hF k
  refine YldO.of tabOk hl hs (by rw [hps]; rfl) (n := sz) (by rw [ht, Array.size_setIfInBounds]; exact hsz) hee c1 c2 m1 m2 ?_
  refine hA ⟨rfl, hl, ?_⟩
  have q1 : RunC g h D br (stR l cap pks k) (finL lp bd b1 b8 br l.length { r with state := .busy } L) (w.putObj lp (.loop { r with state := .busy })) := RunW.put q _
  generalize w.putObj lp (.loop { r with state := .busy }) = w1 at q1
  have hmem : (b8, Obj.cells #[.pointer (some ⟨br, 0, none⟩)] 53 (0, 0)) ∈ finL lp bd b1 b8 br l.length { r with state := .busy } L := .tail _ (.tail _ (.tail _ (.head _)))
  refine hBd (p := p) (by show upd (upd e 40 _) 10 _ 8 = _; rw [upd_ne _ _ (by decide), upd_ne _ _ (by decide)]; exact e8) (by show upd (upd e 40 _) 10 _ 10 = _; rw [upd_same, upd_same]) q1 hmem (fun h0 ee2 => ?_) (fun h0 => ?_)
  · have hl1 : w1.heap[lp]? = some (.loop { r with state := .busy }) := q1.mem (p := (lp, .loop { r with state := .busy })) (.head _)
    refine ⟨_, hl1, .inr ⟨rfl, k, h0, ?_⟩⟩
    exact RunW.put q1 (.loop { r with state := .done, pending := some (.exit 2) })
  · have hlt := stR_lt hF h0
    have hl5 := hF.runs.left _ hst.1
    have hB1 := hF.B1
    have hpl : p < l.length := by rw [hk]; exact Nat.mod_lt _ hF.l1
    obtain ⟨K, hK⟩ := hF.good _ p hst.1 hpl (by omega) (by have := hst.2.2; omega)
    refine (runC_pick q1 (i := p) (by rw [hF.runs.thrs _ hst.1]; exact hpl) hK (by have := hst.2.2; omega) hst.2.1).mono fun v w2 q2 ee2 => ?_
    have hl2 : w2.heap[lp]? = some (.loop { r with state := .busy }) := q2.mem (p := (lp, .loop { r with state := .busy })) (.head _)
    refine ⟨_, hl2, .inl ⟨rfl, ?_, ?_⟩⟩
    · have hsu : stR l cap pks (k + 1) = pickM (stR l cap pks k) p := by rw [stR_succ hF, if_neg h0, hk]
      refine ⟨k + 1, by rw [hk, Nat.mod_add_mod], by rw [hsu, pickM_picks, hpk]; omega, ?_⟩
      rw [hsu]
      have q3 := RunW.put q2 (.loop { r with state := .ready, pending := none })
      rw [hrec] at q3
      have e9 : w2.putObj lp (.loop { ({ r with state := .busy } : Loop) with state := .ready, pending := none }) = w2.putObj lp (.loop r) := by rw [← hrec]
      rw [e9]
      exact q3
    · have q3 := RunW.put q2 (.loop { r with state := .ready, pending := none })
      have f1 : finM br (stR l cap pks 0).picks B w = ((stR l cap pks 0).picks + B + 1 - (stR l cap pks k).picks).toNat := finM_run q
      have f2 : finM br (stR l cap pks 0).picks B (w2.putObj lp (.loop { r with state := .ready, pending := none })) = ((stR l cap pks 0).picks + B + 1 - (pickM (stR l cap pks k) p).picks).toNat := by
        unfold finM; rw [q3.picks]
      show finM br (stR l cap pks 0).picks B (w2.putObj lp (.loop { r with state := .ready, pending := none })) < _
      rw [f1, f2, pickM_picks, hpk]
      omega
end
end Go.Proofs.YtbdoinigeaaclaaGreat
