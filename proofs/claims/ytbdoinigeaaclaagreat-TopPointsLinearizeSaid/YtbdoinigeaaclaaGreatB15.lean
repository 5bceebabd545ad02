/- Making a running call of any kind. Conditions: none.
   A thread of a workload: is it done, its next call. Conditions: its slices are short. -/
import Derived.Test.YtbdoinigeaaclaaGreatB14
set_option linter.all false
set_option maxRecDepth 20000
namespace Go.Proofs.YtbdoinigeaaclaaGreat
open Go RL PQ
variable {g : World} {h h' : Hp} {w : World} {L : List (Nat × Obj)}
section
variable {D : SD} {t : Int} {c : PQ.Call} {b3 b4 b5 : Nat}
/-- What creating a call leaves. -/
def CreP (g : World) (h : Hp) (D : SD) (t : Int) (o : PQ.OpS) (L : List (Nat × Obj)) (v : Value) (w : World) : Prop := ∃ (h' : Hp) (x : List (Nat × Obj)), h.le h' ∧ OpB D h' t v o x ∧ St g h' w (x ++ L)
theorem cre1 (H : St g h w L) (c3 : HC h b3 0 [.pointer (some ⟨D.bs, 0, none⟩)]) (c4 : HC h b4 0 [.int .i64 t]) (c5 : HC h b5 0 (callL c)) (hk : c.kind = 1) :
    Ret Tryz.prog 56 [.pointer (some ⟨b3, 0, none⟩), .pointer (some ⟨b4, 0, none⟩), .pointer (some ⟨b5, 0, none⟩)] w (CreP g h D t (newO c) L) := by
  have hn : newO c = .ins (insNewO c.time) := if_pos hk
  refine Ret.enter tabOk Tryz.func56 rfl (by rfl) rfl (by rfl) (by kernel_rfl) ?_
  refine LdO.hc H c3 (j := 0) rfl ?_
  refine LdO.hc H c4 (j := 0) rfl ?_
  refine LdO.hcs H c5 (j := 0) rfl ?_
  refine (insNew H D t c).mono ?_; intro v w q
  refine q.elim fun bo q => q.elim fun h' q => ?_
  have hv := q.1; have hl := q.2.1; have H := q.2.2; clear q
  subst hv
  refine PurO.mkIface Tryz.underlying122 ?_
  have fin : CreP g h D t (newO c) L (.iface 122 (ptrV bo)) w := by
    rw [hn]
    exact ⟨h', _, hl, ⟨bo, insNewP, _, _, rfl, ⟨OwnSl.nil _ _, rfl, ⟨rfl, rfl⟩, ⟨rfl, rfl⟩⟩, rfl, rfl⟩, by rw [insL_app]; exact H⟩
  exact fin
theorem cre2 (H : St g h w L) (c3 : HC h b3 0 [.pointer (some ⟨D.bs, 0, none⟩)]) (c4 : HC h b4 0 [.int .i64 t]) (c5 : HC h b5 0 (callL c)) (hk : c.kind = 2) :
    Ret Tryz.prog 58 [.pointer (some ⟨b3, 0, none⟩), .pointer (some ⟨b4, 0, none⟩), .pointer (some ⟨b5, 0, none⟩)] w (CreP g h D t (newO c) L) := by
  have hn : newO c = .can ⟨c.handle, 0, 0, false⟩ := by unfold newO; rw [if_neg (by omega), if_pos hk]
  refine Ret.enter tabOk Tryz.func58 rfl (by rfl) rfl (by rfl) (by kernel_rfl) ?_
  refine LdO.hc H c3 (j := 0) rfl ?_
  refine LdO.hc H c4 (j := 0) rfl ?_
  refine LdO.hcs H c5 (j := 0) rfl ?_
  refine (canNew H D t c).mono ?_; intro v w q
  refine q.elim fun bo q => ?_
  have hv := q.1; have H := q.2; clear q
  subst hv
  refine PurO.mkIface Tryz.underlying125 ?_
  have fin : CreP g h D t (newO c) L (.iface 125 (ptrV bo)) w := by
    rw [hn]
    exact ⟨h, _, Hp.le_refl h, ⟨bo, _, rfl, rfl⟩, H⟩
  exact fin
theorem cre3 (H : St g h w L) (c3 : HC h b3 0 [.pointer (some ⟨D.bs, 0, none⟩)]) (c4 : HC h b4 0 [.int .i64 t]) (c5 : HC h b5 0 (callL c)) (hk : c.kind = 3) :
    Ret Tryz.prog 60 [.pointer (some ⟨b3, 0, none⟩), .pointer (some ⟨b4, 0, none⟩), .pointer (some ⟨b5, 0, none⟩)] w (CreP g h D t (newO c) L) := by
  have hn : newO c = .bat (batNewO c) := by unfold newO; rw [if_neg (by omega), if_neg (by omega), if_pos hk]; rfl
  refine Ret.enter tabOk Tryz.func60 rfl (by rfl) rfl (by rfl) (by kernel_rfl) ?_
  refine LdO.hc H c3 (j := 0) rfl ?_
  refine LdO.hc H c4 (j := 0) rfl ?_
  refine LdO.hcs H c5 (j := 0) rfl ?_
  refine (batNew H D t c).mono ?_; intro v w q
  refine q.elim fun bo q => ?_
  have hv := q.1; have H := q.2; clear q
  subst hv
  refine PurO.mkIface Tryz.underlying127 ?_
  have fin : CreP g h D t (newO c) L (.iface 127 (ptrV bo)) w := by
    rw [hn]
    exact ⟨h, _, Hp.le_refl h, ⟨bo, batNewP, _, rfl, ⟨.inl (OwnSl.nil _ _), OwnSl.nil _ _, .inl ⟨rfl, rfl, rfl⟩, rfl⟩, rfl⟩, by rw [batL_app]; exact H⟩
  exact fin
def clo (f : Nat) (b3 b4 b5 : Nat) : Value := .func (.func f) #[] #[.pointer (some ⟨b3, 0, none⟩), .pointer (some ⟨b4, 0, none⟩), .pointer (some ⟨b5, 0, none⟩)]
def kindE (b3 b4 b5 : Nat) : Array MapEntry := #[⟨.int .i64 1, clo 56 b3 b4 b5, 0⟩, ⟨.int .i64 2, clo 58 b3 b4 b5, 1⟩, ⟨.int .i64 3, clo 60 b3 b4 b5, 2⟩]
def kindR (b3 b4 b5 : Nat) (z : Int) : Option (Nat × Value) :=
  if z = 1 then some (0, clo 56 b3 b4 b5) else if z = 2 then some (1, clo 58 b3 b4 b5) else if z = 3 then some (2, clo 60 b3 b4 b5) else none
theorem find_kind (z : Int) : Instr.findNow (.int .i64) (.int .i64 z) (kindE b3 b4 b5).toList 0 = some (kindR b3 b4 b5 z) := by
  unfold kindR
  by_cases h1 : z = 1
  · subst h1; rfl
  · by_cases h2 : z = 2
    · subst h2; rfl
    · by_cases h3 : z = 3
      · subst h3; rfl
      · rw [if_neg h1, if_neg h2, if_neg h3]
        have e1 : (z == 1) = false := by simpa using h1
        have e2 : (z == 2) = false := by simpa using h2
        have e3 : (z == 3) = false := by simpa using h3
        simp [kindE, Instr.findNow, Instr.sameNow, e1, e2, e3]
/-- What New leaves. -/
def NewP (g : World) (h : Hp) (D : SD) (t : Int) (o : PQ.OpS) (L : List (Nat × Obj)) (v : Value) (w : World) : Prop :=
  ∃ (h' : Hp) (bc : Nat) (iv : Value) (x : List (Nat × Obj)), v = .pointer (some ⟨bc, 0, none⟩) ∧ h.le h' ∧ OpB D h' t iv o x ∧ St g h' w (callB bc iv 0 :: (x ++ L))
theorem OpB.iface {iv : Value} {o : PQ.OpS} {x : List (Nat × Obj)} (q : OpB D h t iv o x) : ∃ (k : TypeId) (b : Nat), iv = .iface k (ptrV b) := by
  match o, q with
  | .ins o, ⟨bo, _, _, _, q, _⟩ => exact ⟨_, bo, q⟩
  | .can o, ⟨bo, _, q, _⟩ => exact ⟨_, bo, q⟩
  | .bat o, ⟨bo, _, _, q, _⟩ => exact ⟨_, bo, q⟩
  | .unk b, ⟨bo, q, _⟩ => exact ⟨_, bo, q⟩
set_option maxHeartbeats 1000000 in
theorem cpqNew (H : St g h w L) (D : SD) (t : Int) (c : PQ.Call) : Ret Tryz.prog 43 [.pointer (some ⟨D.bs, 0, none⟩), .int .i64 t, callV c] w (NewP g h D t (newO c) L) := by
  refine Ret.enter tabOk Tryz.func43 rfl (by rfl) rfl (by rfl) (by kernel_rfl) ?_
  refine AllocO.own H fun b3 w H => ?_
  refine (sealC (c := #[.pointer (some ⟨D.bs, 0, none⟩)]) H).elim fun h1 q => ?_
  have l1 := q.1; have c3 := q.2.1; have H := q.2.2; clear q
  refine AllocO.own H fun b4 w H => ?_
  refine (sealC (c := #[.int .i64 t]) H).elim fun h2 q => ?_
  have l2 := q.1; have c4 := q.2.1; have H := q.2.2; clear q
  refine AllocO.own H fun b5 w H => ?_
  refine (sealC (c := (callL c).toArray) H).elim fun h3 q => ?_
  have l3 := q.1; have c5 := q.2.1; have H := q.2.2; clear q
  have c3 := (c3.le l2).le l3
  have c4 := c4.le l3
  have hl : h.le h3 := Hp.le_trans l1 (Hp.le_trans l2 l3)
  clear l1 l2 l3
  refine RunO.makeMap H fun bm w H => ?_
  refine RunO.insertNew H Tryz.underlying129 Tryz.underlying3 .head rfl rfl rfl fun w H => ?_
  refine RunO.insertNew H Tryz.underlying129 Tryz.underlying3 .head rfl rfl rfl fun w H => ?_
  refine RunO.insertNew H Tryz.underlying129 Tryz.underlying3 .head rfl rfl rfl fun w H => ?_
  have H : St g h3 w ((bm, .map (kindE b3 b4 b5) 3) :: L) := H
  refine LdO.hc H c5 (j := 0) rfl ?_
  have hz : ∀ w, (Go.zeroValue 124).run Tryz.prog w = .ok .nilFunc w := fun w => ty124.zero w
  refine RunO.lookupInt H Tryz.underlying129 Tryz.underlying3 .head rfl rfl (find_kind c.kind) (hz _) ?_
  have H := H.tail
  by_cases h1 : c.kind = 1
  · have e : kindR b3 b4 b5 c.kind = some (0, clo 56 b3 b4 b5) := if_pos h1
    rw [e]
    refine CondT.of (u := true) rfl ?_
    refine (cre1 H c3 c4 c5 h1).mono ?_; intro v w q
    refine q.elim fun h4 q => q.elim fun x q => ?_
    have l4 := q.1; have hb := q.2.1; have H := q.2.2; clear q
    refine hb.iface.elim fun k q => q.elim fun bo q => ?_
    subst q
    refine AllocO.own H fun bc w H => ?_
    exact ⟨h4, bc, _, x, rfl, Hp.le_trans hl l4, hb, H⟩
  by_cases h2 : c.kind = 2
  · have e : kindR b3 b4 b5 c.kind = some (1, clo 58 b3 b4 b5) := (if_neg h1).trans (if_pos h2)
    rw [e]
    refine CondT.of (u := true) rfl ?_
    refine (cre2 H c3 c4 c5 h2).mono ?_; intro v w q
    refine q.elim fun h4 q => q.elim fun x q => ?_
    have l4 := q.1; have hb := q.2.1; have H := q.2.2; clear q
    refine hb.iface.elim fun k q => q.elim fun bo q => ?_
    subst q
    refine AllocO.own H fun bc w H => ?_
    exact ⟨h4, bc, _, x, rfl, Hp.le_trans hl l4, hb, H⟩
  by_cases h3 : c.kind = 3
  · have e : kindR b3 b4 b5 c.kind = some (2, clo 60 b3 b4 b5) := (if_neg h1).trans ((if_neg h2).trans (if_pos h3))
    rw [e]
    refine CondT.of (u := true) rfl ?_
    refine (cre3 H c3 c4 c5 h3).mono ?_; intro v w q
    refine q.elim fun h4 q => q.elim fun x q => ?_
    have l4 := q.1; have hb := q.2.1; have H := q.2.2; clear q
    refine hb.iface.elim fun k q => q.elim fun bo q => ?_
    subst q
    refine AllocO.own H fun bc w H => ?_
    exact ⟨h4, bc, _, x, rfl, Hp.le_trans hl l4, hb, H⟩
  · have e : kindR b3 b4 b5 c.kind = none := (if_neg h1).trans ((if_neg h2).trans (if_neg h3))
    have hn : newO c = .unk false := by unfold newO; rw [if_neg h1, if_neg h2, if_neg h3]
    rw [e]
    refine CondT.of (u := false) rfl ?_
    refine AllocO.own H fun bu w H => ?_
    refine PurO.mkIface Tryz.underlying131 ?_
    refine AllocO.own H fun bc w H => ?_
    have fin : NewP g h D t (newO c) L (.pointer (some ⟨bc, 0, none⟩)) w := by
      rw [hn]
      exact ⟨_, bc, _, _, rfl, hl, ⟨bu, rfl, rfl⟩, H⟩
    exact fin
end
end Go.Proofs.YtbdoinigeaaclaaGreat
set_option maxRecDepth 20000
namespace Go.Proofs.YtbdoinigeaaclaaGreat
open Go RL PQ
variable {g : World} {h h' : Hp} {w : World} {L : List (Nat × Obj)}
/-- What stands in a thread's cells. -/
structure TV where
  t : Thr
  sa : Option Addr
  sc : Nat
  ra : Option Addr
  rc : Nat
  rx : List (Nat × Obj)
  rps : List RP
  bc : Nat
  iv : Value
  n : Int
  ox : List (Nat × Obj)
  ea : Option Addr
  ec : Nat
def TV.dp (V : TV) : DP := ⟨V.t.cur, V.ea, V.ec⟩
def TV.row (V : TV) : List Value :=
  [.slice V.sa V.t.script.length V.sc, .slice V.ra V.t.results.length V.rc, .pointer (match V.t.run with | some _ => some ⟨V.bc, 0, none⟩ | none => none),
   .int .i64 V.t.cur.thread, .int .i64 V.t.cur.call.kind, .int .i64 V.t.cur.call.time, .int .i64 V.t.cur.call.handle, .int .i64 V.t.cur.call.max, .int .i64 V.t.cur.call.bound,
   .int .i64 V.t.cur.res.err, .int .i64 V.t.cur.res.rh, .bool V.t.cur.res.canc, .slice V.ea V.t.cur.res.evs.length V.ec, .int .i64 V.t.cur.beg, .int .i64 V.t.cur.point, .int .i64 V.t.cur.fin]
structure TV.ok (h : Hp) (D : SD) (p : Nat) (V : TV) : Prop where
  script : Sl h 5 (.slice V.sa V.t.script.length V.sc) (V.t.script.map callL)
  res : OwnSl 38 4 (.slice V.ra V.t.results.length V.rc) (V.rps.map RP.row) V.rx
  rps : V.rps.map RP.r = V.t.results
  rok : ∀ r ∈ V.rps, r.ok h
  ev : EvS h V.dp.ev V.t.cur.res.evs
  run : match V.t.run with | none => True | some o => OpB D h p V.iv o V.ox ∧ 0 ≤ V.n
theorem TV.ok.le {D : SD} {p : Nat} {V : TV} (q : V.ok h D p) (hl : h.le h') : V.ok h' D p := by
  refine ⟨q.script.le hl, q.res, q.rps, fun r hr => (q.rok r hr).le hl, q.ev.le hl, ?_⟩
  have h1 := q.run
  cases hr : V.t.run with
  | none => trivial
  | some o => rw [hr] at h1; exact ⟨h1.1.le hl, h1.2⟩
def TV.ops (V : TV) : List (Nat × Obj) := match V.t.run with | none => [] | some _ => callB V.bc V.iv V.n :: V.ox
def TV.blocks (V : TV) : List (Nat × Obj) := V.rx ++ V.ops
section
variable {bt n cap i : Nat} {c : Array Value} {rows : List (List Value)} {V : TV} {D : SD}
/-- The threads' rows. -/
abbrev Rows (bt : Nat) (c : Array Value) (rows : List (List Value)) (n cap : Nat) : Prop := OwnSl 90 16 (.slice (some ⟨bt, 0, none⟩) n cap) rows [(bt, .cells c 90 (0, 0))]
theorem Rows.cell (ho : Rows bt c rows n cap) (hi : i < rows.length) {row : List Value} (hr : rows[i] = row) (j : Nat) (hj : j < 16) : c.toList[i * 16 + j]? = row[j]? := by rw [← hr]; exact OwnSl.read ho hi hj
theorem thFinished (H : St g h w ((bt, .cells c 90 (0, 0)) :: L)) (ho : Rows bt c rows n cap) (hi : i < rows.length) (hr : rows[i] = V.row) :
    Ret Tryz.prog 41 [.pointer (some ⟨bt, i * 16, none⟩)] w fun v w' => v = .bool (decide (V.t.results.length = V.t.script.length)) ∧ St g h w' ((bt, .cells c 90 (0, 0)) :: L) := by
  refine Ret.enter tabOk Tryz.func41 rfl (by rfl) rfl (by rfl) (by kernel_rfl) ?_
  refine DrawO.st H (pl [0, 1, 2, 3, 4, 5, 6, 7, 8, 9, 10, 11] .nil) (by kernel_rfl) fun w H => ?_
  refine LdQ.ownE .head (ho.cell hi hr 1 (by decide)) ?_
  refine LdQ.ownE .head (ho.cell hi hr 0 (by decide)) ?_
  refine ⟨Eq.trans (b := .bool (decide ((V.t.results.length : Int) = V.t.script.length))) rfl ?_, H⟩
  congr 1
  exact decide_eq_decide.2 (by omega)
/-- Searching a thread's results for the one that stands for a handle. -/
theorem find_first {α : Type} {p : α → Bool} : ∀ {l : List α} {i : Nat} (hi : i < l.length), (∀ j (hj : j < i), p (l[j]'(by omega)) = false) → p l[i] = true → l.find? p = some l[i]
  | x :: l, 0, _, _, h => by rw [List.find?_cons, show p x = true from h]; rfl
  | x :: l, i + 1, hi, hno, h => by
    have h0 := hno 0 (by omega)
    rw [List.find?_cons, show p x = false from h0]
    exact find_first (l := l) (i := i) (by simpa using hi) (fun j hj => hno (j + 1) (by omega)) h
theorem nextT_found {t : Thr} {i : Nat} (hi : i < t.results.length) (hno : ∀ j, j < i → substP t.script t.results (t.script[t.results.length]?.getD call0).handle j = false)
    (h : substP t.script t.results (t.script[t.results.length]?.getD call0).handle i = true) : nextT t = { t.script[t.results.length]?.getD call0 with handle := (t.results[i]?.getD {}).rh } := by
  unfold nextT
  have h2 := find_first (l := List.range t.results.length) (p := substP t.script t.results (t.script[t.results.length]?.getD call0).handle) (i := i) (by simpa using hi) (fun j hj => by rw [List.getElem_range]; exact hno j hj) (by rw [List.getElem_range]; exact h)
  rw [List.getElem_range] at h2
  simp only [h2]
theorem nextT_none {t : Thr} (hno : ∀ j, j < t.results.length → substP t.script t.results (t.script[t.results.length]?.getD call0).handle j = false) : nextT t = t.script[t.results.length]?.getD call0 := by
  unfold nextT
  have h2 : (List.range t.results.length).find? (substP t.script t.results (t.script[t.results.length]?.getD call0).handle) = none := by
    rw [List.find?_eq_none]
    intro j hj
    rw [List.mem_range] at hj
    rw [hno j hj]; decide
  simp only [h2]
set_option maxHeartbeats 1000000 in
theorem thNext (H : St g h w ((bt, .cells c 90 (0, 0)) :: (V.rx ++ L))) (ho : Rows bt c rows n cap) (hi : i < rows.length) (hr : rows[i] = V.row) {q : Nat} (hV : V.ok h D q) (hlt : V.t.results.length < V.t.script.length) (hsm : V.t.script.length ≤ 1000) :
    Ret Tryz.prog 42 [.pointer (some ⟨bt, i * 16, none⟩)] w fun v w' => v = callV (nextT V.t) ∧ St g h w' ((bt, .cells c 90 (0, 0)) :: (V.rx ++ L)) := by
  obtain ⟨c0, hc0⟩ : ∃ c0, c0 = V.t.script[V.t.results.length]?.getD call0 := ⟨_, rfl⟩
  have hc0' : V.t.script[V.t.results.length] = c0 := by rw [hc0, List.getElem?_eq_getElem hlt]; rfl
  obtain ⟨bi, oi, hidx, hrow⟩ := Sl.idxM hV.script hlt
  rw [hc0'] at hrow
  obtain ⟨rb, hrb⟩ := OwnSl.rows hV.res
  have hrlen : (V.rps.map RP.row).length = V.t.results.length := by rw [← hV.rps]; simp
  have hrpl : V.rps.length = V.t.results.length := by rw [← hV.rps]; simp
  let hrp : ∀ k, k < V.t.results.length → RP := fun k hk => V.rps[k]'(by rw [hrpl]; exact hk)
  have hrow2 : ∀ k (hk : k < V.t.results.length), (V.rps.map RP.row)[k]'(by rw [hrlen]; exact hk) = RP.row (hrp k hk) := fun k hk => List.getElem_map ..
  have hres2 : ∀ k (hk : k < V.t.results.length), (hrp k hk).r = V.t.results[k] := fun k hk => by
    have h5 : (V.rps.map RP.r)[k]'(by rw [List.length_map, hrpl]; exact hk) = (hrp k hk).r := List.getElem_map ..
    rw [← h5]; congr 1; exact hV.rps
  clear_value hrp
  have hsp : ∀ k (hk : k < V.t.results.length), substP V.t.script V.t.results c0.handle k = true ↔ c0.handle = -(k : Int) - 1 ∧ (V.t.script[k]'(by omega)).kind = 1 ∧ (hrp k hk).r.err = 0 := fun k hk => by
    unfold substP
    rw [List.getElem?_eq_getElem (show k < V.t.script.length by omega), List.getElem?_eq_getElem hk, hres2 k hk]
    simp only [Option.getD_some, Bool.and_eq_true, decide_eq_true_eq]
    exact ⟨fun q => ⟨q.1.1, q.1.2, q.2⟩, fun q => ⟨⟨q.1, q.2.1⟩, q.2.2⟩⟩
  have hfnd : ∀ k (hk : k < V.t.results.length), (∀ j, j < k → substP V.t.script V.t.results c0.handle j = false) → substP V.t.script V.t.results c0.handle k = true → callV { c0 with handle := (hrp k hk).r.rh } = callV (nextT V.t) := fun k hk hno hs => by
    rw [nextT_found hk (by rw [← hc0]; exact hno) (by rw [← hc0]; exact hs), ← hc0, List.getElem?_eq_getElem hk, hres2 k hk]; rfl
  have hnone : (∀ j, j < V.t.results.length → substP V.t.script V.t.results c0.handle j = false) → callV c0 = callV (nextT V.t) := fun hno => by
    rw [nextT_none (by rw [← hc0]; exact hno), ← hc0]
  have hnx : ∀ k (hk : k < V.t.results.length), (∀ j, j < k → substP V.t.script V.t.results c0.handle j = false) → ¬ (c0.handle = -(k : Int) - 1 ∧ (V.t.script[k]'(by omega)).kind = 1 ∧ (hrp k hk).r.err = 0) → ∀ j, j < k + 1 → substP V.t.script V.t.results c0.handle j = false := fun k hk hno hn j hj => by
    rcases Nat.lt_succ_iff_lt_or_eq.1 hj with h1 | h1
    · exact hno j h1
    · subst h1
      cases hs : substP V.t.script V.t.results c0.handle j with
      | false => rfl
      | true => exact absurd ((hsp j hk).1 hs) hn
  refine Ret.enter tabOk Tryz.func42 rfl (by rfl) rfl (by rfl) (by kernel_rfl) ?_
  refine AllocO.own H fun b2 w H => ?_
  refine DrawO.wi H (fun w => w.cell? ⟨bt, i * 16, none⟩ = some (.slice V.sa V.t.script.length V.sc) ∧ w.cell? ⟨bt, i * 16 + 1, none⟩ = some (.slice V.ra V.t.results.length V.rc) ∧ Cells w bi oi (callL c0))
    (fun w H => ⟨H.ocell (.tail .head) (by rw [nth_eq]; exact ho.cell hi hr 0 (by decide)), H.ocell (.tail .head) (by rw [nth_eq]; exact ho.cell hi hr 1 (by decide)), H.hcells hrow⟩)
    (pl [0, 1, 2, 3, 4, 5, 6, 7, 8, 9, 10, 1011, 1012] .nil) (by kernel_rfl) fun w H => ?_
  refine LdQ.cell (fun _ hs => hs.1) ?_
  refine LdQ.cell (fun _ hs => hs.2.1) ?_
  refine hidx _ _ _ rfl ?_
  refine LdQ.cellsO (fun _ hs => hs.2.2) rfl ?_
  have hS : ∀ {w b3} {cc : List Value} {b2}, St g h w ((b3, .cells cc.toArray 34 (0, 0)) :: (b2, .cells (callL call0).toArray 34 (0, 0)) :: (bt, .cells c 90 (0, 0)) :: (V.rx ++ L)) → True := fun _ => trivial
  refine AllocO.own H fun b3 w H => ⟨⟨H.ocell (.tail (.tail .head)) (by rw [nth_eq]; exact ho.cell hi hr 0 (by decide)), H.ocell (.tail (.tail .head)) (by rw [nth_eq]; exact ho.cell hi hr 1 (by decide)), H.hcells hrow⟩, ?_⟩
  refine StO.own H .head rfl rfl rfl fun w H => ⟨⟨H.ocell (.tail (.tail .head)) (by rw [nth_eq]; exact ho.cell hi hr 0 (by decide)), H.ocell (.tail (.tail .head)) (by rw [nth_eq]; exact ho.cell hi hr 1 (by decide)), H.hcells hrow⟩, ?_⟩
  have H : St g h w ((b3, .cells (callL c0).toArray 34 (0, 0)) :: (b2, .cells (callL call0).toArray 34 (0, 0)) :: (bt, .cells c 90 (0, 0)) :: (V.rx ++ L)) := H
  clear hS
  refine LdO.ownE H (.tail (.tail .head)) (ho.cell hi hr 1 (by decide)) ?_
  refine LoopO.run (σ := Nat) (fun i' => [(0, .pointer (some ⟨bt, i * 16, none⟩)), (2, .pointer (some ⟨b2, 0, none⟩)), (3, .pointer (some ⟨b3, 0, none⟩)), (20, .slice V.ra V.t.results.length V.rc), (21, .int .i64 V.t.results.length), (22, .int .i64 i')])
    (fun i' w => St g h w ((b3, .cells (callL c0).toArray 34 (0, 0)) :: (b2, .cells (callL call0).toArray 34 (0, 0)) :: (bt, .cells c 90 (0, 0)) :: (V.rx ++ L)) ∧ i' ≤ V.t.results.length ∧ ∀ j, j < i' → substP V.t.script V.t.results c0.handle j = false)
    (fun i' => V.t.results.length - i') 0 (by exact ⟨rfl, rfl, rfl, rfl, rfl, rfl, trivial⟩) ⟨H, Nat.zero_le _, fun j hj => absurd hj (Nat.not_lt_zero j)⟩ ?_
  rintro k w e ⟨H, hk, hno⟩
  refine CondT.dec (fun hlt2 => ?_) (fun hge => ?_)
  · have hlt3 : k < V.t.results.length := by have h3 : (k : Int) < V.t.results.length := hlt2; omega
    have hkr : k < (V.rps.map RP.row).length := by rw [hrlen]; exact hlt3
    refine (hrb k hkr).1 _ _ _ rfl ?_
    have hrk := hrow2 k hlt3
    refine LdO.cellsO (vs := RP.row (hrp k hlt3)) (by rw [← hrk]; exact (hrb k hkr).2 H (fun q hq => .tail _ (.tail _ (.tail _ (List.mem_append_left _ hq))))) rfl ?_
    refine AllocO.own H fun b5 w H => ?_
    refine StO.own H .head rfl rfl rfl fun w H => ?_
    have H : St g h w ((b5, .cells (RP.row (hrp k hlt3)).toArray 38 (0, 0)) :: (b3, .cells (callL c0).toArray 34 (0, 0)) :: (b2, .cells (callL call0).toArray 34 (0, 0)) :: (bt, .cells c 90 (0, 0)) :: (V.rx ++ L)) := H
    refine LdO.own H (.tail .head) rfl ?_
    refine ArO.i64 ?_ (by omega) (by omega)
    refine ArO.i64 ?_ (by omega) (by omega)
    refine CondT.dec (fun h1 => ?_) (fun h1 => ?_)
    · have h1' : c0.handle = -(k : Int) - 1 := by have h3 : c0.handle = 0 - (k : Int) - 1 := h1; omega
      refine LdO.ownE H (.tail (.tail (.tail .head))) (ho.cell hi hr 0 (by decide)) ?_
      refine (Sl.idxM hV.script (i := k) (by omega)).elim fun bk q => q.elim fun ok q => ?_
      have hidk := q.1; have hrk2 := q.2; clear q
      refine hidk _ _ _ rfl ?_
      refine LdO.hc H hrk2 (j := 0) rfl ?_
      refine CondT.dec (fun h2 => ?_) (fun h2 => ?_)
      · have h2' : V.t.script[k].kind = 1 := h2
        refine LdO.own H .head rfl ?_
        refine CondT.dec (fun h4 => ?_) (fun h4 => ?_)
        · have h4' : (hrp k hlt3).r.err = 0 := h4
          have hsub : substP V.t.script V.t.results c0.handle k = true := (hsp k hlt3).2 ⟨h1', h2', h4'⟩
          refine LdO.own H .head rfl ?_
          refine StO.own H (.tail .head) rfl rfl rfl fun w H => ?_
          have H : St g h w ((b5, .cells (RP.row (hrp k hlt3)).toArray 38 (0, 0)) :: (b3, .cells (callL { c0 with handle := (hrp k hlt3).r.rh }).toArray 34 (0, 0)) :: (b2, .cells (callL call0).toArray 34 (0, 0)) :: (bt, .cells c 90 (0, 0)) :: (V.rx ++ L)) := H
          refine LdO.owns H (.tail .head) rfl ?_
          refine StO.own H (.tail (.tail .head)) rfl rfl rfl fun w H => ?_
          refine LdO.owns H (.tail (.tail .head)) rfl ?_
          refine ⟨Eq.trans (b := callV { c0 with handle := (hrp k hlt3).r.rh }) rfl ?_, H.tail.tail.tail⟩
          rw [hfnd k hlt3 hno hsub]
        · have h4' : ¬ (hrp k hlt3).r.err = 0 := h4
          refine ArO.i64 ?_ (by omega) (by omega)
          exact ⟨rfl, k + 1, ⟨rfl, rfl, rfl, rfl, rfl, rfl, trivial⟩, ⟨H.tail, hlt3, hnx k hlt3 hno (fun q => h4' q.2.2)⟩, by omega⟩
      · have h2' : ¬ V.t.script[k].kind = 1 := h2
        refine CondT.mk ?_
        refine ArO.i64 ?_ (by omega) (by omega)
        exact ⟨rfl, k + 1, ⟨rfl, rfl, rfl, rfl, rfl, rfl, trivial⟩, ⟨H.tail, hlt3, hnx k hlt3 hno (fun q => h2' q.2.1)⟩, by omega⟩
    · have h1' : ¬ c0.handle = -(k : Int) - 1 := by have h3 : ¬ c0.handle = 0 - (k : Int) - 1 := h1; omega
      refine CondT.mk ?_
      refine CondT.mk ?_
      refine ArO.i64 ?_ (by omega) (by omega)
      exact ⟨rfl, k + 1, ⟨rfl, rfl, rfl, rfl, rfl, rfl, trivial⟩, ⟨H.tail, hlt3, hnx k hlt3 hno (fun q => h1' q.1)⟩, by omega⟩
  · refine LdO.owns H .head rfl ?_
    refine StO.own H (.tail .head) rfl rfl rfl fun w H => ?_
    refine LdO.owns H (.tail .head) rfl ?_
    refine ⟨Eq.trans (b := callV c0) rfl ?_, H.tail.tail⟩
    rw [hnone fun j hj => hno j (by have h3 : ¬ (k : Int) < V.t.results.length := hge; omega)]
end
end Go.Proofs.YtbdoinigeaaclaaGreat
