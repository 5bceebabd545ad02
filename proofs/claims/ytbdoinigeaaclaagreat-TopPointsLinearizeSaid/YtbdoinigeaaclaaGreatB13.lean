/- A batch running: its Step. Conditions: the store is in order; what the batch holds lies in slots. -/
import Derived.Test.YtbdoinigeaaclaaGreatB12
set_option linter.all false
set_option maxRecDepth 20000
namespace Go.Proofs.YtbdoinigeaaclaaGreat
open Go RL PQ
variable {g : World} {h h' : Hp} {w : World} {L : List (Nat × Obj)}
def mutC : Array Value := #[.int .i64 0, .int .i64 1, .int .i64 2, .int .i64 3]
theorem mutC_at {k : Nat} (hk : k < 4) : nth mutC.toList k = some (.int .i64 (k : Int)) := by
  match k, hk with
  | 0, _ => rfl
  | 1, _ => rfl
  | 2, _ => rfl
  | 3, _ => rfl
theorem batMutexes (H : St g h w L) : Ret Tryz.prog 195 [] w fun v w' => v = .agg mutC ∧ St g h w' L := by
  refine Ret.enter tabOk Tryz.func195 rfl (by rfl) rfl (by rfl) (by kernel_rfl) ?_
  refine AllocO.own H fun b w H => ?_
  refine StO.own H .head rfl rfl rfl fun w H => ?_
  refine LdO.owns H .head rfl ?_
  exact ⟨rfl, H.tail⟩
section
variable {D : SD} {V : SV} {s : Sto} {N : Nat} {t : Int} {bo : Nat} {P : BatP} {o : BatOp} {bl : Bool}
theorem IdaO.at0 {len sz b i : Nat} {kk : IntKind} {z : Int} (hz : z = i) (hi : i < len) {K : Value → Prop} (k : K (.pointer (some ⟨b, i * sz, none⟩))) : IdaO len sz (.pointer (some ⟨b, 0, none⟩)) (.int kk z) K :=
  ⟨⟨b, 0, kk, z, rfl, rfl, by omega, by omega, by subst hz; rw [Int.toNat_natCast, Nat.zero_add]; exact k⟩⟩
theorem batBackP {c : Nat × Obj} : (c :: batL D t bo P o bl (stoL D V s L)).Perm (batL D t bo P o bl (stoL D V s (c :: L))) := by
  unfold batL
  rw [stoL_eq D V s L, stoL_eq D V s (c :: L), app3, app3, ← List.append_assoc, ← List.append_assoc]
  exact List.perm_middle.symm
theorem BatW.drop {c : Nat × Obj} (q : BatW g h D t bo s o N (c :: L) w) : BatW g h D t bo s o N L w := by
  obtain ⟨h', V, P, bl, h1, h2, h3, H⟩ := q
  exact ⟨h', V, P, bl, h1, h2, h3, (H.perm batBackP.symm).tail⟩
theorem BatW.less (q : BatW g h' D t bo s o N L w) (hl : h.le h') : BatW g h D t bo s o N L w := by
  obtain ⟨h2, V, P, bl, h1, q⟩ := q
  exact ⟨h2, V, P, bl, Hp.le_trans hl h1, q⟩
theorem BatW.mono {M : Nat} (q : BatW g h D t bo s o N L w) (hm : N ≤ M) : BatW g h D t bo s o M L w := by
  obtain ⟨h2, V, P, bl, h1, h3, q⟩ := q
  exact ⟨h2, V, P, bl, h1, h3.mono hm, q⟩
/-- What a step of a batch wants. -/
structure BatPre (s : Sto) (o : BatOp) (K : Int) : Prop where
  sok : SOk s K
  k : K ≤ 1000000
  rl : o.removed.length ≤ 1000
  el : o.events.length ≤ 1000
  held : o.held ≤ 4
  claim : o.claim = true → o.scanned = false ∧ (∃ n : Nat, o.item.slot = n ∧ n < s.slots.length) ∧ 0 ≤ o.word ∧ o.word ≤ 4 * K + 3
  peek : o.scanned = false → ∀ it, (peekS s).2 = some it → ∃ n : Nat, it.slot = n ∧ n < s.slots.length
  done : o.scanned = true → 1 ≤ o.held ∧ ∀ x ∈ o.removed, ∃ n : Nat, x = n ∧ n < s.slots.length
/-- What was removed is sealed. -/
theorem batSeal (H : St g h w (batL D t bo P o bl L)) (hp : P.ok h o) : ∃ h' P', h.le h' ∧ P'.ok h' { o with scanned := true } ∧ P'.x = [] ∧ Sl h' 1 (.slice P'.ra o.removed.length P'.rc) (o.removed.map intR) ∧ St g h' w (batL D t bo P' o bl L) := by
  obtain ⟨ra, rc, x, ea, ec, y, qa, qc⟩ := P
  have hrv : ∀ P' : BatP, P'.qa = qa → P'.qc = qc → P'.ea = ea → P'.ec = ec → (o.res.evs = [] ∧ P'.qa = none ∧ P'.qc = 0) ∨ (true = true ∧ o.held = 0 ∧ o.res.evs = o.events ∧ P'.qa = P'.ea ∧ P'.qc = P'.ec) := by
    intro P' e1 e2 e3 e4
    rw [e1, e2, e3, e4]
    rcases hp.rv with r | r
    · exact .inl r
    · exact .inr ⟨rfl, r.2⟩
  rcases hp.rem with ho | ⟨_, hs, hx⟩
  · have H' := St.pull (A := [(bo, .cells (batRow D t ⟨ra, rc, x, ea, ec, y, qa, qc⟩ o bl).toArray 159 (0, 0))]) (x := x) H
    obtain ⟨h', hle, H2, hs⟩ := OwnSl.sealIt ho H'
    exact ⟨h', ⟨ra, rc, [], ea, ec, y, qa, qc⟩, hle, ⟨.inr ⟨rfl, hs, rfl⟩, hp.evs, hrv _ rfl rfl rfl rfl, hp.rc⟩, rfl, hs, H2⟩
  · exact ⟨h, ⟨ra, rc, x, ea, ec, y, qa, qc⟩, Hp.le_refl h, ⟨.inr ⟨rfl, hs, hx⟩, hp.evs, hrv _ rfl rfl rfl rfl, hp.rc⟩, hx, hs, H⟩
theorem stepB_bad (h : o.call.max < 0 ∨ 64 < o.call.max) : stepB s t o = (s, { o with eff := true, res := { o.res with err := 1 } }, true) := by
  unfold stepB; exact if_pos h
theorem stepB_lock (h : ¬ (o.call.max < 0 ∨ 64 < o.call.max)) (h1 : o.scanned = false) (h2 : o.held < 4) :
    stepB s t o = if (lockS s t o.held).2 = true then ((lockS s t o.held).1, { o with eff := false, held := o.held + 1 }, false) else (s, { o with eff := false }, false) := by
  unfold stepB; exact (if_neg h).trans (if_pos ⟨h1, h2⟩)
theorem stepB_claim (h : ¬ (o.call.max < 0 ∨ 64 < o.call.max)) (h1 : ¬ (o.scanned = false ∧ o.held < 4)) (h2 : o.claim = true) :
    stepB s t o = ((takeB s { o with eff := false }).1, (takeB s { o with eff := false }).2, false) := by
  unfold stepB
  refine (if_neg h).trans ((if_neg h1).trans ((if_pos h2).trans ?_))
  unfold takeB
  by_cases hc : (casS s (1 + o.item.slot) o.word (wordOf (genOf o.word) 2)).2 = true
  · simp only [hc, if_true]
  · simp only [hc]; rfl
theorem stepB_scan (h : ¬ (o.call.max < 0 ∨ 64 < o.call.max)) (h1 : ¬ (o.scanned = false ∧ o.held < 4)) (h2 : o.claim = false) (h3 : o.scanned = false) :
    stepB s t o = ((scanB s { o with eff := false }).1, (scanB s { o with eff := false }).2, false) := by
  unfold stepB
  refine (if_neg h).trans ((if_neg h1).trans ((if_neg (by simp [h2])).trans ((if_pos h3).trans ?_)))
  unfold scanB
  cases hpk : (peekS s).2 with
  | none => rfl
  | some it =>
    by_cases hc : o.call.bound ≤ it.time ∨ (o.events.length : Int) = o.call.max
    · simp only [hc, if_true]
    · by_cases hd : stOf (wordS (peekS s).1 (1 + it.slot)) = 3
      · simp only [hc, hd, if_true, if_false]
      · simp only [hc, hd, if_false]
theorem stepB_free (h : ¬ (o.call.max < 0 ∨ 64 < o.call.max)) (h2 : o.claim = false) (h3 : o.scanned = true) {x : Int} {r : List Int} (h4 : o.removed = x :: r) :
    stepB s t o = (freeS s x, { o with eff := false, removed := r }, false) := by
  unfold stepB
  refine (if_neg h).trans ((if_neg (by simp [h3])).trans ((if_neg (by simp [h2])).trans ((if_neg (by simp [h3])).trans ?_)))
  simp only [h4]
theorem stepB_last (h : ¬ (o.call.max < 0 ∨ 64 < o.call.max)) (h2 : o.claim = false) (h3 : o.scanned = true) (h4 : o.removed = []) (h5 : o.held = 1) :
    stepB s t o = (unlockS s t 0, { o with eff := false, held := 0, res := { o.res with evs := o.events } }, true) := by
  unfold stepB
  refine (if_neg h).trans ((if_neg (by simp [h3])).trans ((if_neg (by simp [h2])).trans ((if_neg (by simp [h3])).trans ?_)))
  simp only [h4]
  exact if_pos h5
theorem stepB_unlock (h : ¬ (o.call.max < 0 ∨ 64 < o.call.max)) (h2 : o.claim = false) (h3 : o.scanned = true) (h4 : o.removed = []) (h5 : o.held ≠ 1) :
    stepB s t o = (unlockS s t ((o.held : Int) - 1), { o with eff := false, held := o.held - 1 }, false) := by
  unfold stepB
  refine (if_neg h).trans ((if_neg (by simp [h3])).trans ((if_neg (by simp [h2])).trans ((if_neg (by simp [h3])).trans ?_)))
  simp only [h4]
  exact if_neg h5
set_option maxHeartbeats 1000000 in
theorem batStep (q : BatW g h D t bo s o N L w) (hN : N ≤ 499970) {K : Int} (hpre : BatPre s o K) :
    Ret Tryz.prog 193 [.pointer (some ⟨bo, 0, none⟩)] w fun v w' => v = .bool (stepB s t o).2.2 ∧ BatW g h D t bo (stepB s t o).1 (stepB s t o).2.1 (N + 3) L w' := by
  have hk := hpre.sok
  have hml := hk.ml
  have hN' : N ≤ 499990 := by omega
  have hdec : ((o.held - 1 : Nat) : Int) = 0 → 1 ≤ o.held → o.held = 1 ∧ o.held - 1 = 0 := fun h3 h4 => by omega
  have hlo : -9223372036854775808 ≤ (o.held : Int) - 1 := by omega
  have hhi : (o.held : Int) - 1 ≤ 9223372036854775807 := by have := hpre.held; omega
  have hcast0 : 1 ≤ o.held → (o.held : Int) - 1 = ((o.held - 1 : Nat) : Int) := fun h4 => by omega
  refine q.elim fun h1 q => q.elim fun V q => q.elim fun P q => q.elim fun bl q => ?_
  have hle1 := q.1; have hv := q.2.1; have hp := q.2.2.1; have H := q.2.2.2; clear q
  refine Ret.enter tabOk Tryz.func193 rfl (by rfl) rfl (by rfl) (by kernel_rfl) ?_
  refine StO.own H .head rfl rfl rfl fun w H => ?_
  refine StO.own H .head rfl rfl rfl fun w H => ?_
  have H : St g h1 w (batL D t bo P { o with eff := false } false (stoL D V s L)) := H
  refine (batMutexes H).mono ?_; intro v w q
  have hv2 := q.1; have H := q.2; clear q
  subst hv2
  refine AllocO.own H fun b3 w H => ?_
  refine StO.own H .head rfl rfl rfl fun w H => ?_
  have H : St g h1 w ((b3, .cells mutC 245 (0, 0)) :: batL D t bo P { o with eff := false } false (stoL D V s L)) := H
  have hp : P.ok h1 { o with eff := false } := ⟨hp.rem, hp.evs, hp.rv, hp.rc⟩
  have hpr : BatPre s { o with eff := false } K := ⟨hpre.sok, hpre.k, hpre.rl, hpre.el, hpre.held, hpre.claim, hpre.peek, hpre.done⟩
  have hgood : o.call.max < 0 ∨ 64 < o.call.max → ∀ {w V P}, h.le h1 → V.ok h1 s N → P.ok h1 { o with eff := false } → St g h1 w (batL D t bo P { o with eff := true, res := { o.res with err := 1 } } false (stoL D V s L)) →
      Value.bool true = .bool (stepB s t o).2.2 ∧ BatW g h D t bo (stepB s t o).1 (stepB s t o).2.1 (N + 3) L w := by
    intro hb w V P hle hv hp H
    rw [stepB_bad hb]
    exact ⟨rfl, h1, V, P, false, hle, hv.mono (by omega), ⟨hp.rem, hp.evs, hp.rv, hp.rc⟩, H⟩
  have hmx : ∀ {w : World} {V : SV} {P : BatP} {s : Sto} {h : Hp}, St g h w ((b3, .cells mutC 245 (0, 0)) :: batL D t bo P { o with eff := false } false (stoL D V s L)) → ∀ k < 4, w.cell? ⟨b3, k * 1, none⟩ = some (.int .i64 (k : Int)) :=
    fun H k hk => H.ocell .head (by rw [Nat.mul_one]; exact mutC_at hk)
  refine LdO.own H (.tail .head) rfl ?_
  refine CondT.dec (fun h0 => ?_) (fun h0 => ?_)
  · refine CondT.mk ?_
    refine StO.own H (.tail .head) rfl rfl rfl fun w H => ?_
    refine StO.own H (.tail .head) rfl rfl rfl fun w H => ?_
    exact hgood (.inl h0) hle1 hv hp H.tail
  refine LdO.own H (.tail .head) rfl ?_
  refine CondT.dec (fun h64 => ?_) (fun h64 => ?_)
  · refine StO.own H (.tail .head) rfl rfl rfl fun w H => ?_
    refine StO.own H (.tail .head) rfl rfl rfl fun w H => ?_
    exact hgood (.inr h64) hle1 hv hp H.tail
  have hbad : ¬ (o.call.max < 0 ∨ 64 < o.call.max) := by
    have h64' : ¬ 64 < o.call.max := h64
    have h0' : ¬ o.call.max < 0 := h0
    omega
  clear hgood h0 h64
  refine LdO.own H (.tail .head) rfl ?_
  by_cases hlk : o.scanned = false ∧ o.held < 4
  · refine CondT.of (u := true) (by simp [hlk.1]) ?_
    refine LdO.own H (.tail .head) rfl ?_
    refine CondT.of (u := true) (decide_eq_true (by have := hlk.2; show (o.held : Int) < 4; omega)) ?_
    refine DrawO.wx H (fun w => BatS D t bo P { o with eff := false } w ∧ w.cell? ⟨b3, o.held * 1, none⟩ = some (.int .i64 (o.held : Int))) (fun w H => ⟨batS H.tail, hmx H _ hlk.2⟩) (fun j => Nat.beq j 20) (by kernel_rfl) (pl [0, 1, 2, 3, 4, 6, 7, 8, 9, 10, 11, 12, 13, 14, 15, 1005, 1016, 17, 18, 19, 1020] .nil) (by kernel_rfl) fun w H => ?_
    refine LdQ.cell (fun _ hs => hs.1.1) ?_
    refine LdQ.cell (fun _ hs => hs.1.2.1) ?_
    refine LdQ.cell (fun _ hs => hs.1.2.2.1) ?_
    refine IdaO.at0 (i := o.held) rfl hlk.2 ?_
    refine LdQ.cell (fun _ hs => hs.2) ?_
    refine (stoMemory (batIn2 H)).mono ?_; intro v w q
    have hv2 := q.1; have H := batOut2 q.2; clear q
    subst hv2
    refine ⟨⟨batS H.tail, hmx H _ hlk.2⟩, ?_⟩
    refine (stoTryLock (batIn2 H) hv (by omega) t (n := o.held) (by have := hlk.2; omega)).mono ?_; intro v w q
    have hv2 := q.1; have q2 := q.2; clear q
    subst hv2
    refine q2.go fun h2 V hle hv H => ?_
    have H := batOut2 H
    refine ⟨⟨batS H.tail, hmx H _ hlk.2⟩, ?_⟩
    refine StO.own H (.tail .head) rfl rfl rfl fun w H => ⟨rfl, ?_⟩
    have hst := stepB_lock (t := t) hbad hlk.1 hlk.2 (s := s)
    refine LdO.own H (.tail .head) rfl ?_
    refine CondT.bool (fun hok => ?_) (fun hok => ?_)
    · have hok2 : (lockS s t o.held).2 = true := by simpa using hok
      rw [if_pos hok2] at hst
      refine LdO.own H (.tail .head) rfl ?_
      refine ArO.i64 ?_ (by have := hlk.2; show -9223372036854775808 ≤ (o.held : Int) + 1; omega) (by have := hlk.2; show (o.held : Int) + 1 ≤ 9223372036854775807; omega)
      refine StO.own H (.tail .head) rfl rfl rfl fun w H => ?_
      have fin : Value.bool false = .bool (stepB s t o).2.2 ∧ BatW g h D t bo (stepB s t o).1 (stepB s t o).2.1 (N + 3) L w := by
        rw [hst]
        exact ⟨rfl, h2, V, P, _, Hp.le_trans hle1 hle, hv.mono (by omega), ⟨(hp.le hle).rem, (hp.le hle).evs, .inl (hp.rv.resolve_right (fun r => by rw [show o.scanned = false from hlk.1] at r; exact Bool.noConfusion r.1)), hp.rc⟩, H.tail⟩
      exact fin
    · have hok2 : (lockS s t o.held).2 = false := by simpa using hok
      rw [if_neg (by rw [hok2]; decide)] at hst
      have hs1 : (lockS s t o.held).1 = s := by
        unfold lockS at hok2 ⊢
        split
        · rename_i h; rw [if_pos h] at hok2; cases hok2
        · rfl
      rw [hs1] at hv H
      have fin : Value.bool false = .bool (stepB s t o).2.2 ∧ BatW g h D t bo (stepB s t o).1 (stepB s t o).2.1 (N + 3) L w := by
        rw [hst]
        exact ⟨rfl, h2, V, P, _, Hp.le_trans hle1 hle, hv.mono (by omega), hp.le hle, H.tail⟩
      exact fin
  by_cases hsc : o.scanned = false
  · have hge : ¬ o.held < 4 := fun h => hlk ⟨hsc, h⟩
    refine CondT.of (u := true) (by simp [hsc]) ?_
    refine LdO.own H (.tail .head) rfl ?_
    refine CondT.of (u := false) (decide_eq_false (by show ¬ (o.held : Int) < 4; omega)) ?_
    refine LdO.own H (.tail .head) rfl ?_
    refine CondT.bool (fun hcl => ?_) (fun hcl => ?_)
    · have hcl' : o.claim = true := hcl
      have H := H.perm batBackP
      obtain ⟨_, ⟨n, hn, hns⟩, hw⟩ := hpre.claim hcl'
      refine (batTake H hv hp (by omega) hk hpre.k hsc hpre.rl hpre.el hn hns hw).mono ?_; intro v w q
      have fin : Value.bool false = .bool (stepB s t o).2.2 ∧ BatW g h D t bo (stepB s t o).1 (stepB s t o).2.1 (N + 3) L w := by
        rw [stepB_claim hbad hlk hcl']
        exact ⟨rfl, q.drop.less hle1⟩
      exact fin
    · have hcl' : o.claim = false := hcl
      refine LdO.own H (.tail .head) rfl ?_
      refine CondT.of (u := true) (by simp [hsc]) ?_
      have H := H.perm batBackP
      refine (batScan H hv hp (by omega) hk hpre.k hsc hpre.rl (hpre.peek hsc)).mono ?_; intro v w q
      have fin : Value.bool false = .bool (stepB s t o).2.2 ∧ BatW g h D t bo (stepB s t o).1 (stepB s t o).2.1 (N + 3) L w := by
        rw [stepB_scan hbad hlk hcl' hsc]
        exact ⟨rfl, q.drop.less hle1⟩
      exact fin
  · have hsc' : o.scanned = true := by simpa using hsc
    have hcl' : o.claim = false := by
      cases hc : o.claim with
      | false => rfl
      | true => exact absurd (hpre.claim hc).1 hsc
    obtain ⟨hh1, hrem⟩ := hpre.done hsc'
    have hh4 := hpre.held
    refine CondT.of (u := false) (by simp [hsc]) ?_
    refine CondT.mk ?_
    refine LdO.own H (.tail .head) rfl ?_
    refine CondT.of (u := false) hcl' ?_
    refine LdO.own H (.tail .head) rfl ?_
    refine CondT.of (u := false) (by simp [hsc]) ?_
    refine LdO.own H (.tail .head) rfl ?_
    cases hrm : o.removed with
    | nil =>
      refine CondT.of (u := false) rfl ?_
      refine LdO.own H (.tail .head) rfl ?_
      refine ArO.i64 ?_ hlo hhi
      refine StO.own H (.tail .head) rfl rfl rfl fun w H => ?_
      have hcast := hcast0 hh1
      have H : St g h1 w ((b3, .cells mutC 245 (0, 0)) :: (bo, .cells ((batRow D t P { o with eff := false } false).set 7 (.int .i64 ((o.held : Int) - 1))).toArray 159 (0, 0)) :: (P.x ++ (P.y ++ stoL D V s L))) := H
      rw [hcast] at H
      have H : St g h1 w ((b3, .cells mutC 245 (0, 0)) :: batL D t bo P { o with eff := false, held := o.held - 1 } false (stoL D V s L)) := H
      have hmx : ∀ {w : World} {V : SV} {P : BatP} {s : Sto} {h : Hp}, St g h w ((b3, .cells mutC 245 (0, 0)) :: batL D t bo P { o with eff := false, held := o.held - 1 } false (stoL D V s L)) → w.cell? ⟨b3, (o.held - 1) * 1, none⟩ = some (.int .i64 ((o.held - 1 : Nat) : Int)) :=
        fun H => H.ocell .head (by rw [Nat.mul_one]; exact mutC_at (by omega))
      refine DrawO.wi H (fun w => BatS D t bo P { o with eff := false, held := o.held - 1 } w ∧ w.cell? ⟨b3, (o.held - 1) * 1, none⟩ = some (.int .i64 ((o.held - 1 : Nat) : Int))) (fun w H => ⟨batS H.tail, hmx H⟩) (pl [0, 1, 2, 3, 5, 6, 7, 8, 9, 10, 11, 12, 13, 14, 1004, 1015] .nil) (by kernel_rfl) fun w H => ?_
      refine LdQ.cell (fun _ hs => hs.1.1) ?_
      refine LdQ.cell (fun _ hs => hs.1.2.1) ?_
      refine LdQ.cell (fun _ hs => hs.1.2.2.1) ?_
      refine IdaO.at0 (i := o.held - 1) rfl (by omega) ?_
      refine LdQ.cell (fun _ hs => hs.2) ?_
      refine (stoMemory (batIn2 H)).mono ?_; intro v w q
      have hv2 := q.1; have H := batOut2 q.2; clear q
      subst hv2
      refine ⟨⟨batS H.tail, hmx H⟩, ?_⟩
      refine (stoUnlock (batIn2 H) hv (by omega) t (n := o.held - 1) (by omega)).mono ?_; intro v w q
      refine q.go fun h2 V hle hv H => ?_
      have H := batOut2 H
      refine ⟨⟨batS H.tail, hmx H⟩, ?_⟩
      refine LdO.own H (.tail .head) rfl ?_
      refine CondT.dec (fun hz => ?_) (fun hz => ?_)
      · have hz' := (hdec hz hh1).1
        have hz2 := (hdec hz hh1).2
        have hv : V.ok h2 (unlockS s t 0) (N + 1) := by have hv := hv; rw [hz2] at hv; exact hv
        have H : St g h2 w ((b3, .cells mutC 245 (0, 0)) :: batL D t bo P { o with eff := false, held := 0 } false (stoL D V (unlockS s t 0) L)) := by have H := H; rw [hz2] at H; exact H
        refine LdO.own H (.tail .head) rfl ?_
        refine StO.own H (.tail .head) rfl rfl rfl fun w H => ?_
        have hst := stepB_last (t := t) (s := s) hbad hcl' hsc' hrm hz'
        have fin : Value.bool true = .bool (stepB s t o).2.2 ∧ BatW g h D t bo (stepB s t o).1 (stepB s t o).2.1 (N + 3) L w := by
          rw [hst]
          exact ⟨rfl, h2, V, { P with qa := P.ea, qc := P.ec }, _, Hp.le_trans hle1 hle, hv.mono (by omega), ⟨(hp.le hle).rem, (hp.le hle).evs, .inr ⟨hsc', rfl, rfl, rfl, rfl⟩, hp.rc⟩, H.tail⟩
        exact fin
      · have hz' : o.held ≠ 1 := fun e => hz (by show ((o.held - 1 : Nat) : Int) = 0; rw [e]; rfl)
        have hst := stepB_unlock (t := t) (s := s) hbad hcl' hsc' hrm hz'
        rw [hcast] at hst
        have fin : Value.bool false = .bool (stepB s t o).2.2 ∧ BatW g h D t bo (stepB s t o).1 (stepB s t o).2.1 (N + 3) L w := by
          rw [hst]
          refine ⟨rfl, h2, V, P, _, Hp.le_trans hle1 hle, hv.mono (by omega), ⟨(hp.le hle).rem, (hp.le hle).evs, ?_, hp.rc⟩, H.tail⟩
          exact .inl (hp.rv.resolve_right fun r => Nat.not_succ_le_zero 0 (by have h5 : o.held = 0 := r.2.1; rw [h5] at hh1; exact hh1))
        exact fin
    | cons x r =>
      refine CondT.of (u := true) (decide_eq_true (by show (0 : Int) < ((r.length + 1 : Nat) : Int); omega)) ?_
      refine (hrem x (by rw [hrm]; exact .head _)).elim fun n q => ?_
      have hn := q.1; have hns := q.2; clear q
      refine (batSeal H.tail hp).elim fun h2 q => q.elim fun P2 q => ?_
      have hle2 := q.1; have hp2 := q.2.1; have hx2 := q.2.2.1; have hs2 := q.2.2.2.1; have H := q.2.2.2.2; clear q
      have hp := hp2
      have hv := hv.le hle2
      have hle1 := Hp.le_trans hle1 hle2
      have hl0 : 0 < (o.removed.map intR).length := by rw [hrm]; simp
      refine (Sl.idx hs2 (i := 0) hl0).elim fun bi q => q.elim fun oi q => ?_
      have hidx := q.1; have hrow := q.2; clear q
      have hrow0 : (o.removed.map intR)[0] = intR (n : Int) := by simp only [hrm, ← hn]; rfl
      rw [hrow0] at hrow
      refine DrawO.wi H (fun w => BatS D t bo P2 { o with eff := false } w ∧ w.cell? ⟨bi, oi, none⟩ = some (.int .i64 (n : Int))) (fun w H => ⟨batS H, H.hcell hrow (j := 0) rfl⟩) (pl [0, 1, 2, 3, 4, 5, 6, 7, 8, 9, 10, 11, 12, 13, 1014] .nil) (by kernel_rfl) fun w H => ?_
      refine LdQ.cell (fun _ hs => hs.1.1) ?_
      refine LdQ.cell (fun _ hs => hs.1.2.1) ?_
      refine LdQ.cell (fun _ hs => hs.1.2.2.2.2.2.2.1) ?_
      refine hidx _ _ _ rfl ?_
      refine LdQ.cell (fun _ hs => hs.2) ?_
      refine (stoFree (StoW.mk (Hp.le_refl h2) hv (batIn H)) hk hpre.k hN' t (n := n) hns).mono ?_; intro v w q
      refine q.go fun h3 V hle3 hv H => ?_
      have H := batOut H
      refine ⟨⟨batS H, H.hcell (hrow.le hle3) (j := 0) rfl⟩, ?_⟩
      refine LdO.own H .head rfl ?_
      refine Sl.dropO (hs2.le hle3) (n := 1) hl0 fun v' hs3 => ?_
      have hdr : (o.removed.map intR).drop 1 = r.map intR := by rw [hrm]; rfl
      rw [hdr] at hs3
      refine (Sl.lenM hs3).elim fun a' q => q.elim fun c' q => ?_
      subst q
      refine StO.own H .head rfl rfl rfl fun w H => ?_
      have hst := stepB_free (t := t) (s := s) hbad hcl' hsc' hrm
      have fin : Value.bool false = .bool (stepB s t o).2.2 ∧ BatW g h D t bo (stepB s t o).1 (stepB s t o).2.1 (N + 3) L w := by
        rw [hst, hn]
        refine ⟨rfl, h3, V, { P2 with ra := a', rc := c' }, _, Hp.le_trans hle1 hle3, hv.mono (by omega), ⟨.inr ⟨hsc', hs3, hx2⟩, hp.evs, ?_, hp.rc⟩, H⟩
        exact .inl (hp.rv.resolve_right fun r => Nat.not_succ_le_zero 0 (by have h5 : o.held = 0 := r.2.1; rw [h5] at hh1; exact hh1))
      exact fin
end
end Go.Proofs.YtbdoinigeaaclaaGreat
