/- What every run keeps gives what the walk of a pick wants. Conditions: at most four threads, seven calls.
   LinearRuns: whatever the capacity, the threads, the calls and the picks, the law's function returns true. Conditions: slices are of a length that memory can hold.
   The arguments of the laws over runs: how they read. Conditions: none. -/
import Derived.Test.YtbdoinigeaaclaaGreatB21
import Derived.OpenShut
import Derived.ProofKit
set_option linter.all false
set_option maxRecDepth 20000
namespace Go.Proofs.YtbdoinigeaaclaaGreat
open Go RL PQ
section
variable {n T p : Nat} {r : RunS}
theorem stepPre_ok {s : Sto} {K : Int} {o : PQ.OpS} (hk : SOk s K) (hK : K ≤ 1000000) {own : List Int} (hs : Slots s own K) (ho : OpOk s (some o)) (he : EvOk (some o)) (hr : ∀ i ∈ ownO (some o), 0 ≤ i ∧ i < s.slots.length) (hl : (ownO (some o)).length ≤ 64) : StepPre s K o := by
  cases o with
  | ins o =>
    obtain ⟨st, hst, hheld⟩ := InsOk.st ho
    refine ⟨⟨hk, hK, ?_, fun hx => ?_, fun hx x hx2 => ?_⟩, st, hst⟩
    · rcases held_cases hheld with e | e | e | e <;> rw [e] <;> decide
    · rw [hst] at hx
      have hx : st = .undo ∨ st = .put ∨ st = .release := by
        rcases hx with e | e | e
        · exact .inl (Option.some.inj e)
        · exact .inr (.inl (Option.some.inj e))
        · exact .inr (.inr (Option.some.inj e))
      rcases hx with e | e | e <;> subst e
      · have hh : o.held = [0] := hheld
        exact ⟨[], 0, hh, by decide⟩
      · have hh : o.held = [0] ∨ o.held = [1] ∨ o.held = [1, 2] := hheld
        rcases hh with hh | hh | hh
        · exact ⟨[], 0, hh, by decide⟩
        · exact ⟨[], 1, hh, by decide⟩
        · exact ⟨[1], 2, hh, by decide⟩
      · have hh : o.held = [1] := hheld
        exact ⟨[], 1, hh, by decide⟩
    · obtain ⟨h1, h2, _, _⟩ := InsOk.own ho (.inr hx) x hx2
      have hn : (slotOf x).toNat < s.slots.length := by omega
      exact ⟨(slotOf x).toNat, by omega, hn, hs.times _ (List.getElem_mem hn)⟩
  | can o =>
    refine ⟨hk, hK, CanOk.ph ho, fun hx => ?_⟩
    obtain ⟨h1, h2, h3, h4⟩ := CanOk.seen ho hx
    have h5 := (hgen_pos h1).1
    have h6 := (hs.gn_bounds h1).2
    rw [h3]
    unfold wordOf; omega
  | bat o =>
    have ho : BatOk s o := ho
    refine ⟨hk, hK, ?_, ?_, ho.held, fun hc => ?_, fun hc it hit => ?_, fun hc => ?_⟩
    · have hl : o.removed.length ≤ 64 := hl
      omega
    · have he : o.call.max < 0 ∨ 64 < o.call.max ∨ (o.events.length : Int) ≤ o.call.max := he
      by_cases hb : o.call.max < 0 ∨ 64 < o.call.max
      · obtain ⟨a, b⟩ := ho.max hb
        rw [(ho.low b (by omega)).2.1]
        exact Nat.zero_le _
      · omega
    · obtain ⟨c1, c2, c3, c4, c5⟩ := ho.clm hc
      have hm : o.item ∈ allL s.q := by
        have hb : o.item ∈ s.q.bot := List.mem_of_mem_head? (by rw [c2]; exact rfl)
        rw [allL_eq, List.mem_append]; exact .inr hb
      have hir := hs.range _ hm
      have hgb := hs.gn_bounds hir.1
      refine ⟨(ho.claims hc).1, ⟨o.item.slot.toNat, by omega, by omega⟩, ?_⟩
      rw [c3]
      unfold wordOf; omega
    · have hhd : (peekL s.q).bot.head? = some it := hit
      have hm : it ∈ allL s.q := by
        refine (peekL_ok hs.q).1.perm.mem_iff.1 ?_
        have hb : it ∈ (peekL s.q).bot := List.mem_of_mem_head? (by rw [hhd]; exact rfl)
        rw [allL_eq, List.mem_append]; exact .inr hb
      have hir := hs.range _ hm
      exact ⟨it.slot.toNat, by omega, by omega⟩
    · refine ⟨(ho.done hc).2.1, fun x hx => ?_⟩
      have := hr x hx
      exact ⟨x.toNat, by omega, by omega⟩
  | unk b => trivial
theorem good_of (h : RI n T r) (hT : T ≤ 7) (hp : p < n) (hk : r.picks ≤ 30000) : ∃ K, Good r p K := by
  have hinv := h.inv (by omega)
  have hsok := h.sok hT (by omega)
  have hpk := h.picks
  have hdn := h.dn
  have hlf := h.left
  refine ⟨2 * r.picks, fun t ht => ?_, by omega, by omega, by omega⟩
  have hmem : t ∈ r.thrs := List.mem_of_getElem? ht
  have htok := h.thr t hmem
  have hsc := h.sc t hmem
  by_cases hd : t.run = none ∧ t.results.length = t.script.length
  · exact .inl hd
  refine .inr ⟨⟨fun hr => ?_, by omega, by have := htok.le; omega, fun o ho => ?_⟩, hd⟩
  · have := htok.le
    have : ¬ t.results.length = t.script.length := fun hx => hd ⟨hr, hx⟩
    omega
  · have hrp : runOf r p = t.run := by unfold runOf; rw [ht]; rfl
    obtain ⟨o', ho', hc⟩ := PQ.startT_some t p r.picks
    rw [ho] at ho'; cases ho'
    rcases hc with hc | ⟨_, hc⟩
    · have h1 := hinv.ops p hp
      have h2 := h.ev (by omega) p
      rw [hrp, hc] at h1 h2
      have hsub : ∀ i ∈ ownO (some o), i ∈ ownsR n (runOf r) := fun i hi => List.mem_flatMap.2 ⟨p, List.mem_range.2 hp, by rw [hrp, hc]; exact hi⟩
      refine stepPre_ok hsok (by omega) hinv.slots h1 h2 (fun i hi => hinv.slots.mem (.inr (.inr (hsub i hi)))) ?_
      obtain ⟨rest, e, _⟩ := flatMap_upd ownO (runOf r) hp
      have e1 := e.length_eq
      have e2 := hinv.slots.perm.length_eq
      have e3 := hinv.slots.sl
      rw [hrp, hc] at e1
      simp only [List.length_append, List.length_map, List.length_range] at e1 e2
      unfold ownsR at e2
      omega
    · rw [hc]
      obtain ⟨f1, f2, f3⟩ := fresh_ok r.sto (nextT t)
      refine stepPre_ok hsok (by omega) hinv.slots f1 (ev_new _) (fun i hi => ?_) ?_
      · rw [f2] at hi; cases hi
      · rw [f2]; decide
theorem finPre_of {l : List SP} {pks : List Nat} {cap : Nat} (c1 : 1 ≤ cap) (c2 : cap ≤ 64) (l1 : 1 ≤ l.length) (l2 : l.length ≤ 4) (hT : (l.map fun p => p.cs.length).sum ≤ 7) (p1 : pks.length ≤ 300) (p2 : ∀ p ∈ pks, p < l.length) :
    FinPre l pks cap 1680 (RI l.length (l.map fun p => p.cs.length).sum) := by
  have hl : (l.map SP.cs).length = l.length := List.length_map ..
  have hs : ((l.map SP.cs).map List.length).sum = (l.map fun p => p.cs.length).sum := by rw [List.map_map]; rfl
  have h0 := start_ri c2 (l := l.map SP.cs) hs
  rw [hl] at h0
  refine ⟨c1, c2, l1, by omega, fun p hp => ?_, p1, p2, by decide, ri_runs l1 l2 hT, h0, fun r p h hp _ hk => good_of h hT hp hk⟩
  have : p.cs.length ≤ (l.map fun p => p.cs.length).sum := PQ.le_sum (List.mem_map_of_mem hp)
  omega
end
end Go.Proofs.YtbdoinigeaaclaaGreat
set_option maxRecDepth 20000
namespace Go.Proofs.YtbdoinigeaaclaaGreat
open Go RL PQ
variable {g : World} {h h' : Hp} {w : World} {L : List (Nat × Obj)}
theorem callsN_sum (l : List SP) : callsN l = (l.map fun p => p.cs.length).sum := by unfold callsN; rw [List.map_map]; rfl
theorem lawPre {l : List SP} {ps : List Nat} {thr c k : Nat} (hl : l.length = thr % 4 + 1) (hk : callsN l ≤ k) (hk7 : k ≤ 7) (hps : ps.length ≤ 300) :
    FinPre l (ps.map fun p => p % l.length) (c % 6 + 1) 1680 (RI l.length (l.map fun p => p.cs.length).sum) ∧ RunEnd (c % 6 + 1) (finishM (c % 6 + 1) (l.map SP.cs) (ps.map fun p => p % l.length) 1680).dones := by
  have hs : ((l.map SP.cs).map List.length).sum = (l.map fun p => p.cs.length).sum := by rw [List.map_map]; rfl
  have hT : (l.map fun p => p.cs.length).sum ≤ 7 := by rw [callsN_sum] at hk; omega
  have hlm : (l.map SP.cs).length = l.length := List.length_map ..
  have hp : ∀ p ∈ (ps.map fun p => p % l.length), p < l.length := fun p hp => by
    rw [List.mem_map] at hp
    obtain ⟨q, _, rfl⟩ := hp
    exact Nat.mod_lt _ (by omega)
  refine ⟨finPre_of (by omega) (by omega) (by omega) (by omega) hT (by rw [List.length_map]; exact hps) hp, ?_⟩
  exact run_end (by omega) (by omega) (by rw [hlm]; omega) (by rw [hlm]; omega) (by rw [hs]; exact hT) (by rw [hlm]; exact hp) (by rw [List.length_map]; exact hps)
theorem run_check {cap : Nat} {l : List Done} (h : RunEnd cap l) : ∃ r t, checkL cap l = some r ∧ replayL cap l (oI r) = true ∧ r.length = l.length ∧ t.length = l.length ∧ (∀ i, i ∈ t ↔ i < l.length) ∧ t.Pairwise (PtLt l) ∧ LexLe r t ∧ replayL cap l (oI t) = true := by
  obtain ⟨ord, h1, h2, h3, h4⟩ := h.ord
  obtain ⟨r, t, c1, c2, c3, c4, c5⟩ := check_complete (valid_fin h.val) h4
  have e : t = ord := by
    have : t.map (fun (n : Nat) => (n : Int)) = ord.map (fun (n : Nat) => (n : Int)) := c3.symm
    exact (List.map_inj_right (fun a b hab => Int.ofNat.inj hab)).1 this
  subst e
  exact ⟨r, t, c1, (check_sound c1).2, c2, c4, h2, h3, c5, h4⟩
set_option maxHeartbeats 1000000 in
theorem linRuns (H : St g h w L) {rv pv : Value} {raw : List PQ.Call} {ps : List Nat} {cap thr : Nat} (hc : cap ≤ 255) (ht : thr ≤ 255) (hr : Sl h 5 rv (raw.map callL)) (hp : Sl h 1 pv (ps.map u8R)) (hpb : ∀ i (hi : i < ps.length), ps[i] ≤ 255) :
    Ret Tryz.prog 4 [.int .u8 (cap : Int), .int .u8 (thr : Int), rv, pv] w fun v w' => v = .bool true ∧ ∃ h', h.le h' ∧ St g h' w' L := by
  have hrl : (raw.take 7).length ≤ 7 := by rw [List.length_take]; omega
  obtain ⟨pa, pc, hpv⟩ := hp.lenM
  subst hpv
  refine Ret.enter tabOk Tryz.func4 rfl (by rfl) rfl (by rfl) (by kernel_rfl) ?_
  refine (head H).mono ?_; intro v w q
  have hv := q.1; have H := q.2; clear q
  subst hv
  refine CondT.dec (fun h300 => ?_) (fun h300 => ?_)
  · exact ⟨rfl, h, Hp.le_refl h, H⟩
  have hps : ps.length ≤ 300 := by omega
  refine (lawFew H hr).mono ?_; intro v w q
  have hr7 := q.1; have H := q.2; clear q
  refine (lawScripts H hr7 hrl ht).mono ?_; intro v w q
  refine q.elim fun h1 q => q.elim fun l q => ?_
  have hle1 := q.1; have hln := q.2.1; have hcn := q.2.2.1; have hsc := q.2.2.2.1; have H := q.2.2.2.2; clear q
  refine (lawPre (c := cap) hln hcn hrl hps).elim fun hF hE => ?_
  refine (lawCap H hc).mono ?_; intro v2 w q
  have hv := q.1; have H := q.2; clear q
  subst hv
  have hl1 : 1 ≤ l.length := by omega
  have hl2 : l.length ≤ 1000 := by omega
  refine (lawPicks H (hp.le hle1) hsc hl1 hl2 (by omega) hpb).mono ?_; intro v3 w q
  refine q.elim fun h2 q => ?_
  have hle2 := q.1; have hpk := q.2.1; have H := q.2.2; clear q
  refine (ilFinishAll H (hsc.le hle2) hpk hF).mono ?_; intro v4 w q
  refine q.elim fun h3 q => q.elim fun dv q => q.elim fun dps q => ?_
  have hle3 := q.1; have hv := q.2.1; have hdn := q.2.2.1; have hds := q.2.2.2.1; have H := q.2.2.2.2; clear q
  subst hv
  rw [← hds] at hE
  have hle : h.le h3 := Hp.le_trans hle1 (Hp.le_trans hle2 hle3)
  have h7 : dps.length ≤ 7 := by have h5 := hE.len; rw [ds_length] at h5; exact h5
  refine (Sl.lenM hdn.sl).elim fun da q => q.elim fun dc q => ?_
  subst q
  refine (run_check hE).elim fun r q => q.elim fun t q => ?_
  have hck := q.1; have hrp := q.2.1; have hrlen := q.2.2.1; clear q
  refine CondT.dec (fun hx => absurd hx (by omega)) (fun _ => ?_)
  refine (valid H hdn).mono ?_; intro v w q
  have hv := q.1; have H := q.2; clear q
  rw [hE.val] at hv
  subst hv
  refine CondT.mk ?_
  refine (lawCap H hc).mono ?_; intro v w q
  have hv := q.1; have H := q.2; clear q
  subst hv
  refine (check H _ hdn (by omega)).mono ?_; intro v w q
  refine q.elim fun h4 q => q.elim fun x1 q => ?_
  have hle4 := q.1; have hv1 := q.2.1; have hx1 := q.2.2.1; have H := q.2.2.2; clear q
  rw [hck] at hv1 hx1
  subst hv1
  have hx1 : IntS h4 x1 (oi r) := hx1
  refine CondT.mk ?_
  refine CondT.mk ?_
  refine (lawCap H hc).mono ?_; intro v w q
  have hv := q.1; have H := q.2; clear q
  subst hv
  refine (replay H _ (hdn.le hle4) (by omega) hx1 (by rw [oi_length, hrlen, ds_length]; omega)).mono ?_; intro v w q
  have hv := q.1; have H := q.2; clear q
  rw [show replayL ((cap % 6 + 1 : Nat) : Int) (ds dps) (oi r) = true from hrp] at hv
  subst hv
  exact ⟨rfl, h4, Hp.le_trans hle hle4, H⟩
end Go.Proofs.YtbdoinigeaaclaaGreat
set_option maxRecDepth 20000
namespace Go.Proofs.YtbdoinigeaaclaaGreat
open Go RL PQ Go.ChangeShapes Go.WideShapes Go.ChangeAt Go.RowKit
section
variable {Hh : Type} {enc : TypeId × Value → Hh} {w : World} {base : Nat} {held : Bool} {n : Nat} {x : DataW Hh × List MemPlace} {cs : List Value}
theorem read_u8 (h : DataW.trod enc Tryz.prog w base (fun _ => true) held n 5 cs = some x) : ∃ z : Nat, z ≤ 255 ∧ cs = u8R z := by
  obtain ⟨z, hz, _, hw⟩ := DataW.trod_int Tryz.underlying5 h
  have hb := bounds_u8 hw
  refine ⟨z.toNat, by omega, ?_⟩
  rw [hz]
  unfold u8R
  rw [show ((z.toNat : Nat) : Int) = z by omega]
variable {r : Reach} {v : Value} {d : DataW Hh} {ps : List MemPlace}
theorem arg_u8s (hval : Value.okWide Tryz.prog w r base 23 v) (h : DataW.Trod enc Tryz.prog w 0 (fun _ => true) true 23 v d ps) : ∃ l : List Nat, Sl (heapOf w) 1 v (l.map u8R) ∧ ∀ i (hi : i < l.length), l[i] ≤ 255 := by
  obtain ⟨a, len, cap, rfl⟩ := okWide_slice Tryz.underlying23 hval
  obtain ⟨fuel, hf⟩ := h
  obtain ⟨l, h1, h3, _⟩ := open_rows (R := u8R) (G := fun z : Nat => z ≤ 255) (sz := 1) Tryz.underlying23 (by kernel_rfl) (by omega) (fun _ => rfl) (fun n cs y hy => read_u8 hy) hf
  exact ⟨l, h1, fun i hi => h3 _ (List.getElem_mem hi)⟩
end
variable {g : World} {h h' : Hp} {w : World} {L : List (Nat × Obj)}
theorem linRunsZ (H : St g h w L) {rv pv : Value} {raw : List PQ.Call} {ps : List Nat} {cap thr : Int} (c0 : 0 ≤ cap) (c1 : cap ≤ 255) (t0 : 0 ≤ thr) (t1 : thr ≤ 255) (hr : Sl h 5 rv (raw.map callL)) (hp : Sl h 1 pv (ps.map u8R)) (hpb : ∀ i (hi : i < ps.length), ps[i] ≤ 255) :
    Ret Tryz.prog 4 [.int .u8 cap, .int .u8 thr, rv, pv] w fun v w' => v = .bool true ∧ ∃ h', h.le h' ∧ St g h' w' L := by
  obtain ⟨a, rfl⟩ : ∃ a : Nat, cap = (a : Int) := ⟨cap.toNat, by omega⟩
  obtain ⟨b, rfl⟩ : ∃ b : Nat, thr = (b : Int) := ⟨thr.toNat, by omega⟩
  exact linRuns H (by omega) (by omega) hr hp hpb
end Go.Proofs.YtbdoinigeaaclaaGreat
