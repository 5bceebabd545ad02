/- The machine's invariant over whole runs: the start, a pick. Conditions: the capacity is between 1 and 64.
   A potential of the machine: every step that is not held up lets it sink. Conditions: at most four threads.
   Every step that is not held up lets the potential sink; a call that is held up changes nothing. Conditions: at most four threads.
   Every step of a cancellation or a batch that is not held up lets the potential sink; a call that is held up changes nothing. Conditions: at most four threads.
   Some call is never held up. Conditions: none.
   What every run keeps: the machine's invariant, counts, the potential. Conditions: at most four threads.
   Every pick keeps what every run keeps, and lets the potential sink where its thread is not held up. Conditions: at most four threads.
   Every run comes to its end. Conditions: at most four threads, seven calls.
   A run to its end keeps what every run keeps; what the walk of a pick wants of the store. Conditions: at most four threads, seven calls.
   What no order replays: a batch that returns an event twice, a handle that is cancelled twice. Conditions: none. -/
import Derived.Test.YtbdoinigeaaclaaGreatP2
set_option linter.all false
namespace PQ
theorem newS_word (cap : Nat) {i : Int} (hi : 0 ≤ i) : wordS (newS cap) i = 0 := by
  unfold wordS newS
  rw [if_neg (by omega)]
  show ((List.replicate (cap + 1) (0 : Int))[i.toNat]?).getD 0 = 0
  rw [List.getElem?_replicate]
  split <;> rfl
theorem newS_slots {cap : Nat} (hc : cap ≤ 64) : Slots (newS cap) [] 0 where
  wl := by show (List.replicate (cap + 1) (0 : Int)).length = (List.replicate cap ((0, 0) : Int × Int)).length + 1; rw [List.length_replicate, List.length_replicate]
  ml := rfl
  sl := by show (List.replicate cap ((0, 0) : Int × Int)).length ≤ 64; rw [List.length_replicate]; exact hc
  wd := fun i hi => by rw [newS_word cap (by omega)]; decide
  nx := ⟨Int.le_refl 0, Int.le_refl 0⟩
  q := emptyL_ok
  perm := by
    show (((List.range cap).map fun (n : Nat) => (n : Int)).reverse ++ [] ++ []).Perm ((List.range (List.replicate cap ((0, 0) : Int × Int)).length).map fun (n : Nat) => (n : Int))
    rw [List.append_nil, List.append_nil, List.length_replicate]
    exact List.reverse_perm _
  idle := fun i hi => by
    have h0 : 0 ≤ i := by
      have hi : i ∈ ((List.range cap).map fun (n : Nat) => (n : Int)).reverse := hi
      rw [List.mem_reverse, List.mem_map] at hi
      obtain ⟨k, _, rfl⟩ := hi
      omega
    unfold stS; rw [newS_word cap (by omega)]; rfl
  qit := fun x hx => absurd hx List.not_mem_nil
  own := fun i hi => absurd hi List.not_mem_nil
  times := fun y hy => by
    have hy : y ∈ List.replicate cap ((0, 0) : Int × Int) := hy
    rw [List.eq_of_mem_replicate hy]; unfold TimeOk; decide
  seqs := fun a b _ _ h1 _ _ => absurd (by unfold stS; rw [newS_word cap (by omega)]; rfl) h1
  seqlt := fun a _ h1 => absurd (by unfold stS; rw [newS_word cap (by omega)]; rfl) h1
theorem ownsR_none (n : Nat) {run : Nat → Option OpS} (h : ∀ p, run p = none) : ownsR n run = [] := by
  unfold ownsR
  rw [List.flatMap_eq_nil_iff]
  intro p _
  rw [h p]; rfl
theorem newS_inv {cap n : Nat} (hc : cap ≤ 64) {run : Nat → Option OpS} (h : ∀ p, run p = none) : MInv n (newS cap) run 0 := by
  refine ⟨by rw [ownsR_none n h]; exact newS_slots hc, fun p _ => by rw [h p]; trivial, fun m hm t => ?_⟩
  constructor
  · intro e
    have e : (List.replicate 4 (none : Option Int))[m]? = some (some t) := e
    rw [List.getElem?_replicate, if_pos hm] at e
    cases e
  · rintro ⟨q, _, _, hx⟩
    rw [h q] at hx; cases hx
def runOf (r : RunS) : Nat → Option OpS := fun p => (r.thrs[p]?).bind Thr.run
theorem MInv.congr {n : Nat} {s : Sto} {f g : Nat → Option OpS} {K : Int} (h : MInv n s f K) (e : ∀ p, p < n → f p = g p) : MInv n s g K := by
  have e1 : ownsR n f = ownsR n g := by
    unfold ownsR List.flatMap
    congr 1
    exact List.map_congr_left fun p hp => by rw [e p (List.mem_range.1 hp)]
  refine ⟨by rw [← e1]; exact h.slots, fun p hp => by rw [← e p hp]; exact h.ops p hp, fun m hm t => ?_⟩
  rw [h.lock m hm t]
  constructor
  · rintro ⟨q, hq, ht, hx⟩; exact ⟨q, hq, ht, by rw [← e q hq]; exact hx⟩
  · rintro ⟨q, hq, ht, hx⟩; exact ⟨q, hq, ht, by rw [e q hq]; exact hx⟩
theorem MInv.monoK {n : Nat} {s : Sto} {f : Nat → Option OpS} {K K' : Int} (h : MInv n s f K) (hk : K ≤ K') : MInv n s f K' := ⟨h.slots.mono hk, h.ops, h.lock⟩
theorem startT_some (t : Thr) (p : Nat) (now : Int) : ∃ o, (startT t p now).run = some o ∧ (t.run = some o ∨ t.run = none ∧ o = newO (nextT t)) := by
  unfold startT
  cases h : t.run with
  | none => exact ⟨_, rfl, .inr ⟨rfl, rfl⟩⟩
  | some o => exact ⟨o, h, .inl rfl⟩
theorem startT_same (t : Thr) (p : Nat) (now : Int) : (startT t p now).script = t.script ∧ (startT t p now).results = t.results := by
  unfold startT
  split <;> exact ⟨rfl, rfl⟩
theorem pick_done {r : RunS} {p : Nat} {t : Thr} (ht : r.thrs[p]? = some t) (h : t.run = none ∧ t.results.length = t.script.length) : pickM r p = { r with picks := r.picks + 1 } := by
  unfold pickM; rw [ht]; simp [h.1, h.2]
theorem pick_step {r : RunS} {p : Nat} {t : Thr} {o : OpS} (ht : r.thrs[p]? = some t) (h : ¬ (t.run = none ∧ t.results.length = t.script.length)) (ho : (startT t p r.picks).run = some o) :
    pickM r p = ⟨(stepT r.sto (startT t p r.picks) o p r.picks).1, r.thrs.set p (stepT r.sto (startT t p r.picks) o p r.picks).2.1,
      (if (stepT r.sto (startT t p r.picks) o p r.picks).2.2 = true then r.dones ++ [(stepT r.sto (startT t p r.picks) o p r.picks).2.1.cur] else r.dones),
      (if (stepT r.sto (startT t p r.picks) o p r.picks).2.2 = true then r.left - 1 else r.left), r.picks + 1⟩ := by
  unfold pickM
  rw [ht]
  have : ¬ (t.run.isNone = true ∧ t.results.length = t.script.length) := fun q => h ⟨by simpa using q.1, q.2⟩
  simp only [if_neg this, ho]
theorem stepT_sto (s : Sto) (t : Thr) (o : OpS) (p : Nat) (now : Int) : (stepT s t o p now).1 = (stepO s p o).1 ∧ (stepT s t o p now).2.1.run = opAny (stepO s p o) ∧ (stepT s t o p now).2.2 = (stepO s p o).2.2 ∧
    (stepT s t o p now).2.1.script = t.script ∧ (stepT s t o p now).2.1.results = (if (stepO s p o).2.2 = true then t.results ++ [resO (stepO s p o).2.1] else t.results) := by
  unfold stepT opAny
  by_cases h : (stepO s p o).2.2 = true
  · simp only [h, if_true]; exact ⟨trivial, trivial, trivial, trivial, trivial⟩
  · have h2 : (stepO s p o).2.2 = false := by simpa using h
    simp only [h2]; exact ⟨rfl, rfl, rfl, rfl, rfl⟩
theorem pick_inv {r : RunS} {n : Nat} (hn : r.thrs.length = n) {p : Nat} (hp : p < n) {K : Int} (hK : K ≤ 999998) (h : MInv n r.sto (runOf r) K) : MInv n (pickM r p).sto (runOf (pickM r p)) (K + 2) := by
  have hpl : p < r.thrs.length := by omega
  have ht : r.thrs[p]? = some r.thrs[p] := List.getElem?_eq_getElem hpl
  by_cases hd : r.thrs[p].run = none ∧ r.thrs[p].results.length = r.thrs[p].script.length
  · rw [pick_done ht hd]
    exact (h.monoK (by omega)).congr fun q _ => rfl
  · obtain ⟨o, ho, hc⟩ := startT_some r.thrs[p] p r.picks
    have hrp : runOf r p = r.thrs[p].run := by unfold runOf; rw [ht]; rfl
    -- the call stands in its thread
    have h1 : MInv n r.sto (updP (runOf r) p (some o)) (K + 1) := by
      rcases hc with hc | ⟨hc, rfl⟩
      · refine (h.monoK (K' := K + 1) (by omega)).congr fun q _ => ?_
        by_cases hq : q = p
        · rw [hq, updP_same, hrp, hc]
        · rw [updP_ne hq]
      · exact h.start hp (by rw [hrp]; exact hc) _
    have h2 := any_step h1 (by omega) hp (updP_same _ _ _)
    have hs := stepT_sto r.sto (startT r.thrs[p] p r.picks) o p r.picks
    rw [pick_step ht hd ho]
    show MInv n (stepT r.sto (startT r.thrs[p] p r.picks) o p r.picks).1 _ (K + 2)
    rw [hs.1]
    refine (h2.monoK (by omega)).congr fun q hq => ?_
    unfold runOf
    show _ = ((r.thrs.set p (stepT r.sto (startT r.thrs[p] p r.picks) o p r.picks).2.1)[q]?).bind Thr.run
    by_cases hqp : q = p
    · rw [hqp, updP_same, List.getElem?_set_self hpl]
      show _ = (stepT r.sto (startT r.thrs[p] p r.picks) o p r.picks).2.1.run
      rw [hs.2.1]
    · rw [updP_ne hqp, updP_ne hqp, List.getElem?_set_ne (fun e => hqp e.symm)]
end PQ
namespace PQ
variable {n : Nat} {s s' : Sto} {run : Nat → Option OpS} {K : Int}
def rkI : Option InsSt → Nat
  | none => 0
  | some .release => 1
  | some .put => 32
  | some .leave => 33
  | some .alloc => 43
  | some .tryArena => 44
  | some .tryBot => 45
  | some .choose => 46
  | some .tryRungs => 47
  | some .undo => 48
  | some .confirm => 49
  | some .tryTop => 50
  | some .start => 51
def freshW (s : Sto) (slot w : Int) : Bool := decide (slot < 0) || decide (wordS s (1 + slot) = w)
def rkC (s : Sto) (o : CanOp) : Nat := if o.ph = 1 then (if freshW s (slotOf o.handle) o.seen = true then 10 else 12) else 11
def rkB (s : Sto) (o : BatOp) : Nat :=
  10 * o.removed.length + if o.scanned = true then o.held else (4 - o.held) + if o.claim = true then (if freshW s o.item.slot o.word = true then 9 else 11) else 10
/-- How far a call is from its end. -/
def rk (s : Sto) : Option OpS → Nat
  | none => 0
  | some (.ins o) => rkI o.st
  | some (.can o) => rkC s o
  | some (.bat o) => rkB s o
  | some (.unk _) => 1
def sumR (n : Nat) (s : Sto) (run : Nat → Option OpS) : Nat := ((List.range n).map fun q => rk s (run q)).sum
def pot (n : Nat) (s : Sto) (run : Nat → Option OpS) : Nat := 30 * (allL s.q).length + sumR n s run
theorem sumR_succ (n : Nat) (s : Sto) (run : Nat → Option OpS) : sumR (n + 1) s run = sumR n s run + rk s (run n) := by
  unfold sumR; rw [List.range_succ, List.map_append, List.sum_append]; rfl
theorem rk_le (s s' : Sto) (op : Option OpS) : rk s' op ≤ rk s op + 2 := by
  match op with
  | none => exact Nat.zero_le _
  | some (.ins o) => exact Nat.le_add_right _ _
  | some (.unk b) => exact Nat.le_add_right _ _
  | some (.can o) =>
    show rkC s' o ≤ rkC s o + 2
    unfold rkC
    split
    · split <;> split <;> omega
    · omega
  | some (.bat o) =>
    show rkB s' o ≤ rkB s o + 2
    unfold rkB
    split
    · omega
    · split
      · split <;> split <;> omega
      · omega
theorem fresh_eq (h : ∀ j : Int, 0 ≤ j → wordS s' (1 + j) = wordS s (1 + j)) (i w : Int) : freshW s' i w = freshW s i w := by
  unfold freshW
  by_cases hi : i < 0
  · simp [hi]
  · rw [h i (by omega)]
theorem rk_eq (h : ∀ j : Int, 0 ≤ j → wordS s' (1 + j) = wordS s (1 + j)) (op : Option OpS) : rk s' op = rk s op := by
  match op with
  | none => rfl
  | some (.ins o) => rfl
  | some (.unk b) => rfl
  | some (.can o) => show rkC s' o = rkC s o; unfold rkC; rw [fresh_eq h]
  | some (.bat o) => show rkB s' o = rkB s o; unfold rkB; rw [fresh_eq h]
theorem sumR_out {p : Nat} {op : Option OpS} : ∀ {n : Nat}, n ≤ p → sumR n s' (updP run p op) ≤ sumR n s run + 2 * n
  | 0, _ => Nat.zero_le _
  | n + 1, h => by
    rw [sumR_succ, sumR_succ, updP_ne (by omega)]
    have := sumR_out (op := op) (n := n) (p := p) (by omega)
    have := rk_le s s' (run n)
    omega
theorem sumR_turn {p : Nat} {op : Option OpS} : ∀ {n : Nat}, p < n → sumR n s' (updP run p op) + rk s (run p) ≤ sumR n s run + rk s' op + 2 * n
  | 0, h => absurd h (Nat.not_lt_zero p)
  | n + 1, h => by
    rw [sumR_succ, sumR_succ]
    by_cases hp : p = n
    · subst hp
      have := sumR_out (run := run) (s := s) (s' := s') (op := op) (Nat.le_refl p)
      rw [updP_same]; omega
    · rw [updP_ne (q := n) (by omega)]
      have := sumR_turn (op := op) (n := n) (p := p) (by omega)
      have := rk_le s s' (run n)
      omega
theorem sumR_quiet (he : ∀ op, rk s' op = rk s op) {p : Nat} {op : Option OpS} : ∀ {n : Nat}, p < n → sumR n s' (updP run p op) + rk s (run p) = sumR n s run + rk s op
  | 0, h => absurd h (Nat.not_lt_zero p)
  | n + 1, h => by
    rw [sumR_succ, sumR_succ]
    by_cases hp : p = n
    · subst hp
      have e : ∀ m, m ≤ p → sumR m s' (updP run p op) = sumR m s run := by
        intro m
        induction m with
        | zero => intro _; rfl
        | succ m ih => intro hm; rw [sumR_succ, sumR_succ, updP_ne (by omega), ih (by omega), he]
      rw [updP_same, e p (Nat.le_refl _), he]; omega
    · rw [updP_ne (q := n) (by omega), he]
      have := sumR_quiet he (op := op) (n := n) (p := p) (by omega)
      omega
/-- A step that leaves the words of the slots alone. -/
theorem pot_quiet {p : Nat} {op : Option OpS} (hp : p < n) (hw : ∀ j : Int, 0 ≤ j → wordS s' (1 + j) = wordS s (1 + j)) (h : 30 * (allL s'.q).length + rk s op < 30 * (allL s.q).length + rk s (run p)) : pot n s' (updP run p op) < pot n s run := by
  have := sumR_quiet (run := run) (rk_eq hw) (op := op) hp
  unfold pot; omega
theorem pot_turn {p : Nat} {op : Option OpS} (hp : p < n) (hn : n ≤ 4) (h : 30 * (allL s'.q).length + rk s' op + 8 < 30 * (allL s.q).length + rk s (run p)) : pot n s' (updP run p op) < pot n s run := by
  have := sumR_turn (s := s) (s' := s') (run := run) (op := op) hp
  unfold pot; omega
theorem pot_same {p : Nat} {op : Option OpS} (hp : p < n) (hw : ∀ j : Int, 0 ≤ j → wordS s' (1 + j) = wordS s (1 + j)) (hq : (allL s'.q).length = (allL s.q).length) (h : rk s op = rk s (run p)) : pot n s' (updP run p op) = pot n s run := by
  have := sumR_quiet (run := run) (rk_eq hw) (op := op) hp
  unfold pot; omega
/-! ### Calls that are held up -/
def waitI : InsSt → Option Nat
  | .tryTop => some 0
  | .tryRungs => some 1
  | .tryBot => some 2
  | .tryArena => some 3
  | _ => none
/-- The mutex that a call waits for. -/
def waitO : OpS → Option Nat
  | .ins o => match o.st with | some st => waitI st | none => none
  | .bat o => if ¬ (o.call.max < 0 ∨ 64 < o.call.max) ∧ o.scanned = false ∧ o.held < 4 then some o.held else none
  | _ => none
def claimed (s : Sto) : OpS → Prop
  | .can o => o.ph = 0 ∧ 0 ≤ slotOf o.handle ∧ slotOf o.handle < s.slots.length ∧ stale (wordS s (1 + slotOf o.handle)) (hgenOf o.handle) = false ∧ stS s (slotOf o.handle) = 2
  | _ => False
/-- A call that is held up. -/
def Blk (s : Sto) (o : OpS) : Prop := (∃ m, waitO o = some m ∧ s.mus[m]? ≠ some none) ∨ claimed s o
end PQ
namespace PQ
variable {n : Nat} {s s' : Sto} {run : Nat → Option OpS} {K : Int}
theorem lock_yes_iff {t : Int} {m : Nat} : (lockS s t m).2 = true ↔ s.mus[m]? = some none := by
  unfold lockS
  split
  · rename_i h; simp [h]
  · rename_i h; simp [h]
theorem unlock_words (s : Sto) (t m : Int) (j : Int) : wordS (unlockS s t m) j = wordS s j := by
  unfold unlockS; split
  · rfl
  · split <;> rfl
theorem unlock_q (s : Sto) (t m : Int) : (unlockS s t m).q = s.q := by
  unfold unlockS; split
  · rfl
  · split <;> rfl
theorem lock_words (s : Sto) (t : Int) (m : Nat) (j : Int) : wordS (lockS s t m).1 j = wordS s j := by
  unfold lockS; split <;> rfl
theorem lock_q (s : Sto) (t : Int) (m : Nat) : (lockS s t m).1.q = s.q := by
  unfold lockS; split <;> rfl
theorem rk_ins (s : Sto) (o : InsOp) : rk s (some (.ins o)) = rkI o.st := rfl
/-- An insertion's step, quiet. -/
theorem ins_quiet {p : Nat} (hp : p < n) {o o1 : InsOp} (hr : run p = some (.ins o)) {st : InsSt} (hst : o.st = some st) {s1 : Sto} (hn : nextI s p { o with eff := false } st = (s1, o1))
    (hw : ∀ j : Int, 0 ≤ j → wordS s1 (1 + j) = wordS s (1 + j)) (h : 30 * (allL s1.q).length + rkI o1.st < 30 * (allL s.q).length + rkI (some st)) : pot n (stepI s p o).1 (updP run p (opI (stepI s p o))) < pot n s run := by
  have hrk : rk s (run p) = rkI (some st) := by rw [hr, rk_ins, hst]
  cases h1 : o1.st with
  | none =>
    rw [stepI_end hst hn h1, opI_end]
    refine pot_quiet hp hw ?_
    rw [hrk]
    rw [h1] at h
    exact h
  | some st' =>
    rw [stepI_go hst hn h1, opI_go]
    refine pot_quiet hp hw ?_
    rw [hrk, rk_ins]
    exact h
theorem insert_len {l : Ld} (h : LdOk l) (it : It) : (allL (insertL l it)).length = (allL l).length + 1 := by
  rw [(insertL_perm h (it := it)).1.length_eq]; rfl
theorem rel_words (s1 : Sto) (t : Int) (o : InsOp) (j : Int) : wordS (releaseI s1 t o).1 j = wordS s1 j := unlock_words s1 t _ j
theorem rel_q (s1 : Sto) (t : Int) (o : InsOp) : (releaseI s1 t o).1.q = s1.q := unlock_q s1 t _
theorem rel_rk (s1 : Sto) (t : Int) (o : InsOp) : rkI (releaseI s1 t o).2.st ≤ 1 := by
  have e : (releaseI s1 t o).2.st = if o.held.dropLast.isEmpty then none else some .release := rfl
  rw [e]; split
  · exact Nat.zero_le _
  · exact Nat.le_refl _
theorem rel_rk1 (s1 : Sto) (t : Int) {o : InsOp} {x : Int} (h : o.held = [x]) : rkI (releaseI s1 t o).2.st = 0 := by
  have e : (releaseI s1 t o).2.st = if o.held.dropLast.isEmpty then none else some .release := rfl
  rw [e, h]; rfl
theorem rel_arith {a b c k d m : Nat} (h1 : a = b + k) (h2 : c ≤ d) (h3 : 30 * k + d < m) : 30 * a + c < 30 * b + m := by omega
theorem ins_sink (h : MInv n s run K) (hn : n ≤ 4) {p : Nat} (hp : p < n) {o : InsOp} (hr : run p = some (.ins o)) (hb : ¬ Blk s (.ins o)) : pot n (stepI s p o).1 (updP run p (opI (stepI s p o))) < pot n s run := by
  have ho : InsOk s o := by have := h.ops p hp; rw [hr] at this; exact this
  obtain ⟨st, hst, hheld⟩ := ho.st
  have htry : ∀ (k : Nat) (st' : InsSt), waitI st = some k → nextI s p { o with eff := false } st = tryI s p { o with eff := false } k st' → rkI (some st') < rkI (some st) → pot n (stepI s p o).1 (updP run p (opI (stepI s p o))) < pot n s run := by
    intro k st' hw hn hlt
    have hok : (lockS s p k).2 = true := by
      rw [lock_yes_iff]
      refine Decidable.byContradiction fun hc => hb (.inl ⟨k, ?_, hc⟩)
      show (match o.st with | some st => waitI st | none => none) = some k
      rw [hst]; exact hw
    have e : nextI s p { o with eff := false } st = ((lockS s p k).1, { o with eff := false, st := some st', held := if k = 3 then o.held else o.held ++ [(k : Int)] }) := by
      rw [hn]; unfold tryI; rw [if_pos hok]
    refine ins_quiet hp hr hst e (fun j _ => lock_words s p k _) ?_
    rw [lock_q]
    exact Nat.add_lt_add_left hlt _
  have hgo : ∀ (o1 : InsOp), nextI s p { o with eff := false } st = (s, o1) → rkI o1.st < rkI (some st) → pot n (stepI s p o).1 (updP run p (opI (stepI s p o))) < pot n s run := fun o1 e hlt =>
    ins_quiet hp hr hst e (fun j _ => rfl) (Nat.add_lt_add_left hlt _)
  cases st with
  | start =>
    by_cases hbad : o.time < 0 ∨ 1152921504606846976 < o.time
    · exact hgo { o with st := none, eff := true, pend := { o.pend with err := 1 } } (if_pos hbad) (by decide : (0 : Nat) < 51)
    · by_cases hf : farS s o.time = true
      · refine hgo { o with st := some .tryTop, eff := false } ((if_neg hbad).trans (if_pos hf)) (by decide : (50 : Nat) < 51)
      · refine hgo { o with st := some .tryRungs, eff := false } ((if_neg hbad).trans (if_neg hf)) (by decide : (47 : Nat) < 51)
  | tryTop => exact htry 0 .confirm rfl rfl (by decide)
  | confirm =>
    by_cases hf : farS s o.time = true
    · exact hgo { o with st := some .tryArena, eff := false } (by show (s, { o with eff := false, st := if farS s o.time = true then some InsSt.tryArena else some .undo }) = _; rw [if_pos hf]) (by decide : (44 : Nat) < 49)
    · exact hgo { o with st := some .undo, eff := false } (by show (s, { o with eff := false, st := if farS s o.time = true then some InsSt.tryArena else some .undo }) = _; rw [if_neg hf]) (by decide : (48 : Nat) < 49)
  | undo =>
    refine ins_quiet hp hr hst (s1 := unlockS s p (o.held.getLast?.getD 0)) (o1 := { o with eff := false, held := o.held.dropLast, st := some .tryRungs }) rfl (fun j _ => unlock_words s p _ _) ?_
    rw [unlock_q]
    exact Nat.add_lt_add_left (by decide : (47 : Nat) < 48) _
  | tryRungs => exact htry 1 .choose rfl rfl (by decide)
  | choose =>
    by_cases hf : acceptsS s o.time = true
    · exact hgo { o with st := some .tryArena, eff := false } (by show (s, { o with eff := false, st := if acceptsS s o.time = true then some InsSt.tryArena else some .tryBot }) = _; rw [if_pos hf]) (by decide : (44 : Nat) < 46)
    · exact hgo { o with st := some .tryBot, eff := false } (by show (s, { o with eff := false, st := if acceptsS s o.time = true then some InsSt.tryArena else some .tryBot }) = _; rw [if_neg hf]) (by decide : (45 : Nat) < 46)
  | tryBot => exact htry 2 .tryArena rfl rfl (by decide)
  | tryArena => exact htry 3 .alloc rfl rfl (by decide)
  | alloc =>
    cases hg : s.idle.getLast? with
    | none =>
      refine hgo { o with st := some .leave, eff := true, pend := { o.pend with err := 10 } } ?_ (by decide : (33 : Nat) < 43)
      show (match (allocS s o.time).2 with
        | some h => ((allocS s o.time).1, { o with eff := true, st := some InsSt.leave, h := some h, pend := { o.pend with rh := h } })
        | none => ((allocS s o.time).1, { o with st := some InsSt.leave, eff := true, pend := { o.pend with err := 10 } })) = _
      rw [allocS_none hg]
    | some i =>
      have e : nextI s p { o with eff := false } .alloc = (takeS s i o.time, { o with st := some .leave, eff := true, h := some (hdlOf i (gnS s i)), pend := { o.pend with rh := hdlOf i (gnS s i) } }) := by
        show (match (allocS s o.time).2 with
          | some h => ((allocS s o.time).1, { o with eff := true, st := some InsSt.leave, h := some h, pend := { o.pend with rh := h } })
          | none => ((allocS s o.time).1, { o with st := some InsSt.leave, eff := true, pend := { o.pend with err := 10 } })) = _
        rw [allocS_some hg]
      rw [stepI_go hst e rfl, opI_go]
      refine pot_turn hp hn ?_
      rw [take_q, hr, rk_ins, rk_ins, hst]
      show 30 * _ + 33 + 8 < 30 * _ + 43
      omega
  | leave =>
    refine ins_quiet hp hr hst (s1 := unlockS s p 3) (o1 := { o with eff := false, st := some .put }) rfl (fun j _ => unlock_words s p _ _) ?_
    rw [unlock_q]
    exact Nat.add_lt_add_left (by decide : (32 : Nat) < 33) _
  | put =>
    have hn : ∀ s1, (match o.h with | some h => putS s (slotOf h) | none => s) = s1 → nextI s p { o with eff := false } .put = releaseI s1 p { o with eff := false } := fun s1 e => by
      show releaseI (match o.h with | some h => putS s (slotOf h) | none => s) p { o with eff := false } = _
      rw [e]
    cases hx : o.h with
    | none =>
      refine ins_quiet hp hr hst (s1 := (releaseI s p { o with eff := false }).1) (o1 := (releaseI s p { o with eff := false }).2) (hn s (by rw [hx])) (fun j _ => rel_words s p _ _) ?_
      have h1 := rel_rk s p { o with eff := false }
      have h2 : (allL (releaseI s p { o with eff := false }).1.q).length = (allL s.q).length := by rw [rel_q]
      exact rel_arith (k := 0) h2 h1 (by decide)
    | some x =>
      refine ins_quiet hp hr hst (s1 := (releaseI (putS s (slotOf x)) p { o with eff := false }).1) (o1 := (releaseI (putS s (slotOf x)) p { o with eff := false }).2) (hn (putS s (slotOf x)) (by rw [hx])) (fun j _ => rel_words _ p _ _) ?_
      have h1 := rel_rk (putS s (slotOf x)) p { o with eff := false }
      have h2 : (allL (releaseI (putS s (slotOf x)) p { o with eff := false }).1.q).length = (allL s.q).length + 1 := by
        rw [rel_q]; exact insert_len h.slots.q _
      exact rel_arith (k := 1) h2 h1 (by decide)
  | release =>
    have hh : o.held = [1] := hheld
    refine ins_quiet hp hr hst (s1 := (releaseI s p { o with eff := false }).1) (o1 := (releaseI s p { o with eff := false }).2) rfl (fun j _ => rel_words s p _ _) ?_
    have h1 := rel_rk1 s p (o := { o with eff := false }) hh
    have h2 : (allL (releaseI s p { o with eff := false }).1.q).length = (allL s.q).length := by rw [rel_q]
    exact rel_arith (k := 0) h2 (Nat.le_of_eq h1) (by decide)
end PQ
namespace PQ
variable {n : Nat} {s s' : Sto} {run : Nat → Option OpS} {K : Int}
theorem stepC_out {o : CanOp} (h : slotOf o.handle < 0 ∨ (s.slots.length : Int) ≤ slotOf o.handle) : stepC s o = (s, { o with ph := 2 }, true) := if_pos h
theorem stepC_one {o : CanOp} (h : ¬ (slotOf o.handle < 0 ∨ (s.slots.length : Int) ≤ slotOf o.handle)) (hp : o.ph = 1) :
    stepC s o = if wordS s (1 + slotOf o.handle) = o.seen then (setW s (1 + slotOf o.handle) (wordOf (genOf o.seen) 3), { o with ph := 2, canc := true }, true) else (s, { o with ph := 0 }, false) := by
  have e : stepC s o = if (casS s (1 + slotOf o.handle) o.seen (wordOf (genOf o.seen) 3)).2 = true then ((casS s (1 + slotOf o.handle) o.seen (wordOf (genOf o.seen) 3)).1, { o with ph := 2, canc := true }, true) else (s, { o with ph := 0 }, false) := by
    unfold stepC; simp only [if_neg h, if_pos hp]
  rw [e]
  by_cases hc : wordS s (1 + slotOf o.handle) = o.seen
  · have ec : casS s (1 + slotOf o.handle) o.seen (wordOf (genOf o.seen) 3) = (setW s (1 + slotOf o.handle) (wordOf (genOf o.seen) 3), true) := if_pos hc
    rw [ec, if_pos hc, if_pos rfl]
  · have ec : casS s (1 + slotOf o.handle) o.seen (wordOf (genOf o.seen) 3) = (s, false) := if_neg hc
    rw [ec, if_neg hc, if_neg (fun hx => Bool.noConfusion (show false = true from hx))]
theorem stepC_zero {o : CanOp} (h : ¬ (slotOf o.handle < 0 ∨ (s.slots.length : Int) ≤ slotOf o.handle)) (hp : o.ph = 0) :
    stepC s o = if stale (wordS s (1 + slotOf o.handle)) (hgenOf o.handle) = true then (s, { o with seen := wordS s (1 + slotOf o.handle), ph := 2 }, true)
        else if stOf (wordS s (1 + slotOf o.handle)) = 2 then (s, { o with seen := wordS s (1 + slotOf o.handle) }, false) else (s, { o with seen := wordS s (1 + slotOf o.handle), ph := 1 }, false) := by
  have hph : ¬ o.ph = 1 := by omega
  have e : stepC s o = if stale (wordS s (1 + slotOf o.handle)) (hgenOf o.handle) = true then (s, { o with seen := wordS s (1 + slotOf o.handle), ph := 2 }, true)
        else if stOf (wordS s (1 + slotOf o.handle)) = 2 then (s, { o with seen := wordS s (1 + slotOf o.handle) }, decide (o.ph = 2)) else (s, { o with seen := wordS s (1 + slotOf o.handle), ph := 1 }, false) := by
    unfold stepC; simp only [if_neg h, if_neg hph]
  rw [e, decide_eq_false (by omega : ¬ o.ph = 2)]
theorem can_sink (h : MInv n s run K) (hn : n ≤ 4) {p : Nat} (hp : p < n) {o : CanOp} (hr : run p = some (.can o)) (hb : ¬ Blk s (.can o)) : pot n (stepC s o).1 (updP run p (opC (stepC s o))) < pot n s run := by
  have ho : CanOk s o := by have := h.ops p hp; rw [hr] at this; exact this
  have hrk : rk s (run p) = rkC s o := by rw [hr]; rfl
  have h10 : 10 ≤ rkC s o := by unfold rkC; split; split <;> decide; decide
  have hend : pot n s (updP run p none) < pot n s run := by
    refine pot_quiet hp (fun _ _ => rfl) ?_
    show 30 * _ + 0 < _
    omega
  by_cases hin : slotOf o.handle < 0 ∨ (s.slots.length : Int) ≤ slotOf o.handle
  · rw [stepC_out hin]; exact hend
  by_cases hph : o.ph = 1
  · rw [stepC_one hin hph]
    by_cases hc : wordS s (1 + slotOf o.handle) = o.seen
    · rw [if_pos hc]
      refine pot_turn (op := none) hp hn ?_
      rw [setW_q]
      show 30 * _ + 0 + 8 < _
      omega
    · rw [if_neg hc]
      refine pot_quiet (s' := s) (op := some (.can { o with ph := 0 })) hp (fun _ _ => rfl) ?_
      have e1 : rk s (some (.can { o with ph := 0 })) = 11 := rfl
      have e2 : rkC s o = 12 := by
        unfold rkC
        rw [if_pos hph, if_neg]
        unfold freshW
        simp only [Bool.or_eq_true, decide_eq_true_eq, not_or]
        exact ⟨by omega, hc⟩
      omega
  · have hp0 : o.ph = 0 := ho.ph.resolve_right hph
    have e2 : rkC s o = 11 := if_neg hph
    rw [stepC_zero hin hp0]
    by_cases hst : stale (wordS s (1 + slotOf o.handle)) (hgenOf o.handle) = true
    · rw [if_pos hst]; exact hend
    · rw [if_neg hst]
      by_cases h2 : stOf (wordS s (1 + slotOf o.handle)) = 2
      · refine absurd (.inr ⟨hp0, by omega, by omega, ?_, h2⟩) hb
        cases hx : stale (wordS s (1 + slotOf o.handle)) (hgenOf o.handle) with
        | false => rfl
        | true => exact absurd hx hst
      · rw [if_neg h2]
        refine pot_quiet (s' := s) (op := some (.can { o with seen := wordS s (1 + slotOf o.handle), ph := 1 })) hp (fun _ _ => rfl) ?_
        have e1 : rk s (some (.can { o with seen := wordS s (1 + slotOf o.handle), ph := 1 })) = 10 := by
          show rkC s _ = 10
          unfold rkC
          rw [if_pos rfl, if_pos]
          unfold freshW
          simp
        omega
theorem can_blk {p : Nat} {o : CanOp} (hb : Blk s (.can o)) : stepO s p (.can o) = (s, .can { o with seen := wordS s (1 + slotOf o.handle) }, false) ∧ rk s (some (.can { o with seen := wordS s (1 + slotOf o.handle) })) = rk s (some (.can o)) := by
  rcases hb with ⟨m, hm, _⟩ | ⟨h1, h2, h3, h4, h5⟩
  · cases hm
  · have e : stepC s o = (s, { o with seen := wordS s (1 + slotOf o.handle) }, false) := by
      rw [stepC_zero (by omega) h1, if_neg (by rw [h4]; decide)]; exact if_pos h5
    refine ⟨?_, ?_⟩
    · show ((stepC s o).1, OpS.can (stepC s o).2.1, (stepC s o).2.2) = _
      rw [e]
    · show rkC s _ = rkC s _
      unfold rkC
      rw [if_neg (by show ¬ o.ph = 1; omega), if_neg (by omega)]
theorem peek_len (h : LdOk s.q) : (allL (peekS s).1.q).length = (allL s.q).length := by
  have e : (peekS s).1.q = peekL s.q := replS_q s _
  rw [e, (peekL_ok h).1.perm.length_eq]
theorem drop_len (h : LdOk s.q) {x : It} (hx : (peekL s.q).bot.head? = some x) : (allL (dropS s).q).length + 1 = (allL s.q).length := by
  have e : (dropS s).q = popL s.q := replS_q s _
  rw [e, ← (peekL_ok h).1.perm.length_eq, (pop_perm s.q hx).length_eq]; rfl
theorem rkB_scan {o : BatOp} (hs : o.scanned = false) (hc : o.claim = false) : rkB s o = 10 * o.removed.length + (4 - o.held + 10) := by
  unfold rkB; rw [if_neg (by rw [hs]; decide), if_neg (by rw [hc]; decide)]
theorem rkB_done {o : BatOp} (hs : o.scanned = true) : rkB s o = 10 * o.removed.length + o.held := by
  unfold rkB; rw [if_pos hs]
theorem rkB_claim {o : BatOp} (hs : o.scanned = false) (hc : o.claim = true) : rkB s o = 10 * o.removed.length + (4 - o.held + if freshW s o.item.slot o.word = true then 9 else 11) := by
  unfold rkB; rw [if_neg (by rw [hs]; decide), if_pos hc]
theorem rk_bat (s : Sto) (o : BatOp) : rk s (some (.bat o)) = rkB s o := rfl
theorem bat_sink (h : MInv n s run K) (hn : n ≤ 4) {p : Nat} (hp : p < n) {o : BatOp} (hr : run p = some (.bat o)) (hb : ¬ Blk s (.bat o)) : pot n (stepB s p o).1 (updP run p (opB (stepB s p o))) < pot n s run := by
  have ho : BatOk s o := by have := h.ops p hp; rw [hr] at this; exact this
  have hrk : rk s (run p) = rkB s o := by rw [hr]; rfl
  have hh := ho.held
  by_cases hmax : o.call.max < 0 ∨ 64 < o.call.max
  · rw [bB_bad hmax]
    obtain ⟨a, b⟩ := ho.max hmax
    have hc : o.claim = false := (ho.low b (by omega)).2.2
    refine pot_quiet (s' := s) (op := none) hp (fun _ _ => rfl) ?_
    rw [hrk, rkB_scan b hc]
    show 30 * _ + 0 < _
    omega
  by_cases hlk : o.scanned = false ∧ o.held < 4
  · have hok : (lockS s p o.held).2 = true := by
      rw [lock_yes_iff]
      refine Decidable.byContradiction fun hc => hb (.inl ⟨o.held, ?_, hc⟩)
      show (if ¬ (o.call.max < 0 ∨ 64 < o.call.max) ∧ o.scanned = false ∧ o.held < 4 then some o.held else none) = _
      rw [if_pos ⟨hmax, hlk⟩]
    rw [bB_lock hmax hlk.1 hlk.2, if_pos hok, opB_go]
    have hc : o.claim = false := (ho.low hlk.1 hlk.2).2.2
    refine pot_quiet hp (fun j _ => lock_words s p _ _) ?_
    rw [lock_q, hrk, rk_bat, rkB_scan hlk.1 hc, rkB_scan (o := { o with eff := false, held := o.held + 1 }) hlk.1 hc]
    show 30 * _ + (10 * o.removed.length + (4 - (o.held + 1) + 10)) < _
    omega
  by_cases hc : o.claim = true
  · obtain ⟨hs, h4⟩ := ho.claims hc
    obtain ⟨c1, c2, c3, c4, c5⟩ := ho.clm hc
    rw [bB_claim hmax hlk hc, opB_go]
    have hpk : (peekL s.q).bot.head? = some o.item := by rw [peek_done c1]; exact c2
    have hmem : o.item ∈ allL s.q := by
      have hb : o.item ∈ s.q.bot := List.mem_of_mem_head? (by rw [c2]; exact rfl)
      rw [allL_eq, List.mem_append]; exact .inr hb
    have hir := h.slots.range _ hmem
    by_cases hw : wordS s (1 + o.item.slot) = o.word
    · have ec : casS s (1 + o.item.slot) o.word (wordOf (genOf o.word) 2) = (setW s (1 + o.item.slot) (wordOf (genOf o.word) 2), true) := if_pos hw
      have e : takeQ s { o with eff := false } = (dropS (setW s (1 + o.item.slot) (wordOf (genOf o.word) 2)), { o with eff := false, claim := false, removed := o.removed ++ [o.item.slot], events := o.events ++ [⟨o.item.time, hdlOf o.item.slot (genOf o.word)⟩] }) := by
        unfold takeQ
        simp only [ec, if_true]; rfl
      rw [e]
      refine pot_turn (s' := dropS (setW s (1 + o.item.slot) (wordOf (genOf o.word) 2))) hp hn ?_
      have hd := drop_len (s := setW s (1 + o.item.slot) (wordOf (genOf o.word) 2)) (by rw [setW_q]; exact h.slots.q) (by rw [setW_q]; exact hpk)
      rw [setW_q] at hd
      rw [hrk, rk_bat, rkB_claim hs hc, rkB_scan (o := { o with eff := false, claim := false, removed := o.removed ++ [o.item.slot], events := o.events ++ [⟨o.item.time, hdlOf o.item.slot (genOf o.word)⟩] }) hs rfl]
      show 30 * _ + (10 * (o.removed ++ [o.item.slot]).length + (4 - o.held + 10)) + 8 < _
      rw [List.length_append, List.length_singleton]
      have : 9 ≤ (if freshW s o.item.slot o.word = true then 9 else 11) := by split <;> decide
      omega
    · have ec : casS s (1 + o.item.slot) o.word (wordOf (genOf o.word) 2) = (s, false) := if_neg hw
      have e : takeQ s { o with eff := false } = (s, { o with eff := false, claim := false }) := by
        unfold takeQ
        simp only [ec]; rfl
      rw [e]
      refine pot_quiet (s' := s) hp (fun _ _ => rfl) ?_
      have hfr : freshW s o.item.slot o.word ≠ true := by
        unfold freshW
        simp only [ne_eq, Bool.or_eq_true, decide_eq_true_eq, not_or]
        exact ⟨by omega, hw⟩
      rw [hrk, rk_bat, rkB_claim hs hc, if_neg hfr, rkB_scan (o := { o with eff := false, claim := false }) hs rfl]
      show 30 * _ + (10 * o.removed.length + (4 - o.held + 10)) < _
      omega
  have hc : o.claim = false := by simpa using hc
  by_cases hs : o.scanned = false
  · have h4 : o.held = 4 := by
      have : ¬ o.held < 4 := fun hx => hlk ⟨hs, hx⟩
      omega
    rw [bB_scan hmax hlk hc hs, opB_go]
    have hpl := peek_len (s := s) h.slots.q
    have hpw : ∀ j : Int, 0 ≤ j → wordS (peekS s).1 (1 + j) = wordS s (1 + j) := fun j hj => replS_word s _ hj
    have hstop : pot n (peekS s).1 (updP run p (some (.bat { o with eff := true, scanned := true }))) < pot n s run := by
      refine pot_quiet hp hpw ?_
      rw [hpl, hrk, rk_bat, rkB_scan hs hc, rkB_done (o := { o with eff := true, scanned := true }) rfl]
      show 30 * _ + (10 * o.removed.length + o.held) < _
      omega
    cases hpk : (peekS s).2 with
    | none =>
      have e : scanQ s { o with eff := false } = ((peekS s).1, { o with eff := true, scanned := true }) := by
        unfold scanQ; rw [hpk]
      rw [e]; exact hstop
    | some it =>
      by_cases hbd : o.call.bound ≤ it.time ∨ (o.events.length : Int) = o.call.max
      · have e : scanQ s { o with eff := false } = ((peekS s).1, { o with eff := true, scanned := true }) := by
          unfold scanQ; rw [hpk]; exact if_pos hbd
        rw [e]; exact hstop
      · by_cases h3 : stOf (wordS (peekS s).1 (1 + it.slot)) = 3
        · have e : scanQ s { o with eff := false } = (dropS (peekS s).1, { o with eff := false, item := it, word := wordS (peekS s).1 (1 + it.slot), claim := false, removed := o.removed ++ [it.slot] }) := by
            unfold scanQ; rw [hpk]; exact (if_neg hbd).trans (if_pos h3)
          rw [e]
          refine pot_quiet (s' := dropS (peekS s).1) hp (fun j hj => (replS_word _ _ hj).trans (hpw j hj)) ?_
          have hq1 : (peekS s).1.q = peekL s.q := replS_q s _
          have hhd : (peekL s.q).bot.head? = some it := hpk
          have hpd := (peekL_ok h.slots.q).2
          have hd := drop_len (s := (peekS s).1) (x := it) (by rw [hq1]; exact (peekL_ok h.slots.q).1.ok) (by rw [hq1, peek_done hpd]; exact hhd)
          rw [hpl] at hd
          rw [hrk, rk_bat, rkB_scan hs hc, rkB_scan (o := { o with eff := false, item := it, word := wordS (peekS s).1 (1 + it.slot), claim := false, removed := o.removed ++ [it.slot] }) hs rfl]
          show 30 * _ + (10 * (o.removed ++ [it.slot]).length + (4 - o.held + 10)) < _
          rw [List.length_append, List.length_singleton]
          omega
        · have e : scanQ s { o with eff := false } = ((peekS s).1, { o with eff := false, item := it, word := wordS (peekS s).1 (1 + it.slot), claim := true }) := by
            unfold scanQ; rw [hpk]; exact (if_neg hbd).trans (if_neg h3)
          rw [e]
          have hhd : (peekL s.q).bot.head? = some it := hpk
          have hmem : it ∈ allL s.q := by
            refine (peekL_ok h.slots.q).1.perm.mem_iff.1 ?_
            have hb : it ∈ (peekL s.q).bot := List.mem_of_mem_head? (by rw [hhd]; exact rfl)
            rw [allL_eq, List.mem_append]; exact .inr hb
          have hir := h.slots.range _ hmem
          refine pot_quiet hp hpw ?_
          have hfr : freshW s it.slot (wordS (peekS s).1 (1 + it.slot)) = true := by
            unfold freshW; rw [hpw _ hir.1]; simp
          rw [hpl, hrk, rk_bat, rkB_scan hs hc, rkB_claim (o := { o with eff := false, item := it, word := wordS (peekS s).1 (1 + it.slot), claim := true }) hs rfl]
          show 30 * _ + (10 * o.removed.length + (4 - o.held + if freshW s it.slot (wordS (peekS s).1 (1 + it.slot)) = true then 9 else 11)) < _
          rw [if_pos hfr]
          omega
  · have hs' : o.scanned = true := by simpa using hs
    obtain ⟨_, d1, d2⟩ := ho.done hs'
    cases hrm : o.removed with
    | cons x r =>
      rw [bB_free hmax hc hs' hrm, opB_go]
      refine pot_turn hp hn ?_
      have hq : (freeS s x).q = s.q := by show (setW s (1 + x) _).q = s.q; rw [setW_q]
      rw [hq, hrk, rk_bat, rkB_done hs', rkB_done (o := { o with eff := false, removed := r }) hs', hrm]
      show 30 * _ + (10 * r.length + o.held) + 8 < _
      rw [List.length_cons]
      omega
    | nil =>
      by_cases h1 : o.held = 1
      · rw [bB_last hmax hc hs' hrm h1, opB_end]
        refine pot_quiet (op := none) hp (fun j _ => unlock_words s p _ _) ?_
        rw [unlock_q, hrk, rkB_done hs', h1]
        show 30 * _ + 0 < _
        omega
      · rw [bB_unlock hmax hc hs' hrm h1, opB_go]
        refine pot_quiet hp (fun j _ => unlock_words s p _ _) ?_
        rw [unlock_q, hrk, rk_bat, rkB_done hs', rkB_done (o := { o with eff := false, held := o.held - 1 }) hs']
        show 30 * _ + (10 * o.removed.length + (o.held - 1)) < _
        omega
theorem bat_blk {p : Nat} {o : BatOp} (hb : Blk s (.bat o)) : stepO s p (.bat o) = (s, .bat { o with eff := false }, false) ∧ rk s (some (.bat { o with eff := false })) = rk s (some (.bat o)) := by
  rcases hb with ⟨m, hm, h2⟩ | h
  · have hm : (if ¬ (o.call.max < 0 ∨ 64 < o.call.max) ∧ o.scanned = false ∧ o.held < 4 then some o.held else none) = some m := hm
    split at hm
    · rename_i hc
      cases hm
      refine ⟨?_, rfl⟩
      have hno : ¬ (lockS s p o.held).2 = true := by rw [lock_yes_iff]; exact h2
      have e := bB_lock (s := s) (t := p) hc.1 hc.2.1 hc.2.2
      rw [if_neg hno] at e
      show ((stepB s p o).1, OpS.bat (stepB s p o).2.1, (stepB s p o).2.2) = _
      rw [e]
    · cases hm
  · exact h.elim
theorem ins_blk {p : Nat} {o : InsOp} (hb : Blk s (.ins o)) : stepO s p (.ins o) = (s, .ins { o with eff := false }, false) ∧ rk s (some (.ins { o with eff := false })) = rk s (some (.ins o)) := by
  rcases hb with ⟨m, hm, h2⟩ | h
  · refine ⟨?_, rfl⟩
    have hm : (match o.st with | some st => waitI st | none => none) = some m := hm
    cases hst : o.st with
    | none => rw [hst] at hm; cases hm
    | some st =>
      rw [hst] at hm
      have hm : waitI st = some m := hm
      have hno : ¬ (lockS s p m).2 = true := by rw [lock_yes_iff]; exact h2
      have e : nextI s p { o with eff := false } st = (s, { o with eff := false }) := by
        cases st <;> first | (cases hm; unfold nextI tryI; rw [if_neg hno]) | cases hm
      show ((stepI s p o).1, OpS.ins (stepI s p o).2.1, (stepI s p o).2.2) = _
      rw [stepI_go hst e hst, hst]
  · exact h.elim
/-- A call that is held up changes nothing. -/
theorem blk_step {p : Nat} {o : OpS} (hb : Blk s o) : ∃ o', stepO s p o = (s, o', false) ∧ rk s (some o') = rk s (some o) := by
  cases o with
  | ins o => exact ⟨_, ins_blk hb⟩
  | can o => exact ⟨_, can_blk hb⟩
  | bat o => exact ⟨_, bat_blk hb⟩
  | unk b =>
    rcases hb with ⟨m, hm, _⟩ | h
    · cases hm
    · exact h.elim
/-- A step that is not held up lets the potential sink. -/
theorem any_sink (h : MInv n s run K) (hn : n ≤ 4) {p : Nat} (hp : p < n) {o : OpS} (hr : run p = some o) (hb : ¬ Blk s o) : pot n (stepO s p o).1 (updP run p (opAny (stepO s p o))) < pot n s run := by
  cases o with
  | ins o => exact ins_sink h hn hp hr hb
  | can o => exact can_sink h hn hp hr hb
  | bat o => exact bat_sink h hn hp hr hb
  | unk b =>
    refine pot_quiet (s' := s) (op := none) hp (fun _ _ => rfl) ?_
    rw [hr]
    show 30 * _ + 0 < 30 * _ + 1
    omega
end PQ
namespace PQ
variable {n : Nat} {s s' : Sto} {run : Nat → Option OpS} {K : Int}
theorem wait_hi {o : OpS} (h : OpOk s (some o)) {m k : Nat} (hw : waitO o = some m) (hk : (k : Int) ∈ locksO (some o)) : k < m ∧ m < 4 := by
  cases o with
  | ins o =>
    obtain ⟨st, hst, hheld⟩ := InsOk.st h
    have hw : (match o.st with | some st => waitI st | none => none) = some m := hw
    rw [hst] at hw
    have hw : waitI st = some m := hw
    rw [locks_ins, hst] at hk
    cases st <;> simp only [waitI] at hw <;> first | (cases hw; done) | skip
    all_goals (cases hw; rw [if_neg (by rintro (e | e) <;> cases e), List.append_nil] at hk; simp only [heldOk] at hheld)
    · rw [hheld] at hk; cases hk
    · rw [hheld] at hk; cases hk
    · rw [hheld, List.mem_singleton] at hk; omega
    · rcases hheld with e | e | e <;> rw [e] at hk <;> simp at hk <;> omega
  | bat o =>
    have hw : (if ¬ (o.call.max < 0 ∨ 64 < o.call.max) ∧ o.scanned = false ∧ o.held < 4 then some o.held else none) = some m := hw
    split at hw
    · rename_i hc
      cases hw
      exact ⟨locks_bat.1 hk, hc.2.2⟩
    · cases hw
  | can o => cases hw
  | unk b => cases hw
theorem wait_lt {o : OpS} {m : Nat} (hw : waitO o = some m) : m < 4 := by
  cases o with
  | ins o =>
    have hw : (match o.st with | some st => waitI st | none => none) = some m := hw
    cases hst : o.st with
    | none => rw [hst] at hw; cases hw
    | some st =>
      rw [hst] at hw
      have hw : waitI st = some m := hw
      cases st <;> simp only [waitI] at hw <;> cases hw <;> decide
  | bat o =>
    have hw : (if ¬ (o.call.max < 0 ∨ 64 < o.call.max) ∧ o.scanned = false ∧ o.held < 4 then some o.held else none) = some m := hw
    split at hw
    · rename_i hc; cases hw; exact hc.2.2
    · cases hw
  | can o => cases hw
  | unk b => cases hw
theorem nowait (h : MInv n s run K) (hall : ∀ p, p < n → ∀ o, run p = some o → Blk s o) : ∀ (k m : Nat), m + k = 4 → ∀ (p : Nat) (o : OpS), p < n → run p = some o → waitO o = some m → False
  | 0, m, hm, p, o, hp, hr, hw => by have := wait_lt hw; omega
  | k + 1, m, hm, p, o, hp, hr, hw => by
    have hne : s.mus[m]? ≠ some none := by
      rcases hall p hp o hr with ⟨m', hm', h2⟩ | hc
      · rw [hw] at hm'; cases hm'; exact h2
      · cases o with
        | can o => cases hw
        | _ => exact hc.elim
    have hlen := h.slots.ml
    have hml : m < s.mus.length := by omega
    have hsome : ∃ t, s.mus[m]? = some (some t) := by
      cases hx : s.mus[m] with
      | none => exact absurd (by rw [List.getElem?_eq_getElem hml, hx]) hne
      | some t => exact ⟨t, by rw [List.getElem?_eq_getElem hml, hx]⟩
    obtain ⟨t, ht⟩ := hsome
    obtain ⟨q, hq, _, hin⟩ := (h.lock m (by omega) t).1 ht
    cases hrq : run q with
    | none => rw [hrq] at hin; cases hin
    | some oq =>
      rw [hrq] at hin
      have hokq := h.ops q hq
      rw [hrq] at hokq
      rcases hall q hq oq hrq with ⟨m', hm', _⟩ | hc
      · have h1 := wait_hi hokq hm' hin
        -- the holder waits for a higher mutex
        have key : ∀ (k' : Nat), k' ≤ k → m' + k' = 4 → False := fun k' hk' e => by
          have := nowait h hall k' m' e q oq hq hrq hm'
          exact this
        exact key (4 - m') (by omega) (by omega)
      · cases oq with
        | can o => cases hin
        | _ => exact hc.elim
  termination_by k => k
/-- Not all running calls are held up. -/
theorem some_free (h : MInv n s run K) (hall : ∀ p, p < n → ∀ o, run p = some o → Blk s o) : ∀ p, p < n → run p = none := by
  have hnw : ∀ p, p < n → ∀ o, run p = some o → waitO o = none := fun p hp o hr => by
    cases hw : waitO o with
    | none => rfl
    | some m => exact (nowait h hall (4 - m) m (by have := wait_lt hw; omega) p o hp hr hw).elim
  intro p hp
  cases hr : run p with
  | none => rfl
  | some o =>
    exfalso
    rcases hall p hp o hr with ⟨m, hm, _⟩ | hc
    · rw [hnw p hp o hr] at hm; cases hm
    · cases o with
      | can o =>
        obtain ⟨h1, h2, h3, h4, h5⟩ := hc
        have hm : slotOf o.handle ∈ s.idle ++ (allL s.q).map It.slot ++ ownsR n run := h.slots.perm.mem_iff.2 (List.mem_map.2 ⟨(slotOf o.handle).toNat, List.mem_range.2 (by omega), by omega⟩)
        rw [List.mem_append, List.mem_append] at hm
        rcases hm with (hm | hm) | hm
        · rw [h.slots.idle _ hm] at h5; cases h5
        · obtain ⟨x, hx, e⟩ := List.mem_map.1 hm
          have := (h.slots.qit x hx).2
          rw [e, h5] at this
          omega
        · obtain ⟨q, hq, hin⟩ := List.mem_flatMap.1 hm
          rw [List.mem_range] at hq
          cases hrq : run q with
          | none => rw [hrq] at hin; cases hin
          | some oq =>
            rw [hrq] at hin
            have hokq := h.ops q hq
            rw [hrq] at hokq
            cases oq with
            | ins oi =>
              have hin : slotOf o.handle ∈ (if oi.st = some .leave ∨ oi.st = some .put then (match oi.h with | some x => [slotOf x] | none => []) else []) := hin
              split at hin
              · rename_i hs
                cases hx : oi.h with
                | none => rw [hx] at hin; cases hin
                | some x =>
                  rw [hx] at hin
                  have e : slotOf o.handle = slotOf x := List.mem_singleton.1 hin
                  have := (InsOk.own hokq hs x hx).2.2.2
                  rw [← e, h5] at this
                  omega
              · cases hin
            | bat ob =>
              rcases hall q hq _ hrq with ⟨m, hm, _⟩ | hc
              · rw [hnw q hq _ hrq] at hm; cases hm
              · exact hc.elim
            | can _ => cases hin
            | unk _ => cases hin
      | _ => exact hc.elim
end PQ
namespace PQ
variable {n : Nat} {s s' : Sto} {run : Nat → Option OpS} {K : Int}
def EvOk : Option OpS → Prop
  | some (.bat o) => o.call.max < 0 ∨ 64 < o.call.max ∨ (o.events.length : Int) ≤ o.call.max
  | _ => True
theorem ev_bat {t : Int} {o : BatOp} (ho : BatOk s o) (he : EvOk (some (.bat o))) : EvOk (opB (stepB s t o)) := by
  have he : o.call.max < 0 ∨ 64 < o.call.max ∨ (o.events.length : Int) ≤ o.call.max := he
  by_cases hmax : o.call.max < 0 ∨ 64 < o.call.max
  · rw [bB_bad hmax]; trivial
  by_cases hlk : o.scanned = false ∧ o.held < 4
  · rw [bB_lock hmax hlk.1 hlk.2]
    split
    · exact he
    · exact he
  by_cases hc : o.claim = true
  · rw [bB_claim hmax hlk hc, opB_go]
    have hm := (ho.clm hc).2.2.2.2
    unfold takeQ
    split
    · show o.call.max < 0 ∨ 64 < o.call.max ∨ ((o.events ++ [_]).length : Int) ≤ o.call.max
      rw [List.length_append, List.length_singleton]
      omega
    · exact he
  have hc : o.claim = false := by simpa using hc
  by_cases hs : o.scanned = false
  · rw [bB_scan hmax hlk hc hs, opB_go]
    unfold scanQ
    split
    · exact he
    · split
      · exact he
      · split
        · exact he
        · exact he
  · have hs' : o.scanned = true := by simpa using hs
    cases hrm : o.removed with
    | cons x r => rw [bB_free hmax hc hs' hrm, opB_go]; exact he
    | nil =>
      by_cases h1 : o.held = 1
      · rw [bB_last hmax hc hs' hrm h1, opB_end]; trivial
      · rw [bB_unlock hmax hc hs' hrm h1, opB_go]; exact he
theorem ev_any {t : Int} {o : OpS} (ho : OpOk s (some o)) (he : EvOk (some o)) : EvOk (opAny (stepO s t o)) := by
  cases o with
  | bat o => exact ev_bat ho he
  | ins o =>
    unfold opAny
    split
    · trivial
    · trivial
  | can o =>
    unfold opAny
    split
    · trivial
    · trivial
  | unk b => trivial
theorem ev_new (c : Call) : EvOk (some (newO c)) := by
  unfold newO
  split
  · trivial
  · split
    · trivial
    · split
      · show c.max < 0 ∨ 64 < c.max ∨ ((0 : Nat) : Int) ≤ c.max
        omega
      · trivial
theorem rk_new (s : Sto) (c : Call) : rk s (some (newO c)) ≤ 51 := by
  unfold newO
  split
  · exact Nat.le_refl 51
  · split
    · show rkC s _ ≤ 51
      unfold rkC; split
      · split <;> decide
      · decide
    · split
      · show rkB s _ ≤ 51
        rw [rkB_scan rfl rfl]
        show 10 * 0 + (4 - 0 + 10) ≤ 51
        decide
      · exact (by decide : 1 ≤ 51)
/-! ### Sums over the threads -/
theorem sum_set {f : Thr → Nat} : ∀ {l : List Thr} {i : Nat} (hi : i < l.length) (x : Thr), ((l.set i x).map f).sum + f l[i] = (l.map f).sum + f x
  | a :: l, 0, _, x => by
    simp only [List.set_cons_zero, List.map_cons, List.sum_cons, List.getElem_cons_zero]; omega
  | a :: l, i + 1, h, x => by
    have := sum_set (f := f) (l := l) (i := i) (by simpa using h) x
    simp only [List.set_cons_succ, List.map_cons, List.sum_cons, List.getElem_cons_succ]; omega
theorem le_sum {a : Nat} : ∀ {l : List Nat}, a ∈ l → a ≤ l.sum
  | b :: l, h => by
    rw [List.sum_cons]
    rcases List.mem_cons.1 h with rfl | h
    · omega
    · have := le_sum h; omega
def todo (t : Thr) : Nat := t.script.length - t.results.length
def unst (t : Thr) : Nat := todo t - if t.run.isSome = true then 1 else 0
def thrSum (f : Thr → Nat) (r : RunS) : Nat := (r.thrs.map f).sum
structure ThrOk (t : Thr) : Prop where
  le : t.results.length ≤ t.script.length
  lt : t.run ≠ none → t.results.length < t.script.length
def phi (n : Nat) (r : RunS) : Nat := pot n r.sto (runOf r) + 60 * thrSum unst r
/-- What every run keeps; 'T': so many calls. -/
structure RI (n T : Nat) (r : RunS) : Prop where
  len : r.thrs.length = n
  picks : 0 ≤ r.picks
  inv : r.picks ≤ 400000 → MInv n r.sto (runOf r) (2 * r.picks)
  thr : ∀ t ∈ r.thrs, ThrOk t
  sc : ∀ t ∈ r.thrs, t.script.length ≤ T
  ev : r.picks ≤ 400000 → ∀ p, EvOk (runOf r p)
  left : r.left = thrSum todo r
  dn : r.dones.length + thrSum todo r = T
  pot : r.picks ≤ 400000 → phi n r ≤ 60 * T
/-- A thread whose pick lets the potential sink. -/
def Ena (r : RunS) (p : Nat) : Prop := ∃ t, r.thrs[p]? = some t ∧ ((t.run = none ∧ t.results.length < t.script.length) ∨ ∃ o, t.run = some o ∧ ¬ Blk r.sto o)
theorem runOf_set {r : RunS} {p : Nat} (hp : p < r.thrs.length) (t : Thr) (s : Sto) (d : List Done) (a b : Int) : ∀ q, runOf ⟨s, r.thrs.set p t, d, a, b⟩ q = updP (runOf r) p t.run q := by
  intro q
  unfold runOf
  show ((r.thrs.set p t)[q]?).bind Thr.run = _
  by_cases h : q = p
  · rw [h, updP_same, List.getElem?_set_self hp]; rfl
  · rw [updP_ne h, List.getElem?_set_ne (fun e => h e.symm)]
theorem sumR_congr {f g : Nat → Option OpS} (h : ∀ q, f q = g q) : sumR n s f = sumR n s g := by
  unfold sumR
  congr 1
  exact List.map_congr_left fun q _ => by rw [h q]
theorem pot_congr {f g : Nat → Option OpS} (h : ∀ q, f q = g q) : pot n s f = pot n s g := by
  unfold pot; rw [sumR_congr h]
theorem updP_self {f : Nat → Option OpS} {p : Nat} {x : Option OpS} (h : f p = x) : ∀ q, updP f p x q = f q := fun q => by
  by_cases hq : q = p
  · rw [hq, updP_same, h]
  · rw [updP_ne hq]
theorem updP_two (f : Nat → Option OpS) (p : Nat) (x y : Option OpS) : ∀ q, updP (updP f p x) p y q = updP f p y q := fun q => by
  by_cases hq : q = p
  · rw [hq, updP_same, updP_same]
  · rw [updP_ne hq, updP_ne hq, updP_ne hq]
/-- What one step of a call does to the potential. -/
theorem step_pot (h : MInv n s run K) (hn : n ≤ 4) {p : Nat} (hp : p < n) {o : OpS} (hr : run p = some o) :
    pot n (stepO s p o).1 (updP run p (opAny (stepO s p o))) ≤ pot n s run ∧ (¬ Blk s o → pot n (stepO s p o).1 (updP run p (opAny (stepO s p o))) < pot n s run) ∧ (Blk s o → (stepO s p o).1 = s ∧ (stepO s p o).2.2 = false) := by
  by_cases hb : Blk s o
  · obtain ⟨o', e, hrk⟩ := blk_step (p := p) hb
    rw [e]
    refine ⟨Nat.le_of_eq ?_, fun h => absurd hb h, fun _ => ⟨rfl, rfl⟩⟩
    show pot n s (updP run p (some o')) = _
    exact pot_same (s := s) (s' := s) hp (fun _ _ => rfl) rfl (by rw [hrk, hr])
  · have h1 := any_sink h hn hp hr hb
    exact ⟨Nat.le_of_lt h1, fun _ => h1, fun hx => absurd hx hb⟩
theorem thr_get {r : RunS} {p : Nat} (hp : p < r.thrs.length) : r.thrs[p]? = some r.thrs[p] := List.getElem?_eq_getElem hp
/-- What a pick does. -/
structure PickF (n T : Nat) (r : RunS) (p : Nat) : Prop where
  ri : RI n T (pickM r p)
  le : r.picks ≤ 400000 → phi n (pickM r p) ≤ phi n r
  lt : r.picks ≤ 400000 → Ena r p → phi n (pickM r p) < phi n r
  no : r.picks ≤ 400000 → ¬ Ena r p → (pickM r p).sto = r.sto ∧ (pickM r p).left = r.left ∧ ∀ q, q ≠ p → (pickM r p).thrs[q]? = r.thrs[q]?
end PQ
namespace PQ
variable {n : Nat} {T : Nat} {r : RunS} {p : Nat}
theorem done_pick (h : RI n T r) {t : Thr} (ht : r.thrs[p]? = some t) (hd : t.run = none ∧ t.results.length = t.script.length) : PickF n T r p := by
  have e := pick_done ht hd
  have hno : ¬ Ena r p := by
    rintro ⟨t', ht', hx⟩
    rw [ht] at ht'; cases ht'
    rcases hx with ⟨_, h2⟩ | ⟨o, h2, _⟩
    · omega
    · rw [hd.1] at h2; cases h2
  refine ⟨?_, fun _ => ?_, fun _ hx => absurd hx hno, fun _ _ => ?_⟩
  · rw [e]
    refine ⟨h.len, ?_, fun hk => ?_, h.thr, h.sc, fun hk => ?_, h.left, h.dn, fun hk => ?_⟩
    · show 0 ≤ r.picks + 1
      have := h.picks; omega
    · have hk : r.picks + 1 ≤ 400000 := hk
      exact (h.inv (by omega)).monoK (by show 2 * r.picks ≤ 2 * (r.picks + 1); omega)
    · have hk : r.picks + 1 ≤ 400000 := hk
      exact h.ev (by omega)
    · have hk : r.picks + 1 ≤ 400000 := hk
      exact h.pot (by omega)
  · rw [e]; exact Nat.le_refl _
  · rw [e]; exact ⟨rfl, rfl, fun _ _ => rfl⟩
theorem pick_f (h : RI n T r) (hn : n ≤ 4) (hp : p < n) : PickF n T r p := by
  have hpl : p < r.thrs.length := by rw [h.len]; exact hp
  have ht := thr_get hpl
  by_cases hd : r.thrs[p].run = none ∧ r.thrs[p].results.length = r.thrs[p].script.length
  · exact done_pick h ht hd
  obtain ⟨t, hte⟩ : ∃ t, t = r.thrs[p] := ⟨_, rfl⟩
  rw [← hte] at ht hd
  obtain ⟨o, ho, hc⟩ := startT_some t p r.picks
  have hs := stepT_sto r.sto (startT t p r.picks) o p r.picks
  have hst := startT_same t p r.picks
  have e := pick_step ht hd ho
  have htok := h.thr t (by rw [hte]; exact List.getElem_mem hpl)
  have hlt : t.results.length < t.script.length := by
    cases hr : t.run with
    | some _ => exact htok.lt (by rw [hr]; intro h; cases h)
    | none =>
      have := htok.le
      have : ¬ t.results.length = t.script.length := fun hx => hd ⟨hr, hx⟩
      omega
  obtain ⟨t2, ht2⟩ : ∃ t2, t2 = (stepT r.sto (startT t p r.picks) o p r.picks).2.1 := ⟨_, rfl⟩
  obtain ⟨f, hf⟩ : ∃ f, f = (stepO r.sto p o).2.2 := ⟨_, rfl⟩
  rw [← ht2, hs.1, hs.2.2.1, ← hf] at e
  rw [← ht2, ← hf, hst.1, hst.2] at hs
  obtain ⟨_, h2r, _, h2s, h2l⟩ := hs
  have hsc : t2.script = t.script := h2s
  have hrun : t2.run = opAny (stepO r.sto p o) := h2r
  have hopf : opAny (stepO r.sto p o) = if f = true then none else some (stepO r.sto p o).2.1 := by rw [hf]; rfl
  have hrl : t2.results.length = t.results.length + if f = true then 1 else 0 := by
    rw [h2l]; split
    · rw [List.length_append]; rfl
    · rfl
  have htodo : todo t2 + (if f = true then 1 else 0) = todo t := by
    unfold todo; rw [hsc, hrl]; split <;> omega
  have hunst : unst t2 = todo t - 1 := by
    unfold unst; rw [hrun, hopf]
    cases f with
    | true => simp at htodo ⊢; omega
    | false => simp at htodo ⊢; omega
  have hrunOf : ∀ q, runOf (pickM r p) q = updP (runOf r) p (opAny (stepO r.sto p o)) q := fun q => by
    rw [e, ← hrun]; exact runOf_set hpl _ _ _ _ _ q
  have hrp : runOf r p = t.run := by unfold runOf; rw [ht]; rfl
  have hsum : ∀ F : Thr → Nat, thrSum F (pickM r p) + F t = thrSum F r + F t2 := fun F => by
    rw [e]
    have := sum_set (f := F) hpl t2
    rw [← hte] at this
    exact this
  have hsto : (pickM r p).sto = (stepO r.sto p o).1 := by rw [e]
  have hU := hsum unst
  have hphi : r.picks ≤ 400000 → phi n (pickM r p) ≤ phi n r ∧ (Ena r p → phi n (pickM r p) < phi n r) ∧ (¬ Ena r p → (stepO r.sto p o).1 = r.sto ∧ f = false) := by
    intro hk
    have hinv := h.inv (by omega)
    have hpe : pot n (pickM r p).sto (runOf (pickM r p)) = pot n (stepO r.sto p o).1 (updP (runOf r) p (opAny (stepO r.sto p o))) := by rw [hsto]; exact pot_congr hrunOf
    rcases hc with hc | ⟨hc, hc2⟩
    · have h1 := step_pot hinv hn hp (by rw [hrp]; exact hc)
      have hu : unst t = todo t - 1 := by unfold unst; rw [hc]; rfl
      refine ⟨?_, fun hen => ?_, fun hen => ?_⟩
      · unfold phi; rw [hpe]; have := h1.1; omega
      · have hb : ¬ Blk r.sto o := by
          obtain ⟨t', ht', hx⟩ := hen
          rw [ht] at ht'; cases ht'
          rcases hx with ⟨hx, _⟩ | ⟨o', hx, hb⟩
          · rw [hc] at hx; cases hx
          · rw [hc] at hx; cases hx; exact hb
        have := h1.2.1 hb
        unfold phi; rw [hpe]; omega
      · have hb : Blk r.sto o := Classical.byContradiction fun hb => hen ⟨t, ht, .inr ⟨o, hc, hb⟩⟩
        have := h1.2.2 hb
        rw [hf]; exact this
    · have h1 := hinv.start hp (by rw [hrp]; exact hc) (nextT t)
      have h2 := step_pot h1 hn hp (o := o) (by rw [updP_same, hc2])
      have h3 := pot_congr (n := n) (s := (stepO r.sto p o).1) (updP_two (runOf r) p (some (newO (nextT t))) (opAny (stepO r.sto p o)))
      have h4 := sumR_quiet (s := r.sto) (s' := r.sto) (run := runOf r) (fun _ => rfl) (op := some (newO (nextT t))) hp
      have h5 := rk_new r.sto (nextT t)
      have h6 : rk r.sto (runOf r p) = 0 := by rw [hrp, hc]; rfl
      have h7 : pot n r.sto (updP (runOf r) p (some (newO (nextT t)))) = pot n r.sto (runOf r) + rk r.sto (some (newO (nextT t))) := by
        unfold pot; omega
      have hu : unst t = todo t := by unfold unst; rw [hc]; rfl
      have htd : 1 ≤ todo t := by unfold todo; omega
      have h8 := h2.1
      rw [h3] at h8
      have hlt2 : phi n (pickM r p) < phi n r := by
        unfold phi; rw [hpe]; omega
      exact ⟨Nat.le_of_lt hlt2, fun _ => hlt2, fun hen => absurd ⟨t, ht, .inl ⟨hc, hlt⟩⟩ hen⟩
  have hpk : (pickM r p).picks = r.picks + 1 := pickM_picks r p
  refine ⟨⟨by rw [pickM_thrs]; exact h.len, by rw [hpk]; have := h.picks; omega, fun hk => ?_, fun t' ht' => ?_, fun t' ht' => ?_, fun hk q => ?_, ?_, ?_, fun hk => ?_⟩, fun hk => (hphi hk).1, fun hk => (hphi hk).2.1, fun hk hen => ?_⟩
  · rw [hpk] at hk ⊢
    have hK : 2 * r.picks ≤ 999998 := by omega
    exact (pick_inv h.len hp hK (h.inv (by omega))).monoK (by omega)
  · rw [e] at ht'
    rcases List.mem_or_eq_of_mem_set ht' with hx | hx
    · exact h.thr t' hx
    · rw [hx]
      refine ⟨?_, fun hne => ?_⟩
      · rw [hsc, hrl]; split <;> omega
      · rw [hrun, hopf] at hne
        cases f with
        | true => exact absurd rfl hne
        | false => rw [hsc, hrl]; simp; exact hlt
  · rw [e] at ht'
    rcases List.mem_or_eq_of_mem_set ht' with hx | hx
    · exact h.sc t' hx
    · rw [hx, hsc]; exact h.sc t (by rw [hte]; exact List.getElem_mem hpl)
  · rw [hpk] at hk
    rw [hrunOf q]
    by_cases hq : q = p
    · rw [hq, updP_same]
      have hinv := h.inv (by omega)
      rcases hc with hc | ⟨hc, hc2⟩
      · have h1 := hinv.ops p hp
        have h2 := h.ev (by omega) p
        rw [hrp, hc] at h1 h2
        exact ev_any h1 h2
      · rw [hc2]
        exact ev_any (fresh_ok r.sto _).1 (ev_new _)
    · rw [updP_ne hq]; exact h.ev (by omega) q
  · have hT := hsum todo
    have hl : (pickM r p).left = if f = true then r.left - 1 else r.left := by rw [e]
    have h0 := h.left
    rw [hl]
    cases f with
    | true => simp at htodo ⊢; omega
    | false => simp at htodo ⊢; omega
  · have hT := hsum todo
    have hdn := h.dn
    have hl : (pickM r p).dones.length = r.dones.length + if f = true then 1 else 0 := by
      rw [e]
      cases f with
      | true => simp
      | false => simp
    rw [hl]
    cases f with
    | true => simp at htodo ⊢; omega
    | false => simp at htodo ⊢; omega
  · rw [hpk] at hk
    have := (hphi (by omega)).1
    have := h.pot (by omega)
    omega
  · obtain ⟨h1, h2⟩ := (hphi hk).2.2 hen
    subst h2
    rw [e]
    refine ⟨h1, rfl, fun q hq => ?_⟩
    show (r.thrs.set p t2)[q]? = _
    rw [List.getElem?_set_ne (fun x => hq x.symm)]
end PQ
namespace PQ
variable {n : Nat} {T : Nat} {r : RunS} {p : Nat}
theorem ena_some (h : RI n T r) (hk : r.picks ≤ 400000) (hl : 0 < r.left) : ∃ p, p < n ∧ Ena r p := by
  refine Classical.byContradiction fun hno => ?_
  have hno : ∀ p, p < n → ¬ Ena r p := fun p hp hx => hno ⟨p, hp, hx⟩
  have hinv := h.inv hk
  have hnone : ∀ p, p < n → runOf r p = none := some_free hinv fun p hp o hr => by
    refine Classical.byContradiction fun hb => hno p hp ?_
    have hpl : p < r.thrs.length := by rw [h.len]; exact hp
    refine ⟨_, thr_get hpl, .inr ⟨o, ?_, hb⟩⟩
    unfold runOf at hr
    rw [thr_get hpl] at hr
    exact hr
  have hsum : 0 < thrSum todo r := by have := h.left; omega
  have hex : ∃ t ∈ r.thrs, 0 < todo t := by
    refine Classical.byContradiction fun hc => ?_
    have : ∀ t ∈ r.thrs, todo t = 0 := fun t ht => by
      rcases Nat.eq_zero_or_pos (todo t) with e | e
      · exact e
      · exact absurd ⟨t, ht, e⟩ hc
    have h2 : thrSum todo r = 0 := by
      unfold thrSum
      generalize r.thrs = l at this
      induction l with
      | nil => rfl
      | cons a l ih =>
        rw [List.map_cons, List.sum_cons, this a (.head _), ih fun t ht => this t (.tail _ ht)]
    omega
  obtain ⟨t, ht, h0⟩ := hex
  obtain ⟨i, hi, rfl⟩ := List.mem_iff_getElem.1 ht
  have hin : i < n := by rw [← h.len]; exact hi
  refine hno i hin ⟨_, thr_get hi, .inl ⟨?_, ?_⟩⟩
  · have := hnone i hin
    unfold runOf at this
    rw [thr_get hi] at this
    exact this
  · unfold todo at h0; omega
theorem rounds_add {t : Nat} : ∀ (a b p : Nat) (r : RunS), p < t → rounds t (a + b) p r = rounds t b ((p + a) % t) (rounds t a p r)
  | 0, b, p, r, hp => by
    rw [Nat.zero_add, Nat.add_zero, Nat.mod_eq_of_lt hp]; rfl
  | a + 1, b, p, r, hp => by
    by_cases h : r.left = 0
    · rw [rounds_stuck h, rounds_stuck h, rounds_stuck h]
    · have e1 : rounds t (a + 1 + b) p r = rounds t (a + b) ((p + 1) % t) (pickM r p) := by
        rw [show a + 1 + b = (a + b) + 1 by omega, rounds, if_neg h]
      have e2 : rounds t (a + 1) p r = rounds t a ((p + 1) % t) (pickM r p) := by rw [rounds, if_neg h]
      rw [e1, e2, rounds_add a b _ _ (Nat.mod_lt _ (by omega))]
      have e3 : ((p + 1) % t + a) % t = (p + (a + 1)) % t := by rw [Nat.mod_add_mod]; congr 1; omega
      rw [e3]
theorem rounds_ri (hn : n ≤ 4) : ∀ (j p : Nat) (r : RunS), RI n T r → p < n → r.picks + j ≤ 400000 → RI n T (rounds n j p r) ∧ phi n (rounds n j p r) ≤ phi n r ∧ (rounds n j p r).picks ≤ r.picks + j
  | 0, p, r, h, hp, hk => ⟨h, Nat.le_refl _, by show r.picks ≤ _; omega⟩
  | j + 1, p, r, h, hp, hk => by
    by_cases hl : r.left = 0
    · rw [rounds_stuck hl]; exact ⟨h, Nat.le_refl _, by omega⟩
    · rw [rounds, if_neg hl]
      have hf := pick_f h hn hp
      have hpk := pickM_picks r p
      obtain ⟨a, b, c⟩ := rounds_ri hn j ((p + 1) % n) (pickM r p) hf.ri (Nat.mod_lt _ (by omega)) (by rw [hpk]; omega)
      have := hf.le (by omega)
      exact ⟨a, by omega, by omega⟩
theorem round_sink (hn : n ≤ 4) {q : Nat} : ∀ (j p : Nat) (r : RunS), RI n T r → p < n → (p + j) % n = q → r.picks + (j + 1 : Nat) ≤ 400000 → Ena r q → (rounds n (j + 1) p r).left = 0 ∨ phi n (rounds n (j + 1) p r) < phi n r := by
  intro j
  induction j with
  | zero =>
    intro p r h hp hq hk hen
    by_cases hl : r.left = 0
    · rw [rounds_stuck hl]; exact .inl hl
    · rw [rounds, if_neg hl]
      rw [Nat.add_zero, Nat.mod_eq_of_lt hp] at hq
      subst hq
      exact .inr ((pick_f h hn hp).lt (by omega) hen)
  | succ j ih =>
    intro p r h hp hq hk hen
    by_cases hl : r.left = 0
    · rw [rounds_stuck hl]; exact .inl hl
    · rw [rounds, if_neg hl]
      have hf := pick_f h hn hp
      have hpk := pickM_picks r p
      have hmod : (p + 1) % n < n := Nat.mod_lt _ (by omega)
      by_cases hep : Ena r p
      · have h1 := hf.lt (by omega) hep
        have h2 := (rounds_ri hn (j + 1) ((p + 1) % n) (pickM r p) hf.ri hmod (by rw [hpk]; omega)).2.1
        exact .inr (by omega)
      · obtain ⟨h1, h2, h3⟩ := hf.no (by omega) hep
        have hqp : q ≠ p := fun e => hep (e ▸ hen)
        have hen2 : Ena (pickM r p) q := by
          obtain ⟨t, ht, hx⟩ := hen
          refine ⟨t, by rw [h3 q hqp]; exact ht, ?_⟩
          rw [h1]; exact hx
        have h4 := ih ((p + 1) % n) (pickM r p) hf.ri hmod (by rw [Nat.mod_add_mod, ← hq]; congr 1; omega) (by rw [hpk]; omega) hen2
        have h5 := hf.le (by omega)
        rcases h4 with h4 | h4
        · exact .inl h4
        · exact .inr (by omega)
theorem rounds_end (hn : n ≤ 4) : ∀ (k p : Nat) (r : RunS), RI n T r → p < n → r.picks + (n * k : Nat) ≤ 400000 → phi n r ≤ k → (rounds n (n * k) p r).left = 0 := by
  intro k
  induction k with
  | zero =>
    intro p r h hp hk hphi
    show r.left = 0
    have h0 := h.left
    refine Classical.byContradiction fun hl => ?_
    obtain ⟨q, hq, hen⟩ := ena_some h (by omega) (by omega)
    have := (pick_f h hn hq).lt (by omega) hen
    omega
  | succ k ih =>
    intro p r h hp hk hphi
    by_cases hl : r.left = 0
    · rw [rounds_stuck hl]; exact hl
    have h0 := h.left
    have hnk : n * (k + 1) = n + n * k := by rw [Nat.mul_succ]; omega
    rw [hnk] at hk ⊢
    rw [rounds_add _ _ _ _ hp]
    have hmod : (p + n) % n < n := Nat.mod_lt _ (by omega)
    obtain ⟨a, b, c⟩ := rounds_ri hn n p r h hp (by omega)
    by_cases hl2 : (rounds n n p r).left = 0
    · rw [rounds_stuck hl2]; exact hl2
    refine ih _ _ a hmod (by omega) ?_
    obtain ⟨q, hq, hen⟩ := ena_some h (by omega) (by omega)
    obtain ⟨j, hj, hjq⟩ : ∃ j, j < n ∧ (p + j) % n = q := by
      by_cases hpq : p ≤ q
      · exact ⟨q - p, by omega, by rw [show p + (q - p) = q by omega]; exact Nat.mod_eq_of_lt hq⟩
      · exact ⟨q + n - p, by omega, by rw [show p + (q + n - p) = q + n by omega, Nat.add_mod_right]; exact Nat.mod_eq_of_lt hq⟩
    have h4 := round_sink hn j p r h hp hjq (by omega) hen
    have hsplit := rounds_add (t := n) (j + 1) (n - (j + 1)) p r hp
    rw [show j + 1 + (n - (j + 1)) = n by omega] at hsplit
    obtain ⟨a1, b1, c1⟩ := rounds_ri hn (j + 1) p r h hp (by omega)
    have hmod2 : (p + (j + 1)) % n < n := Nat.mod_lt _ (by omega)
    have h5 := (rounds_ri hn (n - (j + 1)) _ _ a1 hmod2 (by omega)).2.1
    rw [← hsplit] at h5
    rcases h4 with h4 | h4
    · rw [hsplit, rounds_stuck h4] at hl2
      exact absurd h4 hl2
    · omega
/-- The runs of the laws come to their end. -/
theorem run_fin (hn1 : 1 ≤ n) (hn : n ≤ 4) (hT : T ≤ 7) (h : RI n T r) (hk : r.picks ≤ 300) : (rounds n 1680 0 r).left = 0 := by
  have hphi : phi n r ≤ 420 := by have := h.pot (by omega); omega
  have h4 : n * 420 ≤ 1680 := by omega
  have h1 := rounds_end hn 420 0 r h (by omega) (by omega) hphi
  rw [show 1680 = n * 420 + (1680 - n * 420) by omega, rounds_add _ _ _ _ (by omega), rounds_stuck h1]
  exact h1
theorem start_ri {cap : Nat} (hc : cap ≤ 64) {l : List (List Call)} (hT : (l.map List.length).sum = T) : RI l.length T (startM cap l) := by
  have hrun : ∀ p, runOf (startM cap l) p = none := fun p => by
    unfold runOf startM
    show ((l.map fun s => (⟨s, [], none, done0⟩ : Thr))[p]?).bind Thr.run = none
    rw [List.getElem?_map]
    cases l[p]? <;> rfl
  have hpot0 : pot l.length (newS cap) (runOf (startM cap l)) = 0 := by
    unfold pot
    have e1 : (allL (newS cap).q).length = 0 := rfl
    have e2 : ∀ m, sumR m (newS cap) (runOf (startM cap l)) = 0 := fun m => by
      induction m with
      | zero => rfl
      | succ m ih => rw [sumR_succ, ih, hrun]; rfl
    rw [e1, e2]
  have hun : ∀ F : Thr → Nat, (∀ s : List Call, F ⟨s, [], none, done0⟩ = s.length) → thrSum F (startM cap l) = T := fun F hF => by
    rw [← hT]
    unfold thrSum startM
    show ((l.map fun s => (⟨s, [], none, done0⟩ : Thr)).map F).sum = _
    rw [List.map_map]
    congr 1
    exact List.map_congr_left fun s _ => hF s
  have htd := hun todo fun s => by unfold todo; simp
  refine ⟨by show (l.map _).length = _; rw [List.length_map], Int.le_refl 0, fun _ => newS_inv hc hrun, fun t ht => ?_, fun t ht => ?_, fun _ p => by rw [hrun]; trivial, ?_, ?_, fun _ => ?_⟩
  · obtain ⟨s, _, rfl⟩ := List.mem_map.1 ht
    exact ⟨Nat.zero_le _, fun h => absurd rfl h⟩
  · obtain ⟨s, hs, rfl⟩ := List.mem_map.1 ht
    show s.length ≤ T
    rw [← hT]
    exact PQ.le_sum (List.mem_map_of_mem hs)
  · rw [htd, ← hT]; rfl
  · rw [htd]; show 0 + T = T; omega
  · have e1 := hun unst fun s => by unfold unst todo; simp
    have e2 : pot l.length (startM cap l).sto (runOf (startM cap l)) = 0 := hpot0
    unfold phi
    rw [e2, e1]; omega
end PQ
namespace PQ
variable {n : Nat} {T : Nat} {r : RunS} {p : Nat}
theorem ri_runs (hn1 : 1 ≤ n) (hn : n ≤ 4) (hT : T ≤ 7) : Runs n 1680 (RI n T) where
  step := fun r p h hp _ => (pick_f h hn hp).ri
  left := fun r h => by rw [h.left]; omega
  thrs := fun r h => h.len
  fin := fun r h hk => run_fin hn1 hn hT h hk
theorem runPicks_inv {inv : RunS → Prop} (hs : ∀ r p, inv r → p < n → 0 < r.left → inv (pickM r p)) : ∀ (ps : List Nat) (r : RunS), (∀ p ∈ ps, p < n) → inv r → inv (runPicks r ps) ∧ (runPicks r ps).picks ≤ r.picks + ps.length
  | [], r, _, h => ⟨h, by show r.picks ≤ _; simp⟩
  | p :: ps, r, hp, h => by
    by_cases hl : 0 < r.left
    · rw [runPicks, if_pos hl]
      obtain ⟨a, b⟩ := runPicks_inv hs ps (pickM r p) (fun q hq => hp q (.tail _ hq)) (hs r p h (hp p (.head _)) hl)
      rw [pickM_picks] at b
      exact ⟨a, by rw [List.length_cons]; omega⟩
    · rw [runPicks_stuck hl]; exact ⟨h, by omega⟩
theorem rounds_inv (hn1 : 1 ≤ n) {inv : RunS → Prop} (hs : ∀ r p, inv r → p < n → inv (pickM r p)) : ∀ (k p : Nat) (r : RunS), p < n → inv r → inv (rounds n k p r)
  | 0, p, r, _, h => h
  | k + 1, p, r, hp, h => by
    by_cases hl : r.left = 0
    · rw [rounds_stuck hl]; exact h
    · rw [rounds, if_neg hl]
      exact rounds_inv hn1 hs k _ _ (Nat.mod_lt _ (by omega)) (hs r p h hp)
/-- What holds at the end of a law's run. -/
theorem finish_inv {l : List (List Call)} {cap : Nat} {pks : List Nat} (h1 : 1 ≤ l.length) {inv : RunS → Prop} (h0 : inv (startM cap l)) (hs : ∀ r p, inv r → p < l.length → inv (pickM r p)) (hp : ∀ p ∈ pks, p < l.length) (k : Nat) : inv (finishM cap l pks k) := by
  unfold finishM
  exact rounds_inv h1 hs k 0 _ (by omega) (runPicks_inv (fun r p h hp _ => hs r p h hp) pks _ hp h0).1
theorem finish_left {l : List (List Call)} {cap : Nat} (hc : cap ≤ 64) {pks : List Nat} (h1 : 1 ≤ l.length) (h4 : l.length ≤ 4) (hT : (l.map List.length).sum ≤ 7) (hp : ∀ p ∈ pks, p < l.length) (hk : pks.length ≤ 300) :
    RI l.length (l.map List.length).sum (finishM cap l pks 1680) ∧ (finishM cap l pks 1680).left = 0 ∧ (finishM cap l pks 1680).dones.length = (l.map List.length).sum := by
  have h0 := start_ri hc (l := l) rfl
  have hri : RI l.length (l.map List.length).sum (finishM cap l pks 1680) := finish_inv h1 h0 (fun r p h hp => (pick_f h h4 hp).ri) hp 1680
  have hl : (finishM cap l pks 1680).left = 0 := by
    obtain ⟨a, b⟩ := runPicks_inv (inv := RI l.length (l.map List.length).sum) (fun r p h hp _ => (pick_f h h4 hp).ri) pks _ hp h0
    exact run_fin h1 h4 hT a (by have : (startM cap l).picks = 0 := rfl; omega)
  refine ⟨hri, hl, ?_⟩
  have := hri.left
  have := hri.dn
  omega
/-- The queue is short. -/
theorem RI.short (h : RI n T r) (hT : T ≤ 7) (hk : r.picks ≤ 400000) : (allL r.sto.q).length ≤ 14 := by
  have := h.pot hk
  unfold phi PQ.pot at this
  omega
theorem RI.sok (h : RI n T r) (hT : T ≤ 7) (hk : r.picks ≤ 400000) : SOk r.sto (2 * r.picks) := (h.inv hk).slots.sok (by have := h.short hT hk; omega)
theorem RI.size (h : RI n T r) : ∀ t ∈ r.thrs, ThrOk t := h.thr
end PQ
namespace PQ
/-- Handles in a model are distinct, and issued. -/
structure HN (m : Mod) : Prop where
  nd : (m.ents.map Ent.handle).Nodup
  iss : ∀ e ∈ m.ents, e.handle ∈ m.issued
theorem hn_zero (cap : Int) : HN ⟨cap, [], 0, []⟩ := ⟨List.nodup_nil, fun e he => absurd he List.not_mem_nil⟩
theorem insE_handles (l : List Ent) (e : Ent) : ((insE l e).map Ent.handle).Perm (e.handle :: l.map Ent.handle) := by
  unfold insE
  rw [List.map_append, List.map_cons]
  refine List.perm_middle.trans ?_
  rw [← List.map_append, List.take_append_drop]
theorem modify_handles (l : List Ent) (i : Nat) : (l.modify i fun e => { e with dead := true }).map Ent.handle = l.map Ent.handle := by
  apply List.ext_getElem
  · simp
  · intro j h1 h2
    rw [List.getElem_map, List.getElem_map, List.getElem_modify]
    split <;> rfl
theorem mem_modify {l : List Ent} {i : Nat} {x : Ent} (h : x ∈ l.modify i fun e => { e with dead := true }) : ∃ y ∈ l, y.handle = x.handle ∧ (y.dead = true → x.dead = true) := by
  obtain ⟨j, hj, rfl⟩ := List.mem_iff_getElem.1 h
  simp only [List.length_modify] at hj
  refine ⟨l[j], List.getElem_mem hj, ?_⟩
  rw [List.getElem_modify]
  split
  · exact ⟨rfl, fun _ => rfl⟩
  · exact ⟨rfl, id⟩
/-- A handle that cannot be cancelled any more. -/
def DeadH (h : Int) (m : Mod) : Prop := h ∈ m.issued ∧ ∀ e ∈ m.ents, e.handle = h → e.dead = true
theorem do_keep {m : Mod} (hm : HN m) (c : Call) (x : Int) : HN (doM m c x).1 ∧ ∀ h, DeadH h m → DeadH h (doM m c x).1 := by
  unfold doM
  split
  · unfold insM
    split
    · exact ⟨hm, fun _ h => h⟩
    · split
      · exact ⟨hm, fun _ h => h⟩
      · split
        · exact ⟨hm, fun _ h => h⟩
        · rename_i h1 h2 h3
          have hx : x ∉ m.issued := fun hx => h3 (.inr (by simpa using hx))
          refine ⟨⟨?_, fun e he => ?_⟩, fun h ⟨a, b⟩ => ⟨List.mem_append_left _ a, fun e he hh => ?_⟩⟩
          · refine (insE_handles m.ents ⟨c.time, m.next, x, false⟩).nodup_iff.2 ?_
            rw [List.nodup_cons]
            refine ⟨fun hx2 => ?_, hm.nd⟩
            obtain ⟨e, he, e2⟩ := List.mem_map.1 hx2
            have e2 : e.handle = x := e2
            exact hx (e2 ▸ hm.iss e he)
          · rcases mem_insE.1 he with rfl | he
            · exact List.mem_append_right _ (List.mem_singleton.2 rfl)
            · exact List.mem_append_left _ (hm.iss e he)
          · rcases mem_insE.1 he with rfl | he
            · have hh : x = h := hh
              exact absurd (hh ▸ a) hx
            · exact b e he hh
  · split
    · unfold canM
      split
      · exact ⟨hm, fun _ h => h⟩
      · rename_i i _
        refine ⟨⟨by rw [modify_handles]; exact hm.nd, fun e he => ?_⟩, fun h ⟨a, b⟩ => ⟨a, fun e he hh => ?_⟩⟩
        · obtain ⟨y, hy, e1, _⟩ := mem_modify he
          rw [← e1]; exact hm.iss y hy
        · obtain ⟨y, hy, e1, e2⟩ := mem_modify he
          exact e2 (b y hy (e1.trans hh))
    · split
      · unfold batM
        split
        · exact ⟨hm, fun _ h => h⟩
        · have hs := batL_suffix c.bound c.max m.ents []
          refine ⟨⟨hm.nd.sublist (hs.sublist.map _), fun e he => hm.iss e (hs.subset he)⟩, fun h ⟨a, b⟩ => ⟨a, fun e he hh => b e (hs.subset he) hh⟩⟩
      · exact ⟨hm, fun _ h => h⟩
theorem batL_nodup (bound max : Int) : ∀ (l : List Ent) (out : List Ev), (out.map Ev.handle ++ l.map Ent.handle).Nodup → ((batL bound max l out).1.map Ev.handle).Nodup
  | [], out, h => by
    unfold batL
    rw [List.map_nil, List.append_nil] at h
    exact h
  | e :: r, out, h => by
    unfold batL
    split
    · refine batL_nodup bound max r _ ?_
      split
      · refine h.sublist ?_
        rw [List.map_cons]
        exact (List.Sublist.refl _).append (List.sublist_cons_self _ _)
      · rw [List.map_append, List.append_assoc]; exact h
    · rw [List.nodup_append] at h
      exact h.1
/-- What an accepted call's result may be. -/
theorem acc_res {m : Mod} {c : Call} {r : Res} (h : (accM m c r).2 = true) : (doM m c r.rh).2 = r ∧ (accM m c r).1 = (doM m c r.rh).1 := by
  unfold accM at h ⊢
  split at h
  · rename_i h1; rw [if_pos h1]; exact ⟨h1, rfl⟩
  · cases h
theorem acc_evs {m : Mod} (hm : HN m) {c : Call} {r : Res} (h : (accM m c r).2 = true) : (r.evs.map Ev.handle).Nodup := by
  have := (acc_res h).1
  rw [← this]
  unfold doM
  split
  · unfold insM
    split
    · exact List.nodup_nil
    · split
      · exact List.nodup_nil
      · split <;> exact List.nodup_nil
  · split
    · unfold canM
      split <;> exact List.nodup_nil
    · split
      · unfold batM
        split
        · exact List.nodup_nil
        · exact batL_nodup _ _ _ _ (by rw [List.map_nil, List.nil_append]; exact hm.nd)
      · exact List.nodup_nil
theorem acc_canc {m : Mod} (hm : HN m) {c : Call} {r : Res} (h : (accM m c r).2 = true) (hc : r.canc = true) : ¬ DeadH c.handle m ∧ DeadH c.handle (accM m c r).1 := by
  obtain ⟨h1, h2⟩ := acc_res h
  rw [h2]
  rw [← h1] at hc
  unfold doM at hc ⊢
  split at hc
  · unfold insM at hc
    split at hc
    · cases hc
    · split at hc
      · cases hc
      · split at hc <;> cases hc
  · rename_i k1
    split at hc
    · rename_i k2
      rw [if_neg k1, if_pos k2]
      unfold canM at hc ⊢
      split at hc
      · cases hc
      · rename_i i hi
        rw [List.findIdx?_eq_some_iff_getElem] at hi
        obtain ⟨hil, hp, _⟩ := hi
        unfold canP at hp
        simp only [Bool.and_eq_true, decide_eq_true_eq, Bool.not_eq_true'] at hp
        refine ⟨fun hd => ?_, ⟨?_, fun e he hh => ?_⟩⟩
        · have := hd.2 _ (List.getElem_mem hil) hp.1
          rw [hp.2] at this; cases this
        · show c.handle ∈ m.issued
          rw [← hp.1]; exact hm.iss _ (List.getElem_mem hil)
        · obtain ⟨j, hj, rfl⟩ := List.mem_iff_getElem.1 he
          simp only [List.length_modify] at hj
          rw [List.getElem_modify] at hh ⊢
          by_cases hij : i = j
          · rw [if_pos hij]
          · exfalso
            rw [if_neg hij] at hh
            have h5 := List.pairwise_iff_getElem.1 hm.nd
            have hl : (m.ents.map Ent.handle).length = m.ents.length := List.length_map ..
            rcases Nat.lt_or_gt_of_ne hij with h6 | h6
            · have := h5 i j (by omega) (by omega) h6
              simp only [List.getElem_map] at this
              exact this (hp.1.trans hh.symm)
            · have := h5 j i (by omega) (by omega) h6
              simp only [List.getElem_map] at this
              exact this (hh.trans hp.1.symm)
    · split at hc
      · unfold batM at hc
        split at hc <;> cases hc
      · cases hc
/-- Every call of an order that replays is accepted; cancelled handles stay so. -/
theorem rep_each {l : List Done} : ∀ {t : List Int} {m : Mod} {seen : List Int}, HN m → (repL l m seen t).isSome = true →
    (∀ i ∈ t, ((dat l i.toNat).res.evs.map Ev.handle).Nodup) ∧ (∀ i ∈ t, (dat l i.toNat).res.canc = true → ¬ DeadH (dat l i.toNat).call.handle m) ∧
    t.Pairwise fun i k => (dat l i.toNat).res.canc = true → (dat l k.toNat).res.canc = true → (dat l i.toNat).call.handle ≠ (dat l k.toNat).call.handle
  | [], _, _, _, _ => ⟨fun i hi => absurd hi List.not_mem_nil, fun i hi => absurd hi List.not_mem_nil, List.Pairwise.nil⟩
  | i :: r, m, seen, hm, h => by
    obtain ⟨_, _, _, _, h5, h6⟩ := repL_cons h
    have hd := do_keep hm (dat l i.toNat).call (dat l i.toNat).res.rh
    rw [← (acc_res h5).2] at hd
    obtain ⟨a, b, c⟩ := rep_each hd.1 h6
    refine ⟨fun j hj => ?_, fun j hj hc => ?_, List.pairwise_cons.2 ⟨fun k hk hc hc2 he => ?_, c⟩⟩
    · rcases List.mem_cons.1 hj with rfl | hj
      · exact acc_evs hm h5
      · exact a j hj
    · rcases List.mem_cons.1 hj with rfl | hj
      · exact (acc_canc hm h5 hc).1
      · exact fun hx => b j hj hc (hd.2 _ hx)
    · refine b k hk hc2 ?_
      rw [← he]
      exact (acc_canc hm h5 hc).2
theorem check_rep {cap : Int} {l : List Done} {r : List Nat} (h : checkL cap l = some r) : (repL l ⟨cap, [], 0, []⟩ [] (oI r)).isSome = true ∧ r.Nodup ∧ ∀ j, j < l.length → j ∈ r := by
  obtain ⟨h1, h2⟩ := check_sound h
  unfold replayL at h2
  split at h2
  · cases h2
  · have ho := repL_obeys h2
    have hn := oI_nodup.1 ho.nodup
    refine ⟨h2, hn, fun j hj => all_of_nodup hn (fun i hi => ?_) h1 hj⟩
    have := (ho.rng _ (oI_mem.2 hi)).2
    omega
/-- No batch returns an event twice. -/
theorem reject_dup {cap : Int} {l : List Done} {i : Nat} (hi : i < l.length) (h : ¬ ((dat l i).res.evs.map Ev.handle).Nodup) : checkL cap l = none := by
  cases hc : checkL cap l with
  | none => rfl
  | some r =>
    obtain ⟨h1, h2, h3⟩ := check_rep hc
    have := (rep_each (hn_zero cap) h1).1 _ (oI_mem.2 (h3 i hi))
    rw [Int.toNat_natCast] at this
    exact absurd this h
/-- No handle is cancelled twice. -/
theorem reject_canc {cap : Int} {l : List Done} {i k : Nat} (hi : i < l.length) (hk : k < l.length) (hne : k ≠ i) (h1 : (dat l i).res.canc = true) (h2 : (dat l k).res.canc = true) (he : (dat l k).call.handle = (dat l i).call.handle) : checkL cap l = none := by
  cases hc : checkL cap l with
  | none => rfl
  | some r =>
    obtain ⟨g1, g2, g3⟩ := check_rep hc
    have hp := (rep_each (hn_zero cap) g1).2.2
    obtain ⟨a, ha, ea⟩ := List.mem_iff_getElem.1 (g3 i hi)
    obtain ⟨b, hb, eb⟩ := List.mem_iff_getElem.1 (g3 k hk)
    have hab : a ≠ b := fun e => by subst e; exact hne (eb.symm.trans ea)
    have hl := oI_length r
    have key := List.pairwise_iff_getElem.1 hp
    have e0 : ∀ (x : Nat) (hx : x < r.length), ((oI r)[x]'(by rw [hl]; exact hx)).toNat = r[x] := fun x hx => by simp [oI]
    rcases Nat.lt_or_gt_of_ne hab with h | h
    · have := key a b (by omega) (by omega) h
      rw [e0 a ha, e0 b hb, ea, eb] at this
      exact absurd he.symm (this h1 h2)
    · have := key b a (by omega) (by omega) h
      rw [e0 a ha, e0 b hb, ea, eb] at this
      exact absurd he (this h2 h1)
end PQ
