/- The concurrent set and the sequential model: what binds them between two steps. Conditions: none.
   An insertion's steps and the sequential model. Conditions: generations stay small.
   An insertion's and a cancellation's steps and the sequential model. Conditions: generations stay small.
   A cancellation's steps and the sequential model. Conditions: none.
   A batch's steps and the sequential model. Conditions: generations stay small.
   Every step of every call and the sequential model. Conditions: generations stay small.
   A whole run and the sequential model: the calls that took effect, in their order. Conditions: at most four threads.
   Every pick keeps what binds a run and the sequential model. Conditions: at most four threads.
   The calls of a run, in the order of the steps in which they took effect, replay. Conditions: at most four threads, seven calls.
   The batches of a run are short. Conditions: at most four threads, seven calls. -/
import Derived.Test.YtbdoinigeaaclaaGreatP3
set_option linter.all false
namespace PQ
variable {n : Nat} {s s' : Sto} {run : Nat → Option OpS} {K : Int} {m : Mod} {ord : List Int} {p : Nat}
def entS (s : Sto) (i : Int) : Ent := ⟨(itemS s i).time, (itemS s i).seq, hdlOf i (gnS s i), decide (stS s i = 3)⟩
/-- The slots that a call holds and that stand in the model. -/
def liveO : Option OpS → List Int
  | some (.bat o) => if o.scanned = true then [] else o.removed
  | op => ownO op
def liveR (n : Nat) (run : Nat → Option OpS) : List Int := (List.range n).flatMap fun p => liveO (run p)
/-- A batch that looks for events has passed the first slots of the order. -/
def ScanOk (s : Sto) (ord : List Int) : Option OpS → Prop
  | some (.bat o) => o.scanned = false → (∃ rest, ord = o.removed ++ rest) ∧ ∀ X, ¬ (o.call.max < 0 ∨ 64 < o.call.max) → batL o.call.bound o.call.max (o.removed.map (entS s) ++ X) [] = batL o.call.bound o.call.max X o.events
  | _ => True
structure LRo (n : Nat) (m : Mod) (s : Sto) (run : Nat → Option OpS) (ord : List Int) : Prop where
  cap : m.cap = s.slots.length
  next : m.next = s.next
  ents : m.ents = ord.map (entS s)
  perm : ord.Perm ((allL s.q).map It.slot ++ liveR n run)
  sorted : ord.Pairwise fun i j => ltIt (itemS s i) (itemS s j) = true
  scan : ∀ q, q < n → ScanOk s ord (run q)
  iss : ∀ x ∈ m.issued, ∃ i g : Int, 0 ≤ i ∧ i < s.slots.length ∧ 0 ≤ g ∧ x = hdlOf i g ∧ (g < gnS s i ∨ g = gnS s i ∧ stS s i ≠ 0)
def LR (n : Nat) (m : Mod) (s : Sto) (run : Nat → Option OpS) : Prop := ∃ ord, LRo n m s run ord
theorem scan_keep {op : Option OpS} (h : ScanOk s ord op) (he : ∀ i ∈ ord, entS s' i = entS s i) : ScanOk s' ord op := by
  match op, h with
  | none, _ => trivial
  | some (.ins o), _ => trivial
  | some (.can o), _ => trivial
  | some (.unk b), _ => trivial
  | some (.bat o), h =>
    intro hs
    obtain ⟨⟨rest, e⟩, hX⟩ := h hs
    refine ⟨⟨rest, e⟩, fun X hm => ?_⟩
    have e2 : o.removed.map (entS s') = o.removed.map (entS s) := List.map_congr_left fun i hi => he i (by rw [e]; exact List.mem_append_left _ hi)
    rw [e2]; exact hX X hm
/-- A batch that has not all mutexes. -/
theorem scan_low {op : Option OpS} (h : OpOk s op) (hl : ∀ o, op = some (.bat o) → o.scanned = false → o.held < 4) (s' : Sto) (ord : List Int) : ScanOk s' ord op := by
  match op, h, hl with
  | none, _, _ => trivial
  | some (.ins o), _, _ => trivial
  | some (.can o), _, _ => trivial
  | some (.unk b), _, _ => trivial
  | some (.bat o), h, hl =>
    intro hs
    obtain ⟨h1, h2, _⟩ := BatOk.low h hs (hl o rfl hs)
    rw [h1, h2]
    exact ⟨⟨ord, rfl⟩, fun X _ => rfl⟩
theorem live_mem (h : LRo n m s run ord) {i : Int} : i ∈ ord ↔ i ∈ (allL s.q).map It.slot ∨ ∃ q, q < n ∧ i ∈ liveO (run q) := by
  rw [h.perm.mem_iff, List.mem_append]
  unfold liveR
  rw [List.mem_flatMap]
  simp only [List.mem_range]
theorem live_own {op : Option OpS} {i : Int} (h : i ∈ liveO op) : i ∈ ownO op := by
  match op, h with
  | none, h => exact h
  | some (.ins o), h => exact h
  | some (.can o), h => exact h
  | some (.unk b), h => exact h
  | some (.bat o), h =>
    have h : i ∈ (if o.scanned = true then [] else o.removed) := h
    split at h
    · cases h
    · exact h
theorem LRo.live (h : LRo n m s run ord) (hI : MInv n s run K) {i : Int} (hi : i ∈ ord) : 0 ≤ i ∧ i < s.slots.length ∧ stS s i ≠ 0 := by
  rcases (live_mem h).1 hi with h1 | ⟨q, hq, h1⟩
  · have := hI.slots.mem (.inr (.inl h1))
    exact ⟨this.1, this.2, hI.slots.live (.inl h1)⟩
  · have h2 := hI.own_live hq (live_own h1)
    have := hI.slots.mem (.inr (.inr h2))
    exact ⟨this.1, this.2, hI.slots.live (.inr h2)⟩
theorem live_perm {op : Option OpS} (hp : p < n) {a b : List Int} (hq : (a ++ liveO op).Perm (b ++ liveO (run p))) : (a ++ liveR n (updP run p op)).Perm (b ++ liveR n run) := by
  obtain ⟨rest, h1, h2⟩ := flatMap_upd liveO run hp
  have h3 := h2 op
  unfold liveR
  refine (List.Perm.append_left a h3).trans (List.Perm.trans ?_ (List.Perm.append_left b h1).symm)
  rw [← List.append_assoc, ← List.append_assoc]
  exact hq.append_right _
/-- The frame of a step without effect. -/
theorem LRo.keep {op : Option OpS} (h : LRo n m s run ord) (hp : p < n) (hl : s'.slots.length = s.slots.length) (hn : s'.next = s.next)
    (he : ∀ i ∈ ord, entS s' i = entS s i ∧ itemS s' i = itemS s i)
    (hq : ((allL s'.q).map It.slot ++ liveO op).Perm ((allL s.q).map It.slot ++ liveO (run p)))
    (hi : ∀ i : Int, 0 ≤ i → i < s.slots.length → gnS s i < gnS s' i ∨ gnS s' i = gnS s i ∧ (stS s i ≠ 0 → stS s' i ≠ 0))
    (hsc : ScanOk s' ord op) : LRo n m s' (updP run p op) ord where
  cap := by rw [hl]; exact h.cap
  next := by rw [hn]; exact h.next
  ents := by rw [h.ents]; exact List.map_congr_left fun i hx => (he i hx).1.symm
  perm := h.perm.trans (live_perm hp hq).symm
  sorted := by
    refine List.Pairwise.imp_of_mem (fun {a b} ha hb hab => ?_) h.sorted
    rw [(he a ha).2, (he b hb).2]; exact hab
  scan := fun q hq => by
    by_cases hqp : q = p
    · rw [hqp, updP_same]; exact hsc
    · rw [updP_ne hqp]; exact scan_keep (h.scan q hq) fun i hi => (he i hi).1
  iss := fun x hx => by
    obtain ⟨i, g, h1, h2, h3, h4, h5⟩ := h.iss x hx
    refine ⟨i, g, h1, by rw [hl]; exact h2, h3, h4, ?_⟩
    rcases hi i h1 h2 with h6 | ⟨h6, h7⟩
    · rcases h5 with h5 | ⟨h5, _⟩
      · exact .inl (by omega)
      · exact .inl (by omega)
    · rcases h5 with h5 | ⟨h5, h8⟩
      · exact .inl (by omega)
      · exact .inr ⟨by omega, h7 h8⟩
/-- Only mutexes turn. -/
theorem LRo.mus (h : LRo n m s run ord) (ms : List (Option Int)) : LRo n m { s with mus := ms } run ord := ⟨h.cap, h.next, h.ents, h.perm, h.sorted, h.scan, h.iss⟩
theorem LRo.same {op : Option OpS} (h : LRo n m s run ord) (hp : p < n) (hv : liveO op = liveO (run p)) (hsc : ScanOk s ord op) : LRo n m s (updP run p op) ord :=
  h.keep hp rfl rfl (fun _ _ => ⟨rfl, rfl⟩) (by rw [hv]) (fun _ _ _ => .inr ⟨rfl, id⟩) hsc
theorem unlockS_mus (s : Sto) (t : Int) (k : Int) : ∃ ms, unlockS s t k = { s with mus := ms } := by
  unfold unlockS
  split
  · exact ⟨s.mus, rfl⟩
  · split
    · exact ⟨_, rfl⟩
    · exact ⟨s.mus, rfl⟩
theorem lockS_mus (s : Sto) (t : Int) (k : Nat) : ∃ ms, (lockS s t k).1 = { s with mus := ms } := by
  unfold lockS
  split
  · exact ⟨_, rfl⟩
  · exact ⟨s.mus, rfl⟩
def CallOk (c : Call) : OpS → Prop
  | .ins o => c.kind = 1 ∧ c.time = o.time
  | .can o => c.kind = 2 ∧ c.handle = o.handle
  | .bat o => c.kind = 3 ∧ c = o.call
  | .unk _ => c.kind ≠ 1 ∧ c.kind ≠ 2 ∧ c.kind ≠ 3
theorem call_new (c : Call) : CallOk c (newO c) := by
  unfold newO
  by_cases h1 : c.kind = 1
  · rw [if_pos h1]; exact ⟨h1, rfl⟩
  · rw [if_neg h1]
    by_cases h2 : c.kind = 2
    · rw [if_pos h2]; exact ⟨h2, rfl⟩
    · rw [if_neg h2]
      by_cases h3 : c.kind = 3
      · rw [if_pos h3]; exact ⟨h3, rfl⟩
      · rw [if_neg h3]; exact ⟨h1, h2, h3⟩
/-- What a running call that has taken effect will answer. -/
def effd : Option OpS → Option Res
  | some (.ins o) => if pastI o.st = true then some o.pend else none
  | some (.bat o) => if o.scanned = true then some { evs := o.events } else none
  | _ => none
theorem effd_new (c : Call) : effd (some (newO c)) = none := by
  unfold newO
  split
  · rfl
  · split
    · rfl
    · split <;> rfl
/-- What a step does to the sequential model. -/
def StepL (n : Nat) (m : Mod) (run : Nat → Option OpS) (p : Nat) (c : Call) (o : OpS) (q : Sto × OpS × Bool) : Prop :=
  CallOk c q.2.1 ∧
  ((effO q.2.1 = false ∧ LR n m q.1 (updP run p (opAny q)) ∧ (if q.2.2 = true then effd (some o) = some (resO q.2.1) else effd (some q.2.1) = effd (some o))) ∨
   (effO q.2.1 = true ∧ effd (some o) = none ∧ ∃ res m', doM m c res.rh = (m', res) ∧ LR n m' q.1 (updP run p (opAny q)) ∧ (if q.2.2 = true then resO q.2.1 = res else effd (some q.2.1) = some res)))
theorem newS_lr {cap : Nat} (hr : ∀ p, run p = none) : LR n ⟨cap, [], 0, []⟩ (newS cap) run := by
  refine ⟨[], ?_, rfl, rfl, ?_, List.Pairwise.nil, fun q _ => by rw [hr q]; trivial, fun x hx => absurd hx List.not_mem_nil⟩
  · show (cap : Int) = ((List.replicate cap ((0, 0) : Int × Int)).length : Int)
    rw [List.length_replicate]
  · have : liveR n run = [] := by
      unfold liveR
      rw [List.flatMap_eq_nil_iff]
      intro q _
      rw [hr q]; rfl
    rw [this]; exact List.Perm.nil
theorem LR.congr {f g : Nat → Option OpS} (h : LR n m s f) (e : ∀ q, q < n → f q = g q) : LR n m s g := by
  obtain ⟨ord, h⟩ := h
  have e1 : liveR n f = liveR n g := by
    unfold liveR List.flatMap
    congr 1
    exact List.map_congr_left fun p hp => by rw [e p (List.mem_range.1 hp)]
  exact ⟨ord, h.cap, h.next, h.ents, by rw [← e1]; exact h.perm, h.sorted, fun q hq => by rw [← e q hq]; exact h.scan q hq, h.iss⟩
end PQ
namespace PQ
variable {n : Nat} {s s' : Sto} {run : Nat → Option OpS} {K : Int} {m : Mod} {ord : List Int} {p : Nat} {c : Call}
theorem live_ins (o : InsOp) : liveO (some (.ins o)) = ownO (some (.ins o)) := rfl
theorem LR.mus (h : LR n m s run) (ms : List (Option Int)) : LR n m { s with mus := ms } run := h.elim fun o h => ⟨o, h.mus ms⟩
theorem stepO_ins (s : Sto) (t : Int) (o : InsOp) : stepO s t (.ins o) = ((stepI s t o).1, .ins (stepI s t o).2.1, (stepI s t o).2.2) := rfl
theorem lins_quiet (hL : LR n m s run) (hp : p < n) {o o1 : InsOp} {s1 : Sto} {st st' : InsSt} (hc : CallOk c (.ins o)) (hst : o.st = some st)
    (he : nextI s p { o with eff := false } st = (s1, o1)) (h1 : o1.st = some st') (hms : ∃ ms, s1 = { s with mus := ms }) (ht : o1.time = o.time) (hef : o1.eff = false)
    (hpa : pastI (some st') = pastI (some st)) (hpe : o1.pend = o.pend) (hv : liveO (some (.ins o1)) = liveO (run p)) : StepL n m run p c (.ins o) (stepO s p (.ins o)) := by
  have e : stepO s p (.ins o) = (s1, .ins o1, false) := by rw [stepO_ins, stepI_go hst he h1]
  rw [e]
  obtain ⟨ms, rfl⟩ := hms
  obtain ⟨ord, hL⟩ := hL
  refine ⟨⟨hc.1, hc.2.trans ht.symm⟩, .inl ⟨hef, ⟨ord, (hL.mus ms).same hp hv trivial⟩, ?_⟩⟩
  show (if pastI o1.st = true then some o1.pend else none) = (if pastI o.st = true then some o.pend else none)
  rw [h1, hst, hpa, hpe]
theorem lins_try (hL : LR n m s run) (hp : p < n) {o : InsOp} (hr : run p = some (.ins o)) {st st' : InsSt} (hc : CallOk c (.ins o)) (hst : o.st = some st) (k : Nat)
    (he : nextI s p { o with eff := false } st = tryI s p { o with eff := false } k st') (h1 : pastI (some st) = false) (h2 : pastI (some st') = false) : StepL n m run p c (.ins o) (stepO s p (.ins o)) := by
  by_cases hk : (lockS s p k).2 = true
  · refine lins_quiet hL hp hc hst (o1 := { o with eff := false, st := some st', held := if k = 3 then o.held else o.held ++ [(k : Int)] }) (he.trans (if_pos hk)) rfl (lockS_mus s p k) rfl rfl (by rw [h1, h2]) rfl ?_
    rw [hr]
    exact (own_early (o := { o with eff := false, st := some st', held := if k = 3 then o.held else o.held ++ [(k : Int)] }) h2).trans (own_early (by rw [hst]; exact h1)).symm
  · exact lins_quiet hL hp hc hst (o1 := { o with eff := false }) (he.trans (if_neg hk)) hst ⟨s.mus, rfl⟩ rfl rfl rfl rfl (by rw [hr]; rfl)
theorem lins_rel {o : InsOp} {s1 : Sto} {st : InsSt} (hc : CallOk c (.ins o)) (hst : o.st = some st) (hst2 : st = .put ∨ st = .release)
    (hn : nextI s p { o with eff := false } st = releaseI s1 p { o with eff := false }) (hL : ∀ op, liveO op = [] → ScanOk s1 [] op → (∀ b, op ≠ some (.bat b)) → LR n m s1 (updP run p op)) : StepL n m run p c (.ins o) (stepO s p (.ins o)) := by
  obtain ⟨ms, hms⟩ := unlockS_mus s1 p (o.held.getLast?.getD 0)
  have hpa : pastI o.st = true := by rw [hst]; rcases hst2 with e | e <;> rw [e] <;> rfl
  have hef : effd (some (.ins o)) = some o.pend := if_pos hpa
  by_cases hd : o.held.dropLast.isEmpty = true
  · have e1 : releaseI s1 p { o with eff := false } = ({ s1 with mus := ms }, { o with eff := false, held := o.held.dropLast, st := none }) := by
      show (unlockS s1 p (o.held.getLast?.getD 0), { o with eff := false, held := o.held.dropLast, st := if o.held.dropLast.isEmpty = true then none else some InsSt.release }) = _
      rw [hms, if_pos hd]
    have e : stepO s p (.ins o) = ({ s1 with mus := ms }, .ins { o with eff := false, held := o.held.dropLast, st := none, res := o.pend }, true) := by
      rw [stepO_ins, stepI_end hst (hn.trans e1) rfl]
    rw [e]
    exact ⟨hc, .inl ⟨rfl, (hL none rfl trivial (fun b hb => by cases hb)).mus ms, hef⟩⟩
  · have e1 : releaseI s1 p { o with eff := false } = ({ s1 with mus := ms }, { o with eff := false, held := o.held.dropLast, st := some .release }) := by
      show (unlockS s1 p (o.held.getLast?.getD 0), { o with eff := false, held := o.held.dropLast, st := if o.held.dropLast.isEmpty = true then none else some InsSt.release }) = _
      rw [hms, if_neg hd]
    have e : stepO s p (.ins o) = ({ s1 with mus := ms }, .ins { o with eff := false, held := o.held.dropLast, st := some .release }, false) := by
      rw [stepO_ins, stepI_go hst (hn.trans e1) rfl]
    rw [e]
    exact ⟨hc, .inl ⟨rfl, (hL (some (.ins { o with eff := false, held := o.held.dropLast, st := some .release })) (own_rel (o := { o with eff := false, held := o.held.dropLast, st := some .release }) (by rintro (e | e) <;> cases e)) trivial (fun b hb => by cases hb)).mus ms, hef.symm⟩⟩
/-- Where an insertion holds the arena, every call's slots stand in the model. -/
theorem live_all (h : MInv n s run K) (hp : p < n) {o : InsOp} (hr : run p = some (.ins o)) (h3 : ((3 : Nat) : Int) ∈ locksO (run p)) : ∀ q, q < n → liveO (run q) = ownO (run q) ∧ ∀ b, run q = some (.bat b) → b.held < 4 := by
  intro q hq
  have hlt : ∀ b, run q = some (.bat b) → b.held < 4 := fun b hb => by
    have hok : BatOk s b := by have := h.ops q hq; rw [hb] at this; exact this
    have h4 := hok.held
    rcases Nat.lt_or_ge b.held 4 with h5 | h5
    · exact h5
    · have := h.excl hq hp (k := 3) (by decide) (by rw [hb]; exact locks_bat.2 (by omega)) h3
      rw [this, hr] at hb; cases hb
  refine ⟨?_, hlt⟩
  cases hrq : run q with
  | none => rfl
  | some x =>
    cases x with
    | ins o => rfl
    | can o => rfl
    | unk b => rfl
    | bat b =>
      show (if b.scanned = true then [] else b.removed) = b.removed
      split
      · rename_i hs
        have hok : BatOk s b := by have := h.ops q hq; rw [hrq] at this; exact this
        have := hlt b hrq
        have h5 := (hok.done hs).2.2
        cases hrm : b.removed with
        | nil => rfl
        | cons x r => have := h5 (by rw [hrm]; intro hx; cases hx); omega
      · rfl
theorem ents_len (hL : LRo n m s run ord) (h : MInv n s run K) (ha : ∀ q, q < n → liveO (run q) = ownO (run q)) : m.ents.length + s.idle.length = s.slots.length := by
  have e : liveR n run = ownsR n run := by
    unfold liveR ownsR List.flatMap
    congr 1
    exact List.map_congr_left fun q hq => ha q (List.mem_range.1 hq)
  have h1 := hL.perm.length_eq
  have h2 := h.slots.perm.length_eq
  rw [e] at h1
  simp only [List.length_append, List.length_map, List.length_range] at h1 h2
  rw [hL.ents, List.length_map]
  omega
theorem hdl_inj {i j a b : Int} (hi : 0 ≤ i ∧ i < 64) (hj : 0 ≤ j ∧ j < 64) (e : hdlOf i a = hdlOf j b) : i = j ∧ a = b := by
  unfold hdlOf at e; omega
theorem take_next (s : Sto) (i time : Int) : (takeS s i time).next = s.next + 1 := by unfold takeS; rw [setW_next]
theorem lt_time {a b : It} (h : ltIt a b = true) : a.time ≤ b.time := by
  unfold ltIt at h
  simp at h
  omega
theorem ents_sorted (hL : LRo n m s run ord) : m.ents.Pairwise fun a b => a.time ≤ b.time := by
  rw [hL.ents, List.pairwise_map]
  exact hL.sorted.imp fun h => lt_time h
theorem seq_lt (h : MInv n s run K) {i : Int} (h0 : 0 ≤ i) (h1 : i < s.slots.length) (h2 : stS s i ≠ 0) : (itemS s i).seq < s.next := by
  have := h.slots.seqlt i.toNat (by omega)
  rw [show ((i.toNat : Nat) : Int) = i by omega] at this
  exact this h2
/-- A slot is taken. -/
theorem LRo.alloc (hL : LRo n m s run ord) (h : MInv n s run K) (hp : p < n) {op : Option OpS} (hv : liveO (run p) = []) {i : Int} (hop : liveO op = [i]) {t : Int} (hg : s.idle.getLast? = some i)
    (hlo : ∀ q, q < n → ScanOk (takeS s i t) (ord.take (pos m.ents t) ++ i :: ord.drop (pos m.ents t)) (updP run p op q)) :
    LRo n { m with ents := insE m.ents ⟨t, m.next, hdlOf i (gnS s i), false⟩, next := m.next + 1, issued := m.issued ++ [hdlOf i (gnS s i)] } (takeS s i t) (updP run p op) (ord.take (pos m.ents t) ++ i :: ord.drop (pos m.ents t)) := by
  have hi : i ∈ s.idle := by rw [last_split hg]; simp
  have hir := h.slots.mem (.inl hi)
  have hgb := h.slots.gn_bounds hir.1
  have hi0 := h.slots.idle i hi
  have hne : ∀ j ∈ ord, i ≠ j := fun j hj e => (hL.live h hj).2.2 (by rw [← e]; exact hi0)
  have hent : ∀ j ∈ ord, entS (takeS s i t) j = entS s j := fun j hj => by
    have hjr := hL.live h hj
    unfold entS
    rw [take_item hir.1 hjr.1 (hne j hj), take_gn h.slots hir.1 hir.2 hjr.1, take_st h.slots hir.1 hir.2 hjr.1, if_neg (hne j hj)]
  have hitm : ∀ j ∈ ord, itemS (takeS s i t) j = itemS s j := fun j hj => take_item hir.1 (hL.live h hj).1 (hne j hj)
  have hei : entS (takeS s i t) i = ⟨t, m.next, hdlOf i (gnS s i), false⟩ := by
    unfold entS
    rw [take_self hir.1 hir.2, take_gn h.slots hir.1 hir.2 hir.1, take_st h.slots hir.1 hir.2 hir.1, if_pos rfl, hL.next]
    rfl
  have hlen : m.ents.length = ord.length := by rw [hL.ents, List.length_map]
  have hso := ents_sorted hL
  have htk : ∀ j ∈ ord.take (pos m.ents t), j ∈ ord := fun j hj => List.mem_of_mem_take hj
  have hdr : ∀ j ∈ ord.drop (pos m.ents t), j ∈ ord := fun j hj => List.mem_of_mem_drop hj
  have hlo1 : ∀ j ∈ ord.take (pos m.ents t), (itemS s j).time ≤ t := fun j hj => by
    obtain ⟨k, hk, e⟩ := List.mem_iff_getElem.1 hj
    rw [List.length_take] at hk
    rw [List.getElem_take] at e
    have h1 := pos_lo (l := m.ents) (t := t) (j := k) (by omega) (by omega)
    have h2 : m.ents[k]'(by omega) = entS s ord[k] := by
      have : m.ents[k]'(by omega) = (ord.map (entS s))[k]'(by rw [List.length_map]; omega) := by congr 1; exact hL.ents
      rw [this, List.getElem_map]
    rw [h2, e] at h1
    exact h1
  have hhi1 : ∀ j ∈ ord.drop (pos m.ents t), t < (itemS s j).time := fun j hj => by
    obtain ⟨k, hk, e⟩ := List.mem_iff_getElem.1 hj
    rw [List.length_drop] at hk
    rw [List.getElem_drop] at e
    have h1 := pos_hi (l := m.ents) (t := t) (j := pos m.ents t + k) hso (by omega) (by omega)
    have h2 : m.ents[pos m.ents t + k]'(by omega) = entS s ord[pos m.ents t + k] := by
      have : m.ents[pos m.ents t + k]'(by omega) = (ord.map (entS s))[pos m.ents t + k]'(by rw [List.length_map]; omega) := by congr 1; exact hL.ents
      rw [this, List.getElem_map]
    rw [h2, e] at h1
    exact h1
  refine ⟨by rw [take_len]; exact hL.cap, ?_, ?_, ?_, ?_, hlo, fun x hx => ?_⟩
  · rw [take_next]
    show m.next + 1 = _
    rw [hL.next]
  · show insE m.ents ⟨t, m.next, hdlOf i (gnS s i), false⟩ = _
    unfold insE
    rw [List.map_append, List.map_cons, hei]
    show m.ents.take (pos m.ents t) ++ _ :: m.ents.drop (pos m.ents t) = _
    congr 1
    · rw [List.map_congr_left (fun j hj => hent j (htk j hj)), List.map_take, ← hL.ents]
    · congr 1
      rw [List.map_congr_left (fun j hj => hent j (hdr j hj)), List.map_drop, ← hL.ents]
  · rw [take_q]
    have h1 : (ord.take (pos m.ents t) ++ i :: ord.drop (pos m.ents t)).Perm (i :: ord) := by
      refine List.perm_middle.trans ?_
      rw [List.take_append_drop]
    refine h1.trans ((hL.perm.cons i).trans ?_)
    refine (live_perm (a := (allL s.q).map It.slot) (b := i :: (allL s.q).map It.slot) hp ?_).symm
    rw [hv, hop, List.append_nil]
    exact List.perm_append_singleton _ _
  · have hs := hL.sorted
    rw [← List.take_append_drop (pos m.ents t) ord, List.pairwise_append] at hs
    have hsi : itemS (takeS s i t) i = ⟨t, s.next, i⟩ := take_self hir.1 hir.2
    rw [List.pairwise_append, List.pairwise_cons]
    refine ⟨?_, ⟨fun b hb => ?_, ?_⟩, fun a ha b hb => ?_⟩
    · refine List.Pairwise.imp_of_mem (fun {a b} ha hb hab => ?_) hs.1
      rw [hitm a (htk a ha), hitm b (htk b hb)]; exact hab
    · rw [hsi, hitm b (hdr b hb)]
      have := hhi1 b hb
      unfold ltIt
      simp only [Bool.or_eq_true, decide_eq_true_eq]
      exact .inl this
    · refine List.Pairwise.imp_of_mem (fun {a b} ha hb hab => ?_) hs.2.1
      rw [hitm a (hdr a ha), hitm b (hdr b hb)]; exact hab
    · rcases List.mem_cons.1 hb with rfl | hb
      · rw [hsi, hitm a (htk a ha)]
        have h1 := hlo1 a ha
        have h2 := hL.live h (htk a ha)
        have h3 := seq_lt h h2.1 h2.2.1 h2.2.2
        unfold ltIt
        simp only [Bool.or_eq_true, Bool.and_eq_true, decide_eq_true_eq]
        omega
      · rw [hitm a (htk a ha), hitm b (hdr b hb)]
        exact hs.2.2 a ha b hb
  · have hx : x ∈ m.issued ++ [hdlOf i (gnS s i)] := hx
    rcases List.mem_append.1 hx with hx | hx
    · obtain ⟨j, g, h1, h2, h3, h4, h5⟩ := hL.iss x hx
      refine ⟨j, g, h1, by rw [take_len]; exact h2, h3, h4, ?_⟩
      rw [take_gn h.slots hir.1 hir.2 h1, take_st h.slots hir.1 hir.2 h1]
      rcases h5 with h5 | ⟨h5, h6⟩
      · exact .inl h5
      · refine .inr ⟨h5, ?_⟩
        split
        · decide
        · exact h6
    · rw [List.mem_singleton] at hx
      refine ⟨i, gnS s i, hir.1, by rw [take_len]; exact hir.2, hgb.1, hx, .inr ⟨?_, ?_⟩⟩
      · rw [take_gn h.slots hir.1 hir.2 hir.1]
      · rw [take_st h.slots hir.1 hir.2 hir.1, if_pos rfl]; decide
end PQ
namespace PQ
variable {n : Nat} {s s' : Sto} {run : Nat → Option OpS} {K : Int} {m : Mod} {ord : List Int} {p : Nat} {c : Call}
theorem valid_hdl {i g : Int} (h0 : 0 ≤ i) (h1 : i < 64) (g0 : 0 ≤ g) (g1 : g ≤ 1000000) : validH (hdlOf i g) = true := by unfold validH hdlOf; simp; omega
theorem lins_alloc (hL : LR n m s run) (h : MInv n s run K) (hK : K ≤ 999999) (hp : p < n) {o : InsOp} (hr : run p = some (.ins o)) (hc : CallOk c (.ins o)) (hst : o.st = some .alloc) : StepL n m run p c (.ins o) (stepO s p (.ins o)) := by
  obtain ⟨ord, hL⟩ := hL
  have ho : InsOk s o := by have := h.ops p hp; rw [hr] at this; exact this
  have hpo : pastI o.st = false := by rw [hst]; rfl
  obtain ⟨hnh, hnp⟩ := ho.fresh hpo
  have ht := ho.early (by rw [hst]; intro e; cases e)
  have h3 : ((3 : Nat) : Int) ∈ locksO (run p) := by rw [hr, locks_ins, if_pos (.inl hst)]; simp
  have hall := live_all h hp hr h3
  have hlen := ents_len hL h (fun q hq => (hall q hq).1)
  have hv : liveO (run p) = [] := by rw [hr]; exact own_early hpo
  have hef : effd (some (.ins o)) = none := by
    show (if pastI o.st = true then some o.pend else none) = none
    rw [if_neg (by rw [hpo]; decide)]
  have hdo : ∀ x, doM m c x = insM m c x := fun x => if_pos hc.1
  have hct : c.time = o.time := hc.2
  have hcb : ¬ (c.time < 0 ∨ 1152921504606846976 < c.time) := by omega
  cases hg : s.idle.getLast? with
  | none =>
    have hid : s.idle = [] := by simpa using hg
    have e : nextI s p { o with eff := false } .alloc = (s, { o with st := some .leave, eff := true, pend := { o.pend with err := 10 } }) := by
      show (match (allocS s o.time).2 with
        | some h => ((allocS s o.time).1, { o with eff := true, st := some InsSt.leave, h := some h, pend := { o.pend with rh := h } })
        | none => ((allocS s o.time).1, { o with st := some InsSt.leave, eff := true, pend := { o.pend with err := 10 } })) = _
      rw [allocS_none hg]
    rw [stepO_ins, stepI_go hst e rfl]
    refine ⟨hc, .inr ⟨rfl, hef, { err := 10 }, m, ?_, ⟨ord, hL.same hp ?_ trivial⟩, ?_⟩⟩
    · rw [hdo]
      have hcap := hL.cap
      rw [hid, List.length_nil] at hlen
      unfold insM
      rw [if_neg hcb, if_pos (by omega)]
    · rw [hv]; exact own_none (o := { o with st := some .leave, eff := true, pend := { o.pend with err := 10 } }) hnh
    · show (if true = true then some ({ o.pend with err := 10 } : Res) else none) = some { err := 10 }
      rw [hnp]; rfl
  | some i =>
    have hi : i ∈ s.idle := by rw [last_split hg]; simp
    have hir := h.slots.mem (.inl hi)
    have hgb := h.slots.gn_bounds hir.1
    have hsl := h.slots.sl
    have hi0 := h.slots.idle i hi
    have hh := slot_hdl (i := i) (g := gnS s i) hir.1 (by omega) hgb.1 (by omega)
    have hvh := valid_hdl (i := i) (g := gnS s i) hir.1 (by omega) hgb.1 (by omega)
    have e : nextI s p { o with eff := false } .alloc = (takeS s i o.time, { o with st := some .leave, eff := true, h := some (hdlOf i (gnS s i)), pend := { o.pend with rh := hdlOf i (gnS s i) } }) := by
      show (match (allocS s o.time).2 with
        | some h => ((allocS s o.time).1, { o with eff := true, st := some InsSt.leave, h := some h, pend := { o.pend with rh := h } })
        | none => ((allocS s o.time).1, { o with st := some InsSt.leave, eff := true, pend := { o.pend with err := 10 } })) = _
      rw [allocS_some hg]
    have hni : m.issued.contains (hdlOf i (gnS s i)) = false := by
      rw [List.contains_eq_mem, decide_eq_false_iff_not]
      intro hx
      obtain ⟨j, g, h1, h2, h3, h4, h5⟩ := hL.iss _ hx
      obtain ⟨e1, e2⟩ := hdl_inj (by omega) (by omega) h4
      subst e1
      rcases h5 with h5 | ⟨_, h6⟩
      · omega
      · exact h6 hi0
    rw [stepO_ins, stepI_go hst e rfl]
    have e1 : liveO (some (.ins { o with st := some InsSt.leave, eff := true, h := some (hdlOf i (gnS s i)), pend := { o.pend with rh := hdlOf i (gnS s i) } })) = [i] := by
      rw [live_ins, own_leave (.inl rfl) (x := hdlOf i (gnS s i)) rfl, hh.1]
    have hnew := hL.alloc h hp hv (op := some (.ins { o with st := some InsSt.leave, eff := true, h := some (hdlOf i (gnS s i)), pend := { o.pend with rh := hdlOf i (gnS s i) } })) e1 (t := o.time) hg (fun q hq => by
      by_cases hqp : q = p
      · rw [hqp, updP_same]; trivial
      · rw [updP_ne hqp]
        exact scan_low (h.ops q hq) (fun b hb _ => (hall q hq).2 b hb) _ _)
    refine ⟨hc, .inr ⟨rfl, hef, { rh := hdlOf i (gnS s i) }, _, ?_, ⟨_, hnew⟩, ?_⟩⟩
    · rw [hdo]
      have hil : 1 ≤ s.idle.length := by
        cases hx : s.idle with
        | nil => rw [hx] at hi; cases hi
        | cons a b => simp
      have hcap := hL.cap
      unfold insM
      rw [if_neg hcb, if_neg (by omega), if_neg (by rw [hvh, hni]; rintro (e | e) <;> cases e), hct]
    · show (if true = true then some ({ o.pend with rh := hdlOf i (gnS s i) } : Res) else none) = some { rh := hdlOf i (gnS s i) }
      rw [hnp]; rfl
theorem LRo.put (hL : LRo n m s run ord) (hp : p < n) {op : Option OpS} {i : Int} (hq : LdOk s.q) (hv : liveO (run p) = [i]) (ho : liveO op = []) (hsc : ∀ b, op ≠ some (.bat b)) : LRo n m (putS s i) (updP run p op) ord := by
  refine hL.keep hp rfl rfl (fun _ _ => ⟨rfl, rfl⟩) ?_ (fun _ _ _ => .inr ⟨rfl, id⟩) ?_
  · rw [hv, ho, List.append_nil]
    have h1 := ((insertL_perm hq (it := itemS s i)).1).map It.slot
    refine h1.trans ?_
    rw [List.map_cons]
    exact (List.perm_append_singleton _ _).symm
  · match op, hsc with
    | none, _ => trivial
    | some (.ins o), _ => trivial
    | some (.can o), _ => trivial
    | some (.unk b), _ => trivial
    | some (.bat o), h => exact absurd rfl (h o)
theorem lins_step (hL : LR n m s run) (h : MInv n s run K) (hK : K ≤ 999999) (hp : p < n) {o : InsOp} (hr : run p = some (.ins o)) (hc : CallOk c (.ins o)) : StepL n m run p c (.ins o) (stepO s p (.ins o)) := by
  have ho : InsOk s o := by have := h.ops p hp; rw [hr] at this; exact this
  obtain ⟨st, hst, hheld⟩ := ho.st
  have hgo : ∀ st' : InsSt, pastI (some st) = false → pastI (some st') = false → nextI s p { o with eff := false } st = (s, { o with eff := false, st := some st' }) → StepL n m run p c (.ins o) (stepO s p (.ins o)) := fun st' h1 h2 h3 =>
    lins_quiet hL hp hc hst h3 rfl ⟨s.mus, rfl⟩ rfl rfl (by rw [h1, h2]) rfl (by
      rw [hr]
      exact (own_early (o := { o with eff := false, st := some st' }) h2).trans (own_early (by rw [hst]; exact h1)).symm)
  cases st with
  | start =>
    have hpo : pastI o.st = false := by rw [hst]; rfl
    have hct : c.time = o.time := hc.2
    by_cases hb : o.time < 0 ∨ 1152921504606846976 < o.time
    · have e : nextI s p { o with eff := false } .start = (s, { o with st := none, eff := true, pend := { o.pend with err := 1 } }) := if_pos hb
      rw [stepO_ins, stepI_end hst e rfl]
      refine ⟨hc, .inr ⟨rfl, ?_, { err := 1 }, m, ?_, ?_, ?_⟩⟩
      · show (if pastI o.st = true then some o.pend else none) = none
        rw [if_neg (by rw [hpo]; decide)]
      · rw [show doM m c 0 = insM m c 0 from if_pos hc.1]
        unfold insM
        rw [if_pos (by omega)]
      · exact hL.elim fun ord hL => ⟨ord, hL.same hp (by rw [hr]; exact (own_early hpo).symm) trivial⟩
      · show ({ o.pend with err := 1 } : Res) = { err := 1 }
        rw [(ho.fresh hpo).2]
    · by_cases hf : farS s o.time = true
      · exact hgo .tryTop rfl rfl ((if_neg hb).trans (if_pos hf))
      · exact hgo .tryRungs rfl rfl ((if_neg hb).trans (if_neg hf))
  | tryTop => exact lins_try hL hp hr hc hst 0 (st' := .confirm) rfl rfl rfl
  | confirm =>
    by_cases hf : farS s o.time = true
    · refine hgo .tryArena rfl rfl ?_
      show (s, { o with eff := false, st := if farS s o.time = true then some InsSt.tryArena else some .undo }) = _
      rw [if_pos hf]
    · refine hgo .undo rfl rfl ?_
      show (s, { o with eff := false, st := if farS s o.time = true then some InsSt.tryArena else some .undo }) = _
      rw [if_neg hf]
  | undo =>
    have e : nextI s p { o with eff := false } .undo = (unlockS s p (o.held.getLast?.getD 0), { o with eff := false, held := o.held.dropLast, st := some .tryRungs }) := rfl
    refine lins_quiet hL hp hc hst e rfl (unlockS_mus s p _) rfl rfl rfl rfl ?_
    rw [hr]
    exact (own_early (o := { o with eff := false, held := o.held.dropLast, st := some .tryRungs }) rfl).trans (own_early (by rw [hst]; rfl)).symm
  | tryRungs => exact lins_try hL hp hr hc hst 1 (st' := .choose) rfl rfl rfl
  | choose =>
    by_cases hf : acceptsS s o.time = true
    · refine hgo .tryArena rfl rfl ?_
      show (s, { o with eff := false, st := if acceptsS s o.time = true then some InsSt.tryArena else some .tryBot }) = _
      rw [if_pos hf]
    · refine hgo .tryBot rfl rfl ?_
      show (s, { o with eff := false, st := if acceptsS s o.time = true then some InsSt.tryArena else some .tryBot }) = _
      rw [if_neg hf]
  | tryBot => exact lins_try hL hp hr hc hst 2 (st' := .tryArena) rfl rfl rfl
  | tryArena => exact lins_try hL hp hr hc hst 3 (st' := .alloc) rfl rfl rfl
  | alloc => exact lins_alloc hL h hK hp hr hc hst
  | leave =>
    have e : nextI s p { o with eff := false } .leave = (unlockS s p 3, { o with eff := false, st := some .put }) := rfl
    refine lins_quiet hL hp hc hst e rfl (unlockS_mus s p _) rfl rfl rfl rfl ?_
    rw [hr]
    rw [live_ins, live_ins]
    cases hx : o.h with
    | none => rw [own_none hx]; exact own_none rfl
    | some x => rw [own_leave (.inl hst) hx]; exact own_leave (.inr rfl) rfl
  | put =>
    have hn : ∀ s1, (match o.h with | some h => putS s (slotOf h) | none => s) = s1 → nextI s p { o with eff := false } .put = releaseI s1 p { o with eff := false } := fun s1 e => by
      show releaseI (match o.h with | some h => putS s (slotOf h) | none => s) p { o with eff := false } = _
      rw [e]
    obtain ⟨ord, hL⟩ := hL
    cases hx : o.h with
    | none =>
      refine lins_rel hc hst (.inl rfl) (hn s (by rw [hx])) (fun op h1 h2 hb => ⟨ord, hL.same hp ?_ ?_⟩)
      · rw [h1, hr]; exact (own_none hx).symm
      · match op, hb with
        | none, _ => trivial
        | some (.ins o), _ => trivial
        | some (.can o), _ => trivial
        | some (.unk b), _ => trivial
        | some (.bat o), h => exact absurd rfl (h o)
    | some x =>
      refine lins_rel hc hst (.inl rfl) (hn _ (by rw [hx])) (fun op h1 h2 hb => ⟨ord, hL.put hp h.slots.q ?_ h1 hb⟩)
      rw [hr]; exact own_leave (.inr hst) hx
  | release =>
    obtain ⟨ord, hL⟩ := hL
    refine lins_rel hc hst (.inr rfl) (s1 := s) rfl (fun op h1 h2 hb => ⟨ord, hL.same hp ?_ ?_⟩)
    · rw [h1, hr]; exact (own_rel (by rw [hst]; rintro (e | e) <;> cases e)).symm
    · match op, hb with
      | none, _ => trivial
      | some (.ins o), _ => trivial
      | some (.can o), _ => trivial
      | some (.unk b), _ => trivial
      | some (.bat o), h => exact absurd rfl (h o)
end PQ
namespace PQ
variable {n : Nat} {s s' : Sto} {run : Nat → Option OpS} {K : Int} {m : Mod} {ord : List Int} {p : Nat} {c : Call}
theorem scan_keep2 {op : Option OpS} (h : ScanOk s ord op) (he : ∀ i ∈ ownO op, entS s' i = entS s i) : ScanOk s' ord op := by
  match op, h, he with
  | none, _, _ => trivial
  | some (.ins o), _, _ => trivial
  | some (.can o), _, _ => trivial
  | some (.unk b), _, _ => trivial
  | some (.bat o), h, he =>
    intro hs
    obtain ⟨⟨rest, e⟩, hX⟩ := h hs
    refine ⟨⟨rest, e⟩, fun X hm => ?_⟩
    have e2 : o.removed.map (entS s') = o.removed.map (entS s) := List.map_congr_left fun i hi => he i hi
    rw [e2]; exact hX X hm
theorem lt_irrefl (a : It) : ltIt a a = false := by unfold ltIt; simp
theorem lt_asymm {a b : It} (h : ltIt a b = true) : ltIt b a = false := by
  unfold ltIt at h ⊢
  simp at h ⊢
  omega
theorem LRo.nodup (hL : LRo n m s run ord) : ord.Nodup := by
  refine hL.sorted.imp fun {a b} h e => ?_
  rw [e, lt_irrefl] at h; cases h
theorem slot_gen {x : Int} (h : 0 ≤ slotOf x) : x = hdlOf (slotOf x) (hgenOf x) := by
  unfold slotOf at h
  unfold slotOf hgenOf hdlOf
  split at h
  · rename_i hv
    rw [if_pos hv, if_pos hv]; omega
  · omega
theorem slot_of_hdl {i g : Int} (h0 : 0 ≤ i) (h1 : i < 64) (g0 : 0 ≤ g) (g1 : g ≤ 1000000) : slotOf (hdlOf i g) = i := (slot_hdl h0 h1 g0 g1).1
theorem can_miss (hL : LRo n m s run ord) (hh : ∀ j ∈ ord, hdlOf j (gnS s j) = c.handle → stS s j = 3) : canM m c = (m, {}) := by
  unfold canM
  have : m.ents.findIdx? (canP c.handle) = none := by
    rw [List.findIdx?_eq_none_iff, hL.ents]
    intro x hx
    rw [List.mem_map] at hx
    obtain ⟨j, hj, rfl⟩ := hx
    unfold canP entS
    by_cases he : hdlOf j (gnS s j) = c.handle
    · simp [he, hh j hj he]
    · simp [he]
  rw [this]
/-- A slot whose word says that it stands in the queue, stands in the model. -/
theorem live_of_one (hL : LRo n m s run ord) (h : MInv n s run K) {i : Int} (h0 : 0 ≤ i) (h1 : i < s.slots.length) (hs : stS s i = 1) : i ∈ ord := by
  have h2 : i ∈ s.idle ++ (allL s.q).map It.slot ++ ownsR n run := h.slots.perm.mem_iff.2 (List.mem_map.2 ⟨i.toNat, List.mem_range.2 (by omega), by omega⟩)
  rw [live_mem hL]
  rw [List.mem_append, List.mem_append] at h2
  rcases h2 with (h2 | h2) | h2
  · have := h.slots.idle i h2; omega
  · exact .inl h2
  · refine .inr ?_
    unfold ownsR at h2
    rw [List.mem_flatMap] at h2
    obtain ⟨q, hq, h3⟩ := h2
    rw [List.mem_range] at hq
    refine ⟨q, hq, ?_⟩
    have hok := h.ops q hq
    cases hrq : run q with
    | none => rw [hrq] at h3; exact h3
    | some x =>
      rw [hrq] at h3 hok
      cases x with
      | ins o => exact h3
      | can o => exact h3
      | unk b => exact h3
      | bat b =>
        have := BatOk.rem hok i h3
        omega
theorem LRo.cancel (hL : LRo n m s run ord) (h : MInv n s run K) (hK : K ≤ 1000000) (hp : p < n) {o : CanOp} (hr : run p = some (.can o)) {i : Int} (h0 : 0 ≤ i) (h1 : i < s.slots.length) (hs : stS s i = 1) (hc : c.handle = hdlOf i (gnS s i)) :
    ∃ m', canM m c = (m', { canc := true }) ∧ LRo n m' (setW s (1 + i) (wordOf (gnS s i) 3)) (updP run p none) ord := by
  have hst : ∀ j, 0 ≤ j → stS (setW s (1 + i) (wordOf (gnS s i) 3)) j = if i = j then 3 else stS s j := fun j hj => by
    rw [st_setW h.slots.wl h0 h1 hj, st_word (by decide) (by decide)]
  have hgn : ∀ j, 0 ≤ j → gnS (setW s (1 + i) (wordOf (gnS s i) 3)) j = gnS s j := fun j hj => by
    rw [gn_setW h.slots.wl h0 h1 hj, gen_word (by decide) (by decide)]
    split
    · rename_i e; rw [e]
    · rfl
  have hent : ∀ j, 0 ≤ j → i ≠ j → entS (setW s (1 + i) (wordOf (gnS s i) 3)) j = entS s j := fun j hj hne => by
    unfold entS
    rw [itemS_setW, hgn j hj, hst j hj, if_neg hne]
  have hei : entS (setW s (1 + i) (wordOf (gnS s i) 3)) i = { entS s i with dead := true } := by
    unfold entS
    rw [itemS_setW, hgn i h0, hst i h0, if_pos rfl]
    rfl
  have him := live_of_one hL h h0 h1 hs
  have hlen : m.ents.length = ord.length := by rw [hL.ents, List.length_map]
  have hget : ∀ k (hk : k < ord.length), m.ents[k]'(by omega) = entS s ord[k] := fun k hk => by
    have : m.ents[k]'(by omega) = (ord.map (entS s))[k]'(by rw [List.length_map]; omega) := by congr 1; exact hL.ents
    rw [this, List.getElem_map]
  have hsl := h.slots.sl
  cases hf : m.ents.findIdx? (canP c.handle) with
  | none =>
    rw [List.findIdx?_eq_none_iff, hL.ents] at hf
    have := hf (entS s i) (List.mem_map_of_mem him)
    unfold canP entS at this
    simp [hc, hs] at this
  | some k =>
    rw [List.findIdx?_eq_some_iff_getElem] at hf
    obtain ⟨hk, hpk, hlt⟩ := hf
    have hko : k < ord.length := by omega
    have hki : ord[k] = i := by
      rw [hget k hko] at hpk
      unfold canP entS at hpk
      simp at hpk
      have hlv := hL.live h (List.getElem_mem hko)
      exact (hdl_inj ⟨hlv.1, by omega⟩ ⟨h0, by omega⟩ (hpk.1.trans hc)).1
    refine ⟨{ m with ents := m.ents.modify k fun e => { e with dead := true } }, ?_, ?_⟩
    · unfold canM
      have hf : m.ents.findIdx? (canP c.handle) = some k := by
        rw [List.findIdx?_eq_some_iff_getElem]
        exact ⟨hk, hpk, hlt⟩
      rw [hf]
    · refine ⟨by rw [setW_slots]; exact hL.cap, by rw [setW_next]; exact hL.next, ?_, ?_, ?_, fun q hq => ?_, fun x hx => ?_⟩
      · refine List.ext_getElem (by rw [List.length_modify, List.length_map]; exact hlen) fun t ht1 ht2 => ?_
        rw [List.length_map] at ht2
        have hlv := hL.live h (List.getElem_mem ht2)
        rw [List.getElem_modify, List.getElem_map, hget t ht2]
        by_cases hkt : k = t
        · subst hkt
          rw [if_pos rfl, hki, hei]
        · rw [if_neg hkt, hent _ hlv.1]
          intro e
          have hnd := List.pairwise_iff_getElem.1 hL.nodup
          rcases Nat.lt_or_gt_of_ne hkt with h5 | h5
          · exact hnd k t hko ht2 h5 (hki.trans e)
          · exact hnd t k ht2 hko h5 (e.symm.trans hki.symm)
      · rw [setW_q]
        refine hL.perm.trans (live_perm (a := (allL s.q).map It.slot) (b := (allL s.q).map It.slot) hp ?_).symm
        rw [hr]; exact List.Perm.refl _
      · refine hL.sorted.imp fun {a b} hab => ?_
        rw [itemS_setW, itemS_setW]; exact hab
      · by_cases hqp : q = p
        · rw [hqp, updP_same]; trivial
        · rw [updP_ne hqp]
          have hsq := hL.scan q hq
          have hok := h.ops q hq
          cases hrq : run q with
          | none => trivial
          | some x =>
            cases x with
            | ins o => trivial
            | can o => trivial
            | unk b => trivial
            | bat b =>
              rw [hrq] at hsq hok
              refine scan_keep2 hsq fun j hj => ?_
              have hjr := h.slots.mem (.inr (.inr (h.own_live hq (by rw [hrq]; exact hj))))
              refine hent j hjr.1 fun e => ?_
              have := BatOk.rem hok j hj
              rw [← e] at this
              omega
      · obtain ⟨j, g, h1', h2, h3, h4, h5⟩ := hL.iss x hx
        refine ⟨j, g, h1', by rw [setW_slots]; exact h2, h3, h4, ?_⟩
        rw [hgn j h1', hst j h1']
        rcases h5 with h5 | ⟨h5, h6⟩
        · exact .inl h5
        · refine .inr ⟨h5, ?_⟩
          split
          · decide
          · exact h6
theorem stepO_can (s : Sto) (t : Int) (o : CanOp) : stepO s t (.can o) = ((stepC s o).1, .can (stepC s o).2.1, (stepC s o).2.2) := rfl
theorem lcan_step (hL : LR n m s run) (h : MInv n s run K) (hK : K ≤ 999999) (hp : p < n) {o : CanOp} (hr : run p = some (.can o)) (hc : CallOk c (.can o)) : StepL n m run p c (.can o) (stepO s p (.can o)) := by
  obtain ⟨ord, hL⟩ := hL
  have ho : CanOk s o := by have := h.ops p hp; rw [hr] at this; exact this
  have hk : ¬ c.kind = 1 := by have := hc.1; omega
  have hdo : ∀ x, doM m c x = canM m c := fun x => (if_neg hk).trans (if_pos hc.1)
  have hch : c.handle = o.handle := hc.2
  have hsl := h.slots.sl
  have hnone : LRo n m s (updP run p none) ord := hL.same hp (by rw [hr]; rfl) trivial
  have hgo : ∀ o' : CanOp, LRo n m s (updP run p (some (.can o'))) ord := fun o' => hL.same hp (by rw [hr]; rfl) trivial
  rw [stepO_can]
  by_cases hin : slotOf o.handle < 0 ∨ (s.slots.length : Int) ≤ slotOf o.handle
  · have e : stepC s o = (s, { o with ph := 2 }, true) := if_pos hin
    rw [e]
    refine ⟨hc, .inr ⟨rfl, rfl, {}, m, ?_, ⟨ord, hnone⟩, ?_⟩⟩
    · rw [hdo]
      refine can_miss hL fun j hj e2 => ?_
      have hlv := hL.live h hj
      have hgb := h.slots.gn_bounds hlv.1
      have h5 := slot_of_hdl hlv.1 (by omega) hgb.1 (by omega)
      rw [e2, hch] at h5
      omega
    · show ({ canc := o.canc } : Res) = {}
      rw [ho.canc]
  by_cases hph : o.ph = 1
  · obtain ⟨h1, h2, h3, h4⟩ := ho.seen hph
    have e : stepC s o = if (casS s (1 + slotOf o.handle) o.seen (wordOf (genOf o.seen) 3)).2 = true then ((casS s (1 + slotOf o.handle) o.seen (wordOf (genOf o.seen) 3)).1, { o with ph := 2, canc := true }, true) else (s, { o with ph := 0 }, false) := by
      unfold stepC; simp only [if_neg hin, if_pos hph]
    by_cases hcw : wordS s (1 + slotOf o.handle) = o.seen
    · have ec : casS s (1 + slotOf o.handle) o.seen (wordOf (genOf o.seen) 3) = (setW s (1 + slotOf o.handle) (wordOf (genOf o.seen) 3), true) := if_pos hcw
      rw [ec, if_pos rfl] at e
      rw [e]
      have hg : genOf o.seen = gnS s (slotOf o.handle) := by unfold gnS; rw [hcw]
      have hg2 : hgenOf o.handle = gnS s (slotOf o.handle) := by rw [← hg, h3, gen_word (by decide) (by decide)]
      have hs1 : stS s (slotOf o.handle) = 1 := by unfold stS; rw [hcw, h3]; exact st_word (by decide) (by decide)
      rw [hg]
      obtain ⟨m', hm, hL'⟩ := hL.cancel h (by omega) hp hr (c := c) h1 h2 hs1 (by rw [hch, ← hg2]; exact slot_gen h1)
      exact ⟨hc, .inr ⟨rfl, rfl, { canc := true }, m', by rw [hdo]; exact hm, ⟨ord, hL'⟩, rfl⟩⟩
    · have ec : casS s (1 + slotOf o.handle) o.seen (wordOf (genOf o.seen) 3) = (s, false) := if_neg hcw
      rw [ec, if_neg (fun hx => Bool.noConfusion (show false = true from hx))] at e
      rw [e]
      exact ⟨hc, .inl ⟨rfl, ⟨ord, hgo _⟩, rfl⟩⟩
  · have hp0 : o.ph = 0 := ho.ph.resolve_right hph
    have e : stepC s o = if stale (wordS s (1 + slotOf o.handle)) (hgenOf o.handle) = true then (s, { o with seen := wordS s (1 + slotOf o.handle), ph := 2 }, true)
        else if stOf (wordS s (1 + slotOf o.handle)) = 2 then (s, { o with seen := wordS s (1 + slotOf o.handle) }, decide (o.ph = 2)) else (s, { o with seen := wordS s (1 + slotOf o.handle), ph := 1 }, false) := by
      unfold stepC; simp only [if_neg hin, if_neg hph]
    by_cases hst : stale (wordS s (1 + slotOf o.handle)) (hgenOf o.handle) = true
    · rw [if_pos hst] at e; rw [e]
      refine ⟨hc, .inr ⟨rfl, rfl, {}, m, ?_, ⟨ord, hnone⟩, ?_⟩⟩
      · rw [hdo]
        refine can_miss hL fun j hj e2 => ?_
        have hlv := hL.live h hj
        have hgb := h.slots.gn_bounds hlv.1
        have h5 := slot_hdl (i := j) (g := gnS s j) hlv.1 (by omega) hgb.1 (by omega)
        rw [e2, hch] at h5
        unfold stale at hst
        rw [h5.1, h5.2] at hst
        simp only [Bool.or_eq_true, decide_eq_true_eq] at hst
        rcases hst with (hx | hx) | hx
        · exact absurd rfl hx
        · exact absurd hx hlv.2.2
        · exact hx
      · show ({ canc := o.canc } : Res) = {}
        rw [ho.canc]
    · rw [if_neg hst] at e
      by_cases h2 : stOf (wordS s (1 + slotOf o.handle)) = 2
      · rw [if_pos h2, decide_eq_false (by rw [hp0]; decide)] at e
        rw [e]
        refine ⟨hc, .inl ⟨?_, ⟨ord, hgo _⟩, rfl⟩⟩
        show decide (o.ph = 2) = false
        rw [hp0]; rfl
      · rw [if_neg h2] at e
        rw [e]
        exact ⟨hc, .inl ⟨rfl, ⟨ord, hgo _⟩, rfl⟩⟩
end PQ
namespace PQ
variable {n : Nat} {s s' : Sto} {run : Nat → Option OpS} {K : Int} {m : Mod} {ord : List Int} {p : Nat} {c : Call}
/-- Where a batch holds all mutexes, the other calls hold no slot of the model. -/
theorem others_none (h : MInv n s run K) (hp : p < n) {o : BatOp} (hr : run p = some (.bat o)) (h4 : o.held = 4) {q : Nat} (hq : q < n) (hne : q ≠ p) : liveO (run q) = [] ∧ ∀ b, run q = some (.bat b) → b.held < 4 := by
  have hex : ∀ k : Nat, k < 4 → ¬ (k : Int) ∈ locksO (run q) := fun k hk hx => hne (h.excl hq hp hk hx (by rw [hr]; exact locks_bat.2 (by omega)))
  have hlt : ∀ b, run q = some (.bat b) → b.held < 4 := fun b hb => by
    rcases Nat.lt_or_ge b.held 4 with h5 | h5
    · exact h5
    · exact absurd (show ((0 : Nat) : Int) ∈ locksO (run q) by rw [hb]; exact locks_bat.2 (by omega)) (hex 0 (by decide))
  refine ⟨?_, hlt⟩
  have hok := h.ops q hq
  cases hrq : run q with
  | none => rfl
  | some x =>
    rw [hrq] at hok
    cases x with
    | can o => rfl
    | unk b => rfl
    | ins i =>
      have hok : InsOk s i := hok
      rw [live_ins]
      by_cases hs : i.st = some .leave ∨ i.st = some .put
      · exfalso
        obtain ⟨st, hst, hheld⟩ := hok.st
        have hlk : ∀ k : Nat, (k : Int) ∈ i.held → (k : Int) ∈ locksO (run q) := fun k hk => by rw [hrq, locks_ins]; exact List.mem_append_left _ hk
        have hh : i.held = [0] ∨ i.held = [1] ∨ i.held = [1, 2] := by
          rcases hs with e | e
          · rw [hst] at e; cases e; exact hheld
          · rw [hst] at e; cases e; exact hheld
        rcases hh with e | e | e
        · exact hex 0 (by decide) (hlk 0 (by rw [e]; simp))
        · exact hex 1 (by decide) (hlk 1 (by rw [e]; simp))
        · exact hex 1 (by decide) (hlk 1 (by rw [e]; simp))
      · exact own_rel hs
    | bat b =>
      have hok : BatOk s b := hok
      show (if b.scanned = true then [] else b.removed) = []
      split
      · rfl
      · rename_i hs
        exact (hok.low (by simpa using hs) (hlt b hrq)).1
theorem live_one (h : MInv n s run K) (hp : p < n) {o : BatOp} (hr : run p = some (.bat o)) (h4 : o.held = 4) (op : Option OpS) : (liveR n (updP run p op)).Perm (liveO op) := by
  obtain ⟨rest, h1, h2⟩ := flatMap_upd liveO run hp
  have h3 := h2 none
  have h5 : ((List.range n).flatMap fun q => liveO (updP run p none q)) = [] := by
    rw [List.flatMap_eq_nil_iff]
    intro q hq
    by_cases hqp : q = p
    · rw [hqp, updP_same]; rfl
    · rw [updP_ne hqp]; exact (others_none h hp hr h4 (List.mem_range.1 hq) hqp).1
  rw [h5] at h3
  have h6 : rest = [] := List.nil_perm.1 h3
  have h7 := h2 op
  rw [h6, List.append_nil] at h7
  exact h7
theorem updP_idem (f : Nat → Option OpS) (p : Nat) : ∀ q, updP f p (f p) q = f q := updP_self rfl
/-- What a batch has still ahead of it. -/
theorem scan_rest (hL : LRo n m s run ord) (h : MInv n s run K) (hp : p < n) {o : BatOp} (hr : run p = some (.bat o)) (h4 : o.held = 4) (hs : o.scanned = false) :
    ∃ rest, ord = o.removed ++ rest ∧ rest.Perm ((allL s.q).map It.slot) ∧ rest.Pairwise (fun i j => ltIt (itemS s i) (itemS s j) = true) := by
  have hsc := hL.scan p hp
  rw [hr] at hsc
  obtain ⟨⟨rest, e⟩, _⟩ := hsc hs
  refine ⟨rest, e, ?_, ?_⟩
  · have h1 := live_one h hp hr h4 (run p)
    have h2 : liveR n (updP run p (run p)) = liveR n run := by
      unfold liveR; congr 1; funext q; rw [updP_idem]
    have h3 : liveO (run p) = o.removed := by
      rw [hr]
      show (if o.scanned = true then [] else o.removed) = _
      rw [if_neg (by rw [hs]; decide)]
    rw [h2, h3] at h1
    have h5 := hL.perm.trans (h1.append_left _)
    rw [e] at h5
    have h6 := h5.trans List.perm_append_comm
    exact (List.perm_append_left_iff _).1 h6
  · have := hL.sorted
    rw [e, List.pairwise_append] at this
    exact this.2.1
theorem scan_nil (hL : LRo n m s run ord) (h : MInv n s run K) (hp : p < n) {o : BatOp} (hr : run p = some (.bat o)) (h4 : o.held = 4) (hs : o.scanned = false) (hx : (peekL s.q).bot.head? = none) : ord = o.removed := by
  obtain ⟨rest, e, hpm, _⟩ := scan_rest hL h hp hr h4 hs
  have h1 : (peekL s.q).bot = [] := by simpa using hx
  have h2 := done_nil (peekL_ok h.slots.q).2 h1
  have h3 := (peekL_ok h.slots.q).1.perm
  rw [h2] at h3
  rw [List.nil_perm.1 h3, List.map_nil] at hpm
  rw [e, List.perm_nil.1 hpm, List.append_nil]
theorem scan_head (hL : LRo n m s run ord) (h : MInv n s run K) (hp : p < n) {o : BatOp} (hr : run p = some (.bat o)) (h4 : o.held = 4) (hs : o.scanned = false) {x : It} (hx : (peekL s.q).bot.head? = some x) :
    x = itemS s x.slot ∧ ∃ rest, ord = o.removed ++ x.slot :: rest := by
  obtain ⟨rest, e, hpm, hso⟩ := scan_rest hL h hp hr h4 hs
  obtain ⟨bt, hbt⟩ : ∃ bt, (peekL s.q).bot = x :: bt := by
    cases hb : (peekL s.q).bot with
    | nil => rw [hb] at hx; cases hx
    | cons a b => rw [hb] at hx; cases hx; exact ⟨b, rfl⟩
  have hle := least (peekL_ok h.slots.q).1.ok hbt
  have hpp := (peekL_ok h.slots.q).1.perm
  have hm : x ∈ allL s.q := by
    refine hpp.mem_iff.1 ?_
    rw [allL_eq, List.mem_append, hbt]; exact .inr (.head _)
  have hxi := (h.slots.qit x hm).1
  refine ⟨hxi, ?_⟩
  have hxr : x.slot ∈ rest := hpm.mem_iff.2 (List.mem_map_of_mem hm)
  cases rest with
  | nil => cases hxr
  | cons j r =>
    refine ⟨r, ?_⟩
    have hj : j ∈ (allL s.q).map It.slot := hpm.mem_iff.1 (.head _)
    rw [List.mem_map] at hj
    obtain ⟨y, hy, hyj⟩ := hj
    rcases hle y (hpp.mem_iff.2 hy) with e1 | e1
    · rw [e, ← hyj, e1]
    · exfalso
      have hyi := (h.slots.qit y hy).1
      rcases List.mem_cons.1 hxr with e2 | e2
      · rw [hyj, ← e2, ← hxi] at hyi
        rw [hyi, lt_irrefl] at e1; cases e1
      · rw [List.pairwise_cons] at hso
        have h5 := hso.1 _ e2
        rw [← hxi, ← hyj, ← hyi] at h5
        rw [lt_asymm h5] at e1; cases e1
theorem batL_go {b mx : Int} {e : Ent} {r : List Ent} {out : List Ev} (h1 : e.time < b) (h2 : (out.length : Int) < mx) : batL b mx (e :: r) out = batL b mx r (if e.dead then out else out ++ [⟨e.time, e.handle⟩]) := by
  rw [batL, if_pos ⟨h1, h2⟩]
theorem batL_stop {b mx : Int} {e : Ent} {r : List Ent} {out : List Ev} (h : b ≤ e.time ∨ mx ≤ (out.length : Int)) : batL b mx (e :: r) out = (out, e :: r) := by
  rw [batL, if_neg (by omega)]
theorem LRo.drop (hL : LRo n m s run ord) (h : MInv n s run K) (hp : p < n) {o o' : BatOp} (hr : run p = some (.bat o)) (h4 : o.held = 4) (hs : o.scanned = false) {x : It} (hx : (peekL s.q).bot.head? = some x)
    (hl : s'.slots = s.slots) (hn : s'.next = s.next) (hgn : ∀ j, 0 ≤ j → gnS s' j = gnS s j) (hst : ∀ j, 0 ≤ j → (stS s' j = 3 ↔ stS s j = 3)) (hs0 : ∀ j, 0 ≤ j → stS s j ≠ 0 → stS s' j ≠ 0)
    (hq : (allL s.q).Perm (x :: allL s'.q)) (hrm : o'.removed = o.removed ++ [x.slot]) (hs' : o'.scanned = false) (hcl : o'.call = o.call)
    (hev : o'.events = if stS s x.slot = 3 then o.events else o.events ++ [⟨x.time, hdlOf x.slot (gnS s x.slot)⟩]) (hb : x.time < o.call.bound) (hlt : (o.events.length : Int) < o.call.max) :
    LRo n m s' (updP run p (some (.bat o'))) ord := by
  obtain ⟨hxi, rest, e⟩ := scan_head hL h hp hr h4 hs hx
  have hitm : ∀ j, itemS s' j = itemS s j := fun j => by unfold itemS; rw [hl]
  have hent : ∀ j, 0 ≤ j → entS s' j = entS s j := fun j hj => by
    unfold entS
    rw [hitm, hgn j hj]
    congr 1
    exact decide_eq_decide.2 (hst j hj)
  have hlv : ∀ j ∈ ord, 0 ≤ j := fun j hj => (hL.live h hj).1
  have hv : liveO (run p) = o.removed := by
    rw [hr]
    show (if o.scanned = true then [] else o.removed) = _
    rw [if_neg (by rw [hs]; decide)]
  refine hL.keep hp (by rw [hl]) hn (fun j hj => ⟨hent j (hlv j hj), hitm j⟩) ?_ (fun j h0 _ => .inr ⟨hgn j h0, hs0 j h0⟩) (fun _ => ⟨⟨rest, by rw [hrm, e, List.append_assoc]; rfl⟩, fun X hmx => ?_⟩)
  · rw [hv]
    show ((allL s'.q).map It.slot ++ (if o'.scanned = true then [] else o'.removed)).Perm _
    rw [if_neg (by rw [hs']; decide), hrm]
    refine List.Perm.trans ?_ ((hq.map It.slot).append_right o.removed).symm
    rw [List.map_cons, ← List.append_assoc]
    exact (List.perm_append_singleton _ _)
  · have hsc := hL.scan p hp
    rw [hr] at hsc
    have hX := (hsc hs).2
    rw [hcl] at hmx ⊢
    have e1 : o'.removed.map (entS s') = o.removed.map (entS s) ++ [entS s x.slot] := by
      rw [hrm, List.map_append, List.map_congr_left (fun j hj => hent j (hlv j (by rw [e]; exact List.mem_append_left _ hj))), List.map_cons, List.map_nil, hent x.slot (hlv _ (by rw [e]; simp))]
    have ht : (entS s x.slot).time = x.time := by show (itemS s x.slot).time = _; rw [← hxi]
    rw [e1, List.append_assoc, hX _ hmx, List.singleton_append, batL_go (by rw [ht]; exact hb) hlt, hev, ht]
    congr 1
    show (if decide (stS s x.slot = 3) = true then o.events else o.events ++ [⟨x.time, hdlOf x.slot (gnS s x.slot)⟩]) = _
    by_cases h3 : stS s x.slot = 3
    · rw [if_pos (decide_eq_true h3), if_pos h3]
    · rw [if_neg (by rw [decide_eq_false h3]; decide), if_neg h3]
/-- The end of a batch's looking. -/
theorem LRo.stop (hL : LRo n m s run ord) (h : MInv n s run K) (hp : p < n) {o o' : BatOp} (hr : run p = some (.bat o)) (h4 : o.held = 4) (hs : o.scanned = false) (hmx : ¬ (o.call.max < 0 ∨ 64 < o.call.max)) (hc : c.kind = 3 ∧ c = o.call)
    (hx : ∀ x, (peekL s.q).bot.head? = some x → o.call.bound ≤ x.time ∨ o.call.max ≤ (o.events.length : Int)) (hs' : o'.scanned = true)
    (hl : s'.slots = s.slots) (hn : s'.next = s.next) (hgn : ∀ j, 0 ≤ j → gnS s' j = gnS s j) (hst : ∀ j, 0 ≤ j → stS s' j = stS s j) (hq : (allL s'.q).Perm (allL s.q)) :
    ∃ m', batM m c = (m', { evs := o.events }) ∧ LR n m' s' (updP run p (some (.bat o'))) := by
  obtain ⟨rest, e, hpm, hso⟩ := scan_rest hL h hp hr h4 hs
  have hitm : ∀ j, itemS s' j = itemS s j := fun j => by unfold itemS; rw [hl]
  have hent : ∀ j, 0 ≤ j → entS s' j = entS s j := fun j hj => by
    unfold entS
    rw [hitm, hgn j hj, hst j hj]
  have hlv : ∀ j ∈ ord, 0 ≤ j := fun j hj => (hL.live h hj).1
  have hsc := hL.scan p hp
  rw [hr] at hsc
  have hX := (hsc hs).2 (rest.map (entS s)) hmx
  have hb2 : batL o.call.bound o.call.max (rest.map (entS s)) o.events = (o.events, rest.map (entS s)) := by
    cases hhd : (peekL s.q).bot.head? with
    | none =>
      have h5 := scan_nil hL h hp hr h4 hs hhd
      rw [h5] at e
      have h6 : rest = [] := by
        have := congrArg List.length e
        rw [List.length_append] at this
        exact List.length_eq_zero_iff.1 (by omega)
      rw [h6]; rfl
    | some x =>
      obtain ⟨hxi, rest2, e2⟩ := scan_head hL h hp hr h4 hs hhd
      rw [e] at e2
      have e3 := List.append_cancel_left e2
      rw [e3, List.map_cons]
      refine batL_stop ?_
      show o.call.bound ≤ (itemS s x.slot).time ∨ _
      rw [← hxi]
      exact hx x hhd
  refine ⟨{ m with ents := rest.map (entS s) }, ?_, rest, by rw [hl]; exact hL.cap, by rw [hn]; exact hL.next, ?_, ?_, ?_, fun q hq' => ?_, fun x hx' => ?_⟩
  · unfold batM
    rw [hc.2, if_neg hmx]
    have h6 : batL o.call.bound o.call.max m.ents [] = (o.events, rest.map (entS s)) := by
      rw [hL.ents, e, List.map_append, hX, hb2]
    rw [h6]
  · show rest.map (entS s) = _
    exact (List.map_congr_left (fun j hj => hent j (hlv j (by rw [e]; exact List.mem_append_right _ hj)))).symm
  · have h7 := live_one h hp hr h4 (some (.bat o'))
    have h8 : liveO (some (.bat o')) = [] := if_pos hs'
    rw [h8] at h7
    rw [List.perm_nil.1 h7, List.append_nil]
    exact hpm.trans (hq.map It.slot).symm
  · refine hso.imp fun {a b} hab => ?_
    rw [hitm, hitm]; exact hab
  · by_cases hqp : q = p
    · rw [hqp, updP_same]
      intro hf
      rw [hs'] at hf; cases hf
    · rw [updP_ne hqp]
      exact scan_low (h.ops q hq') (fun b hb _ => (others_none h hp hr h4 hq' hqp).2 b hb) _ _
  · obtain ⟨i, g, h1, h2, h3, h4', h5⟩ := hL.iss x hx'
    refine ⟨i, g, h1, by rw [hl]; exact h2, h3, h4', ?_⟩
    rw [hgn i h1, hst i h1]; exact h5
/-- A slot that a batch took out is freed. -/
theorem LRo.free (hL : LRo n m s run ord) (h : MInv n s run K) (hp : p < n) {o o' : BatOp} (hr : run p = some (.bat o)) (hs : o.scanned = true) (hs' : o'.scanned = true) {x : Int} (hxm : x ∈ o.removed) : LRo n m (freeS s x) (updP run p (some (.bat o'))) ord := by
  have hxo : x ∈ ownO (run p) := by rw [hr]; exact hxm
  have hxr := h.slots.mem (.inr (.inr (h.own_live hp hxo)))
  have hst : ∀ j, 0 ≤ j → stS (freeS s x) j = if x = j then 0 else stS s j := fun j hj => by
    have := st_setW (v := wordOf (genOf (wordS s (1 + x)) + 1) 0) h.slots.wl hxr.1 hxr.2 hj
    rw [st_word (by decide) (by decide)] at this
    exact this
  have hgn : ∀ j, 0 ≤ j → gnS (freeS s x) j = if x = j then gnS s x + 1 else gnS s j := fun j hj => by
    have := gn_setW (v := wordOf (genOf (wordS s (1 + x)) + 1) 0) h.slots.wl hxr.1 hxr.2 hj
    rw [gen_word (by decide) (by decide)] at this
    exact this
  have hv : liveO (run p) = [] := by rw [hr]; exact if_pos hs
  have hv' : liveO (some (.bat o')) = [] := if_pos hs'
  have hne : ∀ j ∈ ord, x ≠ j := fun j hj e => by
    rcases (live_mem hL).1 hj with h1 | ⟨q, hq, h1⟩
    · rw [List.mem_map] at h1
      obtain ⟨y, hy, hyj⟩ := h1
      exact h.own_q hp hxo hy (by rw [hyj, e])
    · by_cases hqp : q = p
      · rw [hqp, hv] at h1; cases h1
      · exact h.own_two hp hq hqp hxo (live_own h1) e
  have hitm : ∀ j ∈ ord, itemS (freeS s x) j = itemS s j := fun j hj => itemS_set s rfl hxr.1 (hL.live h hj).1 (hne j hj)
  refine hL.keep hp ?_ ?_ (fun j hj => ⟨?_, hitm j hj⟩) ?_ (fun j h0 _ => ?_) ?_
  · show (s.slots.set _ _).length = _; rw [List.length_set]
  · show (setW s (1 + x) _).next = s.next; rw [setW_next]
  · have hj0 := (hL.live h hj).1
    unfold entS
    rw [hitm j hj, hgn j hj0, hst j hj0, if_neg (hne j hj), if_neg (hne j hj)]
  · rw [hv, hv']
    show ((allL (setW s (1 + x) _).q).map It.slot ++ []).Perm _
    rw [setW_q]
  · rw [hgn j h0, hst j h0]
    by_cases hxj : x = j
    · rw [if_pos hxj, hxj]; exact .inl (by omega)
    · rw [if_neg hxj, if_neg hxj]; exact .inr ⟨rfl, id⟩
  · intro hf
    rw [hs'] at hf; cases hf
end PQ
namespace PQ
variable {n : Nat} {s s' : Sto} {run : Nat → Option OpS} {K : Int} {m : Mod} {ord : List Int} {p : Nat} {c : Call}
theorem stepO_bat (s : Sto) (t : Int) (o : BatOp) : stepO s t (.bat o) = ((stepB s t o).1, .bat (stepB s t o).2.1, (stepB s t o).2.2) := rfl
theorem live_bat0 {o : BatOp} (h : o.scanned = false) : liveO (some (.bat o)) = o.removed := if_neg (by rw [h]; decide)
theorem live_bat1 {o : BatOp} (h : o.scanned = true) : liveO (some (.bat o)) = [] := if_pos h
theorem effd_bat0 {o : BatOp} (h : o.scanned = false) : effd (some (.bat o)) = none := if_neg (by rw [h]; decide)
theorem effd_bat1 {o : BatOp} (h : o.scanned = true) : effd (some (.bat o)) = some { evs := o.events } := if_pos h
theorem replS_next' (s : Sto) (l : Ld) : (replS s l).next = s.next := replS_next s l
theorem lbat_claim (hL : LRo n m s run ord) (h : MInv n s run K) (hp : p < n) {o : BatOp} (hr : run p = some (.bat o)) (he : EvOk (some (.bat o))) (hc : CallOk c (.bat o)) (hmax : ¬ (o.call.max < 0 ∨ 64 < o.call.max)) (hcm : o.claim = true) : StepL n m run p c (.bat o) (stepO s p (.bat o)) := by
  have ho : BatOk s o := by have := h.ops p hp; rw [hr] at this; exact this
  obtain ⟨hs, h4⟩ := ho.claims hcm
  obtain ⟨c1, c2, c3, c4, c5⟩ := ho.clm hcm
  have he : o.call.max < 0 ∨ 64 < o.call.max ∨ (o.events.length : Int) ≤ o.call.max := he
  rw [stepO_bat, bB_claim hmax (by omega) hcm]
  have hpk : (peekL s.q).bot.head? = some o.item := by rw [peek_done c1]; exact c2
  have hmem : o.item ∈ allL s.q := by
    have hb : o.item ∈ s.q.bot := List.mem_of_mem_head? (by rw [c2]; exact rfl)
    rw [allL_eq, List.mem_append]; exact .inr hb
  have hir := h.slots.range _ hmem
  by_cases hw : wordS s (1 + o.item.slot) = o.word
  · have ec : casS s (1 + o.item.slot) o.word (wordOf (genOf o.word) 2) = (setW s (1 + o.item.slot) (wordOf (genOf o.word) 2), true) := if_pos hw
    have e : takeQ s { o with eff := false } = (dropS (setW s (1 + o.item.slot) (wordOf (genOf o.word) 2)), { o with eff := false, claim := false, removed := o.removed ++ [o.item.slot], events := o.events ++ [⟨o.item.time, hdlOf o.item.slot (genOf o.word)⟩] }) := by
      unfold takeQ
      simp only [ec, if_true]; rfl
    rw [e]
    have hgw : genOf o.word = gnS s o.item.slot := by unfold gnS; rw [hw]
    have hs1 : stS s o.item.slot = 1 := by unfold stS; rw [hw, c3]; exact st_word (by decide) (by decide)
    have hst : ∀ j, 0 ≤ j → stS (dropS (setW s (1 + o.item.slot) (wordOf (genOf o.word) 2))) j = if o.item.slot = j then 2 else stS s j := fun j hj => by
      unfold dropS
      rw [replS_st _ _ hj, st_setW h.slots.wl hir.1 hir.2 hj, st_word (by decide) (by decide)]
    have hgn : ∀ j, 0 ≤ j → gnS (dropS (setW s (1 + o.item.slot) (wordOf (genOf o.word) 2))) j = gnS s j := fun j hj => by
      unfold dropS
      rw [replS_gn _ _ hj, gn_setW h.slots.wl hir.1 hir.2 hj, gen_word (by decide) (by decide), hgw]
      split
      · rename_i e; rw [e]
      · rfl
    refine ⟨hc, .inl ⟨rfl, ⟨ord, hL.drop (o' := { o with eff := false, claim := false, removed := o.removed ++ [o.item.slot], events := o.events ++ [⟨o.item.time, hdlOf o.item.slot (genOf o.word)⟩] }) h hp hr h4 hs hpk ?_ ?_ hgn (fun j hj => ?_) (fun j hj h0 => ?_) ?_ rfl hs rfl ?_ c4 (by omega)⟩, ?_⟩⟩
    · show (replS _ _).slots = _; rw [replS_slots, setW_slots]
    · show (replS _ _).next = _; rw [replS_next, setW_next]
    · rw [hst j hj]
      split
      · rename_i ej; rw [← ej, hs1]; decide
      · exact Iff.rfl
    · rw [hst j hj]
      split
      · decide
      · exact h0
    · have h5 := pop_perm s.q hpk
      rw [peek_done c1] at h5
      show (allL s.q).Perm (o.item :: allL (replS _ _).q)
      rw [replS_q, setW_q]; exact h5
    · show o.events ++ [⟨o.item.time, hdlOf o.item.slot (genOf o.word)⟩] = _
      rw [if_neg (by rw [hs1]; decide), hgw]
    · show effd (some (.bat _)) = effd (some (.bat o))
      rw [effd_bat0 hs]; exact effd_bat0 hs
  · have ec : casS s (1 + o.item.slot) o.word (wordOf (genOf o.word) 2) = (s, false) := if_neg hw
    have e : takeQ s { o with eff := false } = (s, { o with eff := false, claim := false }) := by
      unfold takeQ
      simp only [ec]; rfl
    rw [e]
    have hsc := hL.scan p hp
    rw [hr] at hsc
    refine ⟨hc, .inl ⟨rfl, ⟨ord, hL.same (op := some (.bat { o with eff := false, claim := false })) hp ?_ hsc⟩, ?_⟩⟩
    · rw [hr]; rfl
    · rfl
theorem lbat_scan (hL : LRo n m s run ord) (h : MInv n s run K) (hp : p < n) {o : BatOp} (hr : run p = some (.bat o)) (he : EvOk (some (.bat o))) (hc : CallOk c (.bat o)) (hmax : ¬ (o.call.max < 0 ∨ 64 < o.call.max)) (hcm : o.claim = false) (hs : o.scanned = false) (h4 : o.held = 4) : StepL n m run p c (.bat o) (stepO s p (.bat o)) := by
  have ho : BatOk s o := by have := h.ops p hp; rw [hr] at this; exact this
  have he : o.call.max < 0 ∨ 64 < o.call.max ∨ (o.events.length : Int) ≤ o.call.max := he
  rw [stepO_bat, bB_scan hmax (by omega) hcm hs]
  have hpp := (peekL_ok h.slots.q).1
  have hd := (peekL_ok h.slots.q).2
  have hst : ∀ j, 0 ≤ j → stS (peekS s).1 j = stS s j := fun j hj => replS_st s _ hj
  have hgn : ∀ j, 0 ≤ j → gnS (peekS s).1 j = gnS s j := fun j hj => replS_gn s _ hj
  have hq1 : (peekS s).1.q = peekL s.q := replS_q s _
  have hsl1 : (peekS s).1.slots = s.slots := replS_slots s _
  have hnx1 : (peekS s).1.next = s.next := replS_next s _
  have hdo : doM m c 0 = batM m c := (if_neg (by have := hc.1; omega)).trans ((if_neg (by have := hc.1; omega)).trans (if_pos hc.1))
  have hitm : ∀ j, itemS (peekS s).1 j = itemS s j := fun j => by unfold itemS; rw [hsl1]
  have hstop : (∀ x, (peekL s.q).bot.head? = some x → o.call.bound ≤ x.time ∨ o.call.max ≤ (o.events.length : Int)) → StepL n m run p c (.bat o) ((peekS s).1, .bat { o with eff := true, scanned := true }, false) := fun hx => by
    obtain ⟨m', h5, h6⟩ := hL.stop (o' := { o with eff := true, scanned := true }) h hp hr h4 hs hmax hc hx rfl hsl1 hnx1 hgn hst (by rw [hq1]; exact hpp.perm)
    exact ⟨hc, .inr ⟨rfl, effd_bat0 hs, _, m', hdo.trans h5, h6, rfl⟩⟩
  cases hpk : (peekS s).2 with
  | none =>
    have e : scanQ s { o with eff := false } = ((peekS s).1, { o with eff := true, scanned := true }) := by
      unfold scanQ; rw [hpk]
    rw [e]
    have hpk : (peekL s.q).bot.head? = none := hpk
    exact hstop fun x hx => by rw [hpk] at hx; cases hx
  | some it =>
    have hhd : (peekL s.q).bot.head? = some it := hpk
    by_cases hb : o.call.bound ≤ it.time ∨ (o.events.length : Int) = o.call.max
    · have e : scanQ s { o with eff := false } = ((peekS s).1, { o with eff := true, scanned := true }) := by
        unfold scanQ; rw [hpk]; exact if_pos hb
      rw [e]
      refine hstop fun x hx => ?_
      rw [hhd] at hx; cases hx
      omega
    · have hmem : it ∈ allL (peekL s.q) := by
        have hb : it ∈ (peekL s.q).bot := List.mem_of_mem_head? (by rw [hhd]; exact rfl)
        rw [allL_eq, List.mem_append]; exact .inr hb
      have hmem0 : it ∈ allL s.q := hpp.perm.mem_iff.1 hmem
      have hir := h.slots.range _ hmem0
      have hwd : wordS (peekS s).1 (1 + it.slot) = wordS s (1 + it.slot) := replS_word s _ hir.1
      by_cases h3 : stOf (wordS (peekS s).1 (1 + it.slot)) = 3
      · have e : scanQ s { o with eff := false } = (dropS (peekS s).1, { o with eff := false, item := it, word := wordS (peekS s).1 (1 + it.slot), claim := false, removed := o.removed ++ [it.slot] }) := by
          unfold scanQ; rw [hpk]; exact (if_neg hb).trans (if_pos h3)
        rw [e]
        have hst2 : ∀ j, 0 ≤ j → stS (dropS (peekS s).1) j = stS s j := fun j hj => (replS_st _ _ hj).trans (hst j hj)
        have hgn2 : ∀ j, 0 ≤ j → gnS (dropS (peekS s).1) j = gnS s j := fun j hj => (replS_gn _ _ hj).trans (hgn j hj)
        have hs3 : stS s it.slot = 3 := by unfold stS; rw [← hwd]; exact h3
        refine ⟨hc, .inl ⟨rfl, ⟨ord, hL.drop (o' := { o with eff := false, item := it, word := wordS (peekS s).1 (1 + it.slot), claim := false, removed := o.removed ++ [it.slot] }) h hp hr h4 hs hhd ?_ ?_ hgn2 (fun j hj => ?_) (fun j hj h0 => ?_) ?_ rfl hs rfl ?_ (by omega) (by omega)⟩, ?_⟩⟩
        · show (replS _ _).slots = _; rw [replS_slots, hsl1]
        · show (replS _ _).next = _; rw [replS_next, hnx1]
        · rw [hst2 j hj]
        · rw [hst2 j hj]; exact h0
        · have h5 := pop_perm (peekL s.q) (x := it) (by rw [peek_done hd]; exact hhd)
          rw [peek_done hd] at h5
          show (allL s.q).Perm (it :: allL (replS _ _).q)
          rw [replS_q, hq1]; exact hpp.perm.symm.trans h5
        · show o.events = _
          rw [if_pos hs3]
        · show effd (some (.bat _)) = effd (some (.bat o))
          rw [effd_bat0 hs]; exact effd_bat0 hs
      · have e : scanQ s { o with eff := false } = ((peekS s).1, { o with eff := false, item := it, word := wordS (peekS s).1 (1 + it.slot), claim := true }) := by
          unfold scanQ; rw [hpk]; exact (if_neg hb).trans (if_neg h3)
        rw [e]
        have hsc := hL.scan p hp
        rw [hr] at hsc
        have hent : ∀ j ∈ ord, entS (peekS s).1 j = entS s j ∧ itemS (peekS s).1 j = itemS s j := fun j hj => by
          have hj0 := (hL.live h hj).1
          refine ⟨?_, hitm j⟩
          unfold entS
          rw [hitm, hgn j hj0, hst j hj0]
        have hsc2 : ScanOk (peekS s).1 ord (some (.bat o)) := scan_keep hsc fun j hj => (hent j hj).1
        refine ⟨hc, .inl ⟨rfl, ⟨ord, hL.keep (op := some (.bat { o with eff := false, item := it, word := wordS (peekS s).1 (1 + it.slot), claim := true })) hp (by rw [hsl1]) hnx1 hent ?_ (fun j h0 _ => .inr ⟨hgn j h0, fun h5 => by rw [hst j h0]; exact h5⟩) hsc2⟩, ?_⟩⟩
        · rw [hr, hq1]
          exact (hpp.perm.map It.slot).append_right _
        · rfl
theorem lbat_step (hL : LR n m s run) (h : MInv n s run K) (hp : p < n) {o : BatOp} (hr : run p = some (.bat o)) (he : EvOk (some (.bat o))) (hc : CallOk c (.bat o)) : StepL n m run p c (.bat o) (stepO s p (.bat o)) := by
  obtain ⟨ord, hL⟩ := hL
  have ho : BatOk s o := by have := h.ops p hp; rw [hr] at this; exact this
  have hdo : doM m c 0 = batM m c := (if_neg (by have := hc.1; omega)).trans ((if_neg (by have := hc.1; omega)).trans (if_pos hc.1))
  have hsc := hL.scan p hp
  rw [hr] at hsc
  by_cases hmax : o.call.max < 0 ∨ 64 < o.call.max
  · obtain ⟨h1, h2⟩ := ho.max hmax
    have h3 := ho.low h2 (by omega)
    rw [stepO_bat, bB_bad hmax]
    refine ⟨hc, .inr ⟨rfl, effd_bat0 h2, { err := 1 }, m, ?_, ⟨ord, hL.same hp ?_ trivial⟩, ?_⟩⟩
    · rw [hdo]
      unfold batM
      rw [hc.2, if_pos hmax]
    · rw [hr, live_bat0 h2, h3.1]; rfl
    · show ({ o.res with err := 1 } : Res) = { err := 1 }
      rw [ho.res]
  by_cases hl : o.scanned = false ∧ o.held < 4
  · obtain ⟨l1, l2, l3⟩ := ho.low hl.1 hl.2
    have e := bB_lock (s := s) (t := p) hmax hl.1 hl.2
    rw [stepO_bat]
    by_cases hok : (lockS s p o.held).2 = true
    · rw [if_pos hok] at e
      rw [e]
      obtain ⟨ms, hms⟩ := lockS_mus s p o.held
      rw [hms]
      exact ⟨hc, .inl ⟨rfl, ⟨ord, (hL.mus ms).same (op := some (.bat { o with eff := false, held := o.held + 1 })) hp (by rw [hr]; rfl) hsc⟩, rfl⟩⟩
    · rw [if_neg hok] at e
      rw [e]
      exact ⟨hc, .inl ⟨rfl, ⟨ord, hL.same (op := some (.bat { o with eff := false })) hp (by rw [hr]; rfl) hsc⟩, rfl⟩⟩
  cases hcm : o.claim with
  | true => exact lbat_claim hL h hp hr he hc hmax hcm
  | false =>
    by_cases hs : o.scanned = false
    · have h4 : o.held = 4 := by
        have := ho.held
        have : ¬ o.held < 4 := fun hx => hl ⟨hs, hx⟩
        omega
      exact lbat_scan hL h hp hr he hc hmax hcm hs h4
    have hs' : o.scanned = true := by simpa using hs
    rw [stepO_bat]
    cases hrm : o.removed with
    | cons x r =>
      rw [bB_free hmax hcm hs' hrm]
      exact ⟨hc, .inl ⟨rfl, ⟨ord, hL.free (o' := { o with eff := false, removed := r }) h hp hr hs' hs' (by rw [hrm]; exact .head _)⟩, rfl⟩⟩
    | nil =>
      by_cases h1 : o.held = 1
      · rw [bB_last hmax hcm hs' hrm h1]
        obtain ⟨ms, hms⟩ := unlockS_mus s p 0
        rw [hms]
        refine ⟨hc, .inl ⟨rfl, ⟨ord, (hL.mus ms).same (op := none) hp ?_ trivial⟩, ?_⟩⟩
        · rw [hr, live_bat1 hs']; rfl
        · show effd (some (.bat o)) = some { o.res with evs := o.events }
          rw [effd_bat1 hs', ho.res]
      · rw [bB_unlock hmax hcm hs' hrm h1]
        obtain ⟨ms, hms⟩ := unlockS_mus s p ((o.held : Int) - 1)
        rw [hms]
        refine ⟨hc, .inl ⟨rfl, ⟨ord, (hL.mus ms).same (op := some (.bat { o with eff := false, held := o.held - 1 })) hp ?_ ?_⟩, rfl⟩⟩
        · rw [hr]; rfl
        · exact hsc
theorem lany_step (hL : LR n m s run) (h : MInv n s run K) (hK : K ≤ 999999) (hp : p < n) {o : OpS} (hr : run p = some o) (he : EvOk (some o)) (hc : CallOk c o) : StepL n m run p c o (stepO s p o) := by
  cases o with
  | ins o => exact lins_step hL h hK hp hr hc
  | can o => exact lcan_step hL h hK hp hr hc
  | bat o => exact lbat_step hL h hp hr he hc
  | unk b =>
    refine ⟨hc, .inr ⟨rfl, rfl, { err := 1 }, m, (if_neg hc.1).trans ((if_neg hc.2.1).trans (if_neg hc.2.2)), ?_, rfl⟩⟩
    exact hL.elim fun ord hL => ⟨ord, hL.same hp (by rw [hr]; rfl) trivial⟩
end PQ
namespace PQ
variable {n T cap : Nat} {r : RunS} {p : Nat}
def key (d : Done) : Done := { d with fin := 0 }
/-- The running call of a thread, where it has taken effect. -/
def runD (t : Thr) : List Done := match effd t.run with
  | some x => [{ t.cur with res := x, fin := 0 }]
  | none => []
def accR : Mod → List Done → Mod → Prop
  | m, [], m' => m' = m
  | m, d :: l, m' => (accM m d.call d.res).2 = true ∧ accR (accM m d.call d.res).1 l m'
theorem accR_snoc {d : Done} : ∀ {l : List Done} {m m1 m' : Mod}, accR m l m1 → accM m1 d.call d.res = (m', true) → accR m (l ++ [d]) m'
  | [], m, m1, m', h, e => by
    have h : m1 = m := h
    subst h
    exact ⟨by rw [e], by rw [e]; exact rfl⟩
  | x :: l, m, m1, m', h, e => ⟨h.1, accR_snoc h.2 e⟩
theorem acc_do {m m' : Mod} {c : Call} {res : Res} (h : doM m c res.rh = (m', res)) : accM m c res = (m', true) := by
  unfold accM
  rw [h]; exact if_pos rfl
theorem flat_set {α β : Type} (F : α → List β) {x : α} : ∀ {l : List α} {i : Nat}, l[i]? = some x → ∃ rest, (l.flatMap F).Perm (F x ++ rest) ∧ ∀ y, ((l.set i y).flatMap F).Perm (F y ++ rest)
  | [], i, h => by simp at h
  | a :: l, 0, h => by
    simp at h
    subst h
    exact ⟨l.flatMap F, by rw [List.flatMap_cons], fun y => by rw [List.set_cons_zero, List.flatMap_cons]⟩
  | a :: l, i + 1, h => by
    have h : l[i]? = some x := by simpa using h
    obtain ⟨rest, h1, h2⟩ := flat_set F h
    refine ⟨F a ++ rest, ?_, fun y => ?_⟩
    · rw [List.flatMap_cons, ← List.append_assoc]
      refine (h1.append_left _).trans ?_
      rw [← List.append_assoc]
      exact (List.perm_append_comm).append_right _
    · rw [List.set_cons_succ, List.flatMap_cons, ← List.append_assoc]
      refine ((h2 y).append_left _).trans ?_
      rw [← List.append_assoc]
      exact (List.perm_append_comm).append_right _
/-- What the sequential model knows of a run. -/
def LH (n cap : Nat) (r : RunS) : Prop := ∃ G m, accR ⟨cap, [], 0, []⟩ G m ∧ LR n m r.sto (runOf r) ∧ G.Perm (r.dones.map key ++ r.thrs.flatMap runD) ∧ G.Pairwise (fun a b => a.point < b.point) ∧ ∀ d ∈ G, d.point < r.picks
structure CurOk (r : RunS) (p : Nat) (t : Thr) (o : OpS) : Prop where
  call : CallOk t.cur.call o
  thread : t.cur.thread = (p : Int)
  beg : 0 ≤ t.cur.beg ∧ t.cur.beg < r.picks
  pt : effd (some o) ≠ none → t.cur.beg ≤ t.cur.point ∧ t.cur.point < r.picks
  dn : ∀ d ∈ r.dones, d.thread = (p : Int) → d.fin < t.cur.beg
structure LI (n cap : Nat) (r : RunS) : Prop where
  run : LH n cap r
  thr : ∀ p t, r.thrs[p]? = some t → ∀ o, t.run = some o → CurOk r p t o
  dn : ∀ d ∈ r.dones, 0 ≤ d.beg ∧ d.beg ≤ d.point ∧ d.point ≤ d.fin ∧ d.fin < r.picks
  ord : r.dones.Pairwise fun a b => a.thread = b.thread → a.fin < b.beg
theorem stepT_cur (s : Sto) (t : Thr) (o : OpS) (p : Nat) (now : Int) : (stepT s t o p now).2.1.cur =
    if (stepO s p o).2.2 = true then { (if effO (stepO s p o).2.1 = true then { t.cur with point := now } else t.cur) with fin := now, res := resO (stepO s p o).2.1 } else (if effO (stepO s p o).2.1 = true then { t.cur with point := now } else t.cur) := by
  unfold stepT
  by_cases h : (stepO s p o).2.2 = true
  · simp only [h, if_true]
  · have h2 : (stepO s p o).2.2 = false := by simpa using h
    simp only [h2]; rfl
theorem start_li (cap : Nat) (l : List (List Call)) : LI n cap (startM cap l) := by
  have hrun : ∀ p, runOf (startM cap l) p = none := fun p => by
    unfold runOf startM
    show ((l.map fun s => (⟨s, [], none, done0⟩ : Thr))[p]?).bind Thr.run = none
    rw [List.getElem?_map]
    cases l[p]? <;> rfl
  have ht : ∀ (p : Nat) (t : Thr), (startM cap l).thrs[p]? = some t → t.run = none := fun p t h => by
    have h : (l.map fun s => (⟨s, [], none, done0⟩ : Thr))[p]? = some t := h
    rw [List.getElem?_map] at h
    cases hl : l[p]? with
    | none => rw [hl] at h; cases h
    | some s => rw [hl] at h; cases h; rfl
  refine ⟨⟨[], _, rfl, newS_lr hrun, ?_, List.Pairwise.nil, fun d hd => absurd hd List.not_mem_nil⟩, fun p t h o ho => ?_, fun d hd => absurd hd List.not_mem_nil, List.Pairwise.nil⟩
  · have : (startM cap l).thrs.flatMap runD = [] := by
      rw [List.flatMap_eq_nil_iff]
      intro t htm
      obtain ⟨p, hp, e⟩ := List.mem_iff_getElem.1 htm
      have := ht p t (by rw [List.getElem?_eq_getElem hp, e])
      unfold runD; rw [this]; rfl
    rw [this]; exact List.Perm.nil
  · rw [ht p t h] at ho; cases ho
theorem scan_new (s : Sto) (ord : List Int) (c : Call) : ScanOk s ord (some (newO c)) := by
  refine scan_low (fresh_ok s c).1 (fun b hb _ => ?_) s ord
  unfold newO at hb
  split at hb
  · cases hb
  · split at hb
    · cases hb
    · split at hb
      · cases hb; show 0 < 4; decide
      · cases hb
theorem live_new (s : Sto) (c : Call) : liveO (some (newO c)) = [] := by
  refine List.eq_nil_iff_forall_not_mem.2 fun i hi => ?_
  have := live_own hi
  rw [(fresh_ok s c).2.1] at this
  cases this
end PQ
namespace PQ
variable {n T cap : Nat} {r : RunS} {p : Nat}
theorem LI.cur_start (h : LI n cap r) {t : Thr} (ht : r.thrs[p]? = some t) {o : OpS} (ho : (startT t p r.picks).run = some o) (hpk : 0 ≤ r.picks) :
    CallOk (startT t p r.picks).cur.call o ∧ (startT t p r.picks).cur.thread = (p : Int) ∧ 0 ≤ (startT t p r.picks).cur.beg ∧ (startT t p r.picks).cur.beg ≤ r.picks ∧
      (effd (some o) ≠ none → (startT t p r.picks).cur.beg ≤ (startT t p r.picks).cur.point ∧ (startT t p r.picks).cur.point < r.picks) ∧ (∀ d ∈ r.dones, d.thread = (p : Int) → d.fin < (startT t p r.picks).cur.beg) ∧
      runD (startT t p r.picks) = runD t := by
  cases hr : t.run with
  | some o' =>
    have e : startT t p r.picks = t := by unfold startT; rw [hr]
    rw [e] at ho ⊢
    rw [hr] at ho; cases ho
    have h1 := h.thr p t ht o hr
    exact ⟨h1.call, h1.thread, h1.beg.1, by have := h1.beg.2; omega, h1.pt, h1.dn, rfl⟩
  | none =>
    have e : startT t p r.picks = { t with run := some (newO (nextT t)), cur := ⟨p, nextT t, {}, r.picks, 0, 0⟩ } := by unfold startT; rw [hr]
    rw [e] at ho ⊢
    have ho : some (newO (nextT t)) = some o := ho
    cases ho
    refine ⟨call_new _, rfl, hpk, Int.le_refl _, fun hx => absurd (effd_new _) hx, fun d hd _ => (h.dn d hd).2.2.2, ?_⟩
    unfold runD
    show (match effd (some (newO (nextT t))) with | some x => _ | none => []) = (match effd t.run with | some x => _ | none => [])
    rw [effd_new, hr]; rfl
theorem lr_start {m : Mod} {s : Sto} {run : Nat → Option OpS} (hL : LR n m s run) (hp : p < n) (hr : run p = none) (c : Call) : LR n m s (updP run p (some (newO c))) :=
  hL.elim fun ord hL => ⟨ord, hL.same hp (by rw [hr, live_new s]; rfl) (scan_new s ord c)⟩
theorem li_pick (h : LI n cap r) (hri : RI n T r) (hk : r.picks ≤ 400000) (hp : p < n) : LI n cap (pickM r p) := by
  have hpl : p < r.thrs.length := by rw [hri.len]; exact hp
  have ht := thr_get hpl
  have hpk0 := hri.picks
  have hpk : (pickM r p).picks = r.picks + 1 := pickM_picks r p
  by_cases hd : r.thrs[p].run = none ∧ r.thrs[p].results.length = r.thrs[p].script.length
  · rw [pick_done ht hd]
    refine ⟨?_, fun q t hq o ho => ?_, fun d hd => ?_, h.ord⟩
    · obtain ⟨G, m, h1, h2, h3, h4, h5⟩ := h.run
      exact ⟨G, m, h1, h2, h3, h4, fun d hd => by have := h5 d hd; show d.point < r.picks + 1; omega⟩
    · have h1 := h.thr q t hq o ho
      refine ⟨h1.call, h1.thread, ⟨h1.beg.1, ?_⟩, fun hx => ⟨(h1.pt hx).1, ?_⟩, h1.dn⟩
      · have := h1.beg.2; show t.cur.beg < r.picks + 1; omega
      · have := (h1.pt hx).2; show t.cur.point < r.picks + 1; omega
    · have := h.dn d hd
      refine ⟨this.1, this.2.1, this.2.2.1, ?_⟩
      show d.fin < r.picks + 1; omega
  obtain ⟨t, hte⟩ : ∃ t, t = r.thrs[p] := ⟨_, rfl⟩
  rw [← hte] at ht hd
  obtain ⟨o, ho, hc⟩ := startT_some t p r.picks
  have hs := stepT_sto r.sto (startT t p r.picks) o p r.picks
  have hcu := stepT_cur r.sto (startT t p r.picks) o p r.picks
  have e := pick_step ht hd ho
  obtain ⟨c1, c2, c3, c4, c5, c6, c7⟩ := h.cur_start ht ho hpk0
  obtain ⟨cu, hcue⟩ : ∃ cu, cu = (startT t p r.picks).cur := ⟨_, rfl⟩
  obtain ⟨t2, ht2⟩ : ∃ t2, t2 = (stepT r.sto (startT t p r.picks) o p r.picks).2.1 := ⟨_, rfl⟩
  obtain ⟨q, hqe⟩ : ∃ q, q = stepO r.sto p o := ⟨_, rfl⟩
  have hsf : runD (startT t p r.picks) = match effd (some o) with | some x => [{ cu with res := x, fin := 0 }] | none => [] := by
    unfold runD
    (rw [ho, hcue]) <;> (cases effd (some o) <;> rfl)
  rw [← hcue] at hcu c1 c2 c3 c4 c5 c6
  rw [← ht2, hs.1, hs.2.2.1, ← hqe] at e
  rw [← ht2, ← hqe] at hs hcu
  have hrun2 : t2.run = opAny q := hs.2.1
  have hopf : opAny q = if q.2.2 = true then none else some q.2.1 := rfl
  have hrunOf : ∀ k, runOf (pickM r p) k = updP (runOf r) p (opAny q) k := fun k => by
    rw [e, ← hrun2]; exact runOf_set hpl _ _ _ _ _ k
  have hrp : runOf r p = t.run := by unfold runOf; rw [ht]; rfl
  have hthr : (pickM r p).thrs = r.thrs.set p t2 := by rw [e]
  have hdn : (pickM r p).dones = if q.2.2 = true then r.dones ++ [t2.cur] else r.dones := by rw [e]
  have hsto : (pickM r p).sto = q.1 := by rw [e]
  -- the running call behind the step
  have hnb : t2.cur.beg = cu.beg ∧ t2.cur.call = cu.call ∧ t2.cur.thread = cu.thread := by
    rw [hcu]; split <;> split <;> exact ⟨rfl, rfl, rfl⟩
  -- the step, seen from the model
  have hstep : ∀ m, LR n m r.sto (runOf r) → StepL n m (updP (runOf r) p (some o)) p cu.call o q := fun m hm => by
    have hinv := hri.inv hk
    rw [hqe]
    rcases hc with hc | ⟨hc, hc2⟩
    · have e1 : ∀ k, k < n → runOf r k = updP (runOf r) p (some o) k := fun k _ => by
        by_cases hkp : k = p
        · rw [hkp, updP_same, hrp, hc]
        · rw [updP_ne hkp]
      exact lany_step (hm.congr e1) (hinv.congr e1) (by omega) hp (updP_same _ _ _) (by have := hri.ev hk p; rw [hrp, hc] at this; exact this) c1
    · have h1 := lr_start hm hp (by rw [hrp]; exact hc) (nextT t)
      have h2 := hinv.start hp (by rw [hrp]; exact hc) (nextT t)
      rw [← hc2] at h1 h2
      exact lany_step h1 h2 (by omega) hp (updP_same _ _ _) (by rw [hc2]; exact ev_new _) c1
  obtain ⟨G, m, g1, g2, g3, g4, g5⟩ := h.run
  obtain ⟨s1, s2⟩ := hstep m g2
  obtain ⟨rest, f1, f2⟩ := flat_set runD ht
  have f3 := f2 t2
  rw [← c7, hsf] at f1
  have fin : ∀ (hpt : cu.beg ≤ t2.cur.point ∨ q.2.2 = false ∧ effd (some q.2.1) = none) (hpt2 : t2.cur.point ≤ r.picks ∨ q.2.2 = false ∧ effd (some q.2.1) = none) (hfi : q.2.2 = true → t2.cur.fin = r.picks), LH n cap (pickM r p) → LI n cap (pickM r p) := fun hpt hpt2 hfi hLH => by
    refine ⟨hLH, fun k t' hk' o' ho' => ?_, fun d hd' => ?_, ?_⟩
    · by_cases hkp : k = p
      · subst hkp
        have e2 : t' = t2 := by
          rw [hthr, List.getElem?_set_self hpl] at hk'
          exact (Option.some.inj hk').symm
        subst e2
        rw [hrun2, hopf] at ho'
        have hf : q.2.2 = false := by
          cases hf : q.2.2 with
          | false => rfl
          | true => rw [hf] at ho'; cases ho'
        rw [hf] at ho'
        cases ho'
        refine ⟨by rw [hnb.2.1]; exact s1, by rw [hnb.2.2]; exact c2, by rw [hnb.1, hpk]; omega, fun hx => ?_, fun d hd' htd => ?_⟩
        · rw [hnb.1, hpk]
          rcases hpt with hpt | ⟨_, hpt⟩
          · rcases hpt2 with hpt2 | ⟨_, hpt2⟩
            · omega
            · exact absurd hpt2 hx
          · exact absurd hpt hx
        · rw [hdn, hf] at hd'
          rw [hnb.1]; exact c6 d hd' htd
      · rw [hthr, List.getElem?_set_ne (fun x => hkp x.symm)] at hk'
        have h1 := h.thr k t' hk' o' ho'
        refine ⟨h1.call, h1.thread, ⟨h1.beg.1, by rw [hpk]; have := h1.beg.2; omega⟩, fun hx => ⟨(h1.pt hx).1, by rw [hpk]; have := (h1.pt hx).2; omega⟩, fun d hd' htd => ?_⟩
        rw [hdn] at hd'
        split at hd'
        · rcases List.mem_append.1 hd' with hd' | hd'
          · exact h1.dn d hd' htd
          · rw [List.mem_singleton] at hd'
            rw [hd', hnb.2.2, c2] at htd
            omega
        · exact h1.dn d hd' htd
    · rw [hdn] at hd'
      rw [hpk]
      have hold : ∀ d ∈ r.dones, 0 ≤ d.beg ∧ d.beg ≤ d.point ∧ d.point ≤ d.fin ∧ d.fin < r.picks + 1 := fun d hd => by have := h.dn d hd; omega
      split at hd'
      · rename_i hf
        rcases List.mem_append.1 hd' with hd' | hd'
        · exact hold d hd'
        · rw [List.mem_singleton] at hd'
          have := hfi hf
          rw [hd', hnb.1, this]
          rcases hpt with hpt | ⟨hpt, _⟩
          · rcases hpt2 with hpt2 | ⟨hpt2, _⟩
            · omega
            · rw [hf] at hpt2; cases hpt2
          · rw [hf] at hpt; cases hpt
      · exact hold d hd'
    · rw [hdn]
      split
      · rw [List.pairwise_append]
        refine ⟨h.ord, List.pairwise_singleton _ _, fun a ha b hb htd => ?_⟩
        rw [List.mem_singleton] at hb
        rw [hb, hnb.2.2, c2] at htd
        rw [hb, hnb.1]
        exact c6 a ha htd
      · exact h.ord
  have hm1 : ∀ m', LR n m' q.1 (updP (updP (runOf r) p (some o)) p (opAny q)) → LR n m' (pickM r p).sto (runOf (pickM r p)) := fun m' hm' => by
    rw [hsto]
    exact hm'.congr fun k _ => by rw [hrunOf, updP_two]
  rcases s2 with ⟨n1, n2, n3⟩ | ⟨n1, n2, res, m', n3, n4, n5⟩
  · -- no effect
    rw [n1] at hcu
    simp only [Bool.false_eq_true, if_false] at hcu
    cases hf : q.2.2 with
    | true =>
      rw [hf] at n3 hcu hdn
      simp only [if_true] at n3 hcu hdn
      rw [n3] at f1
      have hr2 : runD t2 = [] := by unfold runD; rw [hrun2, hopf, hf]; rfl
      rw [hr2] at f3
      refine fin (.inl ?_) (.inl ?_) (fun _ => by rw [hcu]) ⟨G, m, g1, hm1 m n2, ?_, g4, fun d hd => by rw [hpk]; have := g5 d hd; omega⟩
      · rw [hcu]; exact (c5 (by rw [n3]; intro h; cases h)).1
      · rw [hcu]; have := (c5 (by rw [n3]; intro h; cases h)).2; show cu.point ≤ _; omega
      · rw [hdn, hthr, List.map_append, List.append_assoc]
        refine g3.trans (List.Perm.append_left _ ?_)
        refine f1.trans ?_
        rw [hcu]
        exact List.Perm.append_left _ f3.symm
    | false =>
      rw [hf] at n3 hcu hdn
      simp only [Bool.false_eq_true, if_false] at n3 hcu hdn
      have hr2 : runD t2 = match effd (some o) with | some x => [{ cu with res := x, fin := 0 }] | none => [] := by
        have e5 : opAny q = some q.2.1 := by rw [hopf, hf]; rfl
        unfold runD
        (rw [hrun2, e5, hcu, n3]) <;> (cases effd (some o) <;> rfl)
      rw [hr2] at f3
      by_cases hx : effd (some q.2.1) = none
      · refine fin (.inr ⟨hf, hx⟩) (.inr ⟨hf, hx⟩) (fun hh => by rw [hf] at hh; cases hh) ⟨G, m, g1, hm1 m n2, ?_, g4, fun d hd => by rw [hpk]; have := g5 d hd; omega⟩
        rw [hdn, hthr]
        exact g3.trans (List.Perm.append_left _ (f1.trans f3.symm))
      · rw [n3] at hx
        have := c5 hx
        refine fin (.inl (by rw [hcu]; exact this.1)) (.inl (by rw [hcu]; omega)) (fun hh => by rw [hf] at hh; cases hh) ⟨G, m, g1, hm1 m n2, ?_, g4, fun d hd => by rw [hpk]; have := g5 d hd; omega⟩
        rw [hdn, hthr]
        exact g3.trans (List.Perm.append_left _ (f1.trans f3.symm))
  · -- the effect
    rw [n1] at hcu
    simp only [if_true] at hcu
    rw [n2] at f1
    have hacc := acc_do n3
    have hpt : t2.cur.point = r.picks := by rw [hcu]; split <;> rfl
    have hG : ∀ D, D.point = r.picks → D.call = cu.call → D.res = res → (G ++ [D]).Perm ((pickM r p).dones.map key ++ (pickM r p).thrs.flatMap runD) → LH n cap (pickM r p) := fun D d1 d2 d3 d4 => by
      refine ⟨G ++ [D], m', accR_snoc g1 (by rw [d2, d3]; exact hacc), hm1 m' n4, d4, ?_, fun d hd => ?_⟩
      · rw [List.pairwise_append]
        refine ⟨g4, List.pairwise_singleton _ _, fun a ha b hb => ?_⟩
        rw [List.mem_singleton] at hb
        rw [hb, d1]; exact g5 a ha
      · rw [hpk]
        rcases List.mem_append.1 hd with hd | hd
        · have := g5 d hd; omega
        · rw [List.mem_singleton] at hd
          rw [hd, d1]; omega
    have hcb : cu.beg ≤ t2.cur.point := by rw [hpt]; omega
    cases hf : q.2.2 with
    | true =>
      rw [hf] at n5 hcu hdn
      simp only [if_true] at n5 hcu hdn
      have hr2 : runD t2 = [] := by unfold runD; rw [hrun2, hopf, hf]; rfl
      rw [hr2] at f3
      refine fin (.inl hcb) (.inl (by omega)) (fun _ => by rw [hcu]) (hG { cu with point := r.picks, res := res, fin := 0 } rfl rfl rfl ?_)
      rw [hdn, hthr, List.map_append, List.append_assoc]
      have hky : [t2.cur].map key = [{ cu with point := r.picks, res := res, fin := 0 }] := by rw [hcu, n5]; rfl
      rw [hky]
      refine (g3.append_right _).trans ?_
      rw [List.append_assoc]
      refine List.Perm.append_left _ ?_
      refine (f1.append_right _).trans ?_
      rw [List.nil_append]
      exact List.perm_append_comm.trans (List.Perm.append_left _ f3.symm)
    | false =>
      rw [hf] at n5 hcu hdn
      simp only [Bool.false_eq_true, if_false] at n5 hcu hdn
      have hr2 : runD t2 = [{ cu with point := r.picks, res := res, fin := 0 }] := by
        have e5 : opAny q = some q.2.1 := by rw [hopf, hf]; rfl
        unfold runD; rw [hrun2, e5, n5, hcu]
      rw [hr2] at f3
      refine fin (.inl hcb) (.inl (by omega)) (fun hh => by rw [hf] at hh; cases hh) (hG { cu with point := r.picks, res := res, fin := 0 } rfl rfl rfl ?_)
      rw [hdn, hthr]
      refine (g3.append_right _).trans ?_
      rw [List.append_assoc]
      refine List.Perm.append_left _ ?_
      refine (f1.append_right _).trans ?_
      rw [List.nil_append]
      exact List.perm_append_comm.trans f3.symm
end PQ
namespace PQ
variable {n T cap : Nat} {r : RunS} {p : Nat}
theorem sorted_eq : ∀ {a b : List Done}, a.Perm b → a.Pairwise (fun x y => x.point < y.point) → b.Pairwise (fun x y => x.point < y.point) → a = b
  | [], b, h, _, _ => (List.nil_perm.1 h).symm
  | x :: a, [], h, _, _ => by have := h.length_eq; simp at this
  | x :: a, y :: b, h, ha, hb => by
    rw [List.pairwise_cons] at ha hb
    have h1 : x ∈ y :: b := h.mem_iff.1 (.head _)
    have h2 : y ∈ x :: a := h.mem_iff.2 (.head _)
    have e : x = y := by
      rcases List.mem_cons.1 h1 with h1 | h1
      · exact h1
      · rcases List.mem_cons.1 h2 with h2 | h2
        · exact h2.symm
        · have := ha.1 y h2
          have := hb.1 x h1
          omega
    subst e
    rw [sorted_eq (h.cons_inv) ha.2 hb.2]
theorem perm_lift {α β : Type} (f : α → β) {l1 l2 : List β} (h : l1.Perm l2) : ∀ l' : List α, l2 = l'.map f → ∃ l'' : List α, l''.Perm l' ∧ l1 = l''.map f := by
  induction h with
  | nil => intro l' e; exact ⟨l', List.Perm.refl _, e⟩
  | cons x h ih =>
    intro l' e
    cases l' with
    | nil => cases e
    | cons y l' =>
      rw [List.map_cons] at e
      cases e
      obtain ⟨l'', h1, h2⟩ := ih l' rfl
      exact ⟨y :: l'', h1.cons y, by rw [List.map_cons, h2]⟩
  | swap x y l =>
    intro l' e
    match l', e with
    | a :: b :: l', e =>
      rw [List.map_cons, List.map_cons] at e
      cases e
      exact ⟨b :: a :: l', List.Perm.swap a b l', rfl⟩
  | trans h1 h2 ih1 ih2 =>
    intro l' e
    obtain ⟨l2', p2, e2⟩ := ih2 l' e
    obtain ⟨l1', p1, e1⟩ := ih1 l2' e2
    exact ⟨l1', p1.trans p2, e1⟩
theorem map_range_dat (l : List Done) : (List.range l.length).map (dat l) = l := by
  refine List.ext_getElem (by simp) fun i h1 h2 => ?_
  rw [List.getElem_map, List.getElem_range, dat_get h2]
def PtLt (l : List Done) (i j : Nat) : Prop := (dat l i).point < (dat l j).point
theorem rep_points {l : List Done} (hd : ∀ d ∈ l, d.beg ≤ d.point ∧ d.point ≤ d.fin) : ∀ {ord seen : List Nat} {m m' : Mod}, accR m (ord.map fun i => key (dat l i)) m' → (seen ++ ord).Pairwise (PtLt l) → (∀ i ∈ seen ++ ord, i < l.length) → (repL l m (oI seen) (oI ord)).isSome = true
  | [], seen, m, m', _, _, _ => rfl
  | i :: ord, seen, m, m', ha, hp, hr => by
    have hil : i < l.length := hr i (by simp)
    have hmem : ∀ {j}, j < l.length → dat l j ∈ l := fun hj => by rw [dat_get hj]; exact List.getElem_mem hj
    have hlt : ∀ j ∈ seen, PtLt l j i := fun j hj => (List.pairwise_append.1 hp).2.2 j hj i (.head _)
    have hni : i ∉ seen := fun hx => by
      have := hlt i hx
      unfold PtLt at this
      omega
    have e : oI (i :: ord) = (i : Int) :: oI ord := rfl
    rw [e, repL]
    have h1 : ¬ ((i : Int) < 0 ∨ (l.length : Int) ≤ i ∨ (oI seen).contains (i : Int) = true) := by
      rintro (h | h | h)
      · omega
      · omega
      · rw [List.contains_eq_mem, decide_eq_true_eq] at h
        exact hni (oI_mem.1 h)
    have h2 : ¬ ((oI seen).any (fun j => prec (dat l (i : Int).toNat) (dat l j.toNat)) = true) := by
      intro h
      rw [List.any_eq_true] at h
      obtain ⟨j, hj, hx⟩ := h
      unfold oI at hj
      rw [List.mem_map] at hj
      obtain ⟨k, hk, rfl⟩ := hj
      rw [Int.toNat_natCast, Int.toNat_natCast] at hx
      have := hlt k hk
      unfold PtLt at this
      have h3 := hd _ (hmem (hr k (by simp [hk])))
      have h4 := hd _ (hmem hil)
      unfold prec at hx
      rw [decide_eq_true_eq] at hx
      omega
    rw [if_neg h1, if_neg h2, Int.toNat_natCast]
    have hacc : (accM m (dat l i).call (dat l i).res).2 = true := ha.1
    rw [if_pos hacc]
    have h5 := rep_points hd (ord := ord) (seen := seen ++ [i]) ha.2 (by rw [List.append_assoc]; exact hp) (fun k hk => hr k (by rw [List.append_assoc] at hk; exact hk))
    rw [oI_append] at h5
    exact h5
structure RunEnd (cap : Nat) (l : List Done) : Prop where
  len : l.length ≤ 7
  val : validL l = true
  pts : ∀ d ∈ l, 0 ≤ d.point ∧ d.point ≤ 400000
  ord : ∃ ord : List Nat, ord.length = l.length ∧ (∀ i, i ∈ ord ↔ i < l.length) ∧ ord.Pairwise (PtLt l) ∧ replayL cap l (oI ord) = true
theorem rounds_picks (n : Nat) : ∀ (k p : Nat) (r : RunS), (rounds n k p r).picks ≤ r.picks + k
  | 0, p, r => by show r.picks ≤ _; omega
  | k + 1, p, r => by
    by_cases hl : r.left = 0
    · rw [rounds_stuck hl]; omega
    · rw [rounds, if_neg hl]
      have := rounds_picks n k ((p + 1) % n) (pickM r p)
      rw [pickM_picks] at this
      omega
theorem run_end {l : List (List Call)} {cap : Nat} (hc0 : 1 ≤ cap) (hc : cap ≤ 64) {pks : List Nat} (h1 : 1 ≤ l.length) (h4 : l.length ≤ 4) (hT : (l.map List.length).sum ≤ 7) (hp : ∀ p ∈ pks, p < l.length) (hk : pks.length ≤ 300) :
    RunEnd cap (finishM cap l pks 1680).dones := by
  obtain ⟨hri, hl0, hlen⟩ := finish_left hc h1 h4 hT hp hk
  have h0 := start_ri hc (l := l) rfl
  have hli : RI l.length (l.map List.length).sum (finishM cap l pks 1680) ∧ ((finishM cap l pks 1680).picks ≤ 400000 → LI l.length cap (finishM cap l pks 1680)) :=
    finish_inv (inv := fun r => RI l.length (l.map List.length).sum r ∧ (r.picks ≤ 400000 → LI l.length cap r)) h1 ⟨h0, fun _ => start_li cap l⟩ (fun r p h hp => ⟨(pick_f h.1 h4 hp).ri, fun hk => by
      rw [pickM_picks] at hk
      exact li_pick (h.2 (by omega)) h.1 (by omega) hp⟩) hp 1680
  have hpk : (finishM cap l pks 1680).picks ≤ 400000 := by
    have ha := (runPicks_inv (inv := RI l.length (l.map List.length).sum) (fun r p h hp _ => (pick_f h h4 hp).ri) pks _ hp h0).2
    have hb := rounds_picks l.length 1680 0 (runPicks (startM cap l) pks)
    have hz : (startM cap l).picks = 0 := rfl
    show (rounds l.length 1680 0 (runPicks (startM cap l) pks)).picks ≤ _
    omega
  have hL := hli.2 hpk
  obtain ⟨R, hR⟩ : ∃ R, R = finishM cap l pks 1680 := ⟨_, rfl⟩
  rw [← hR] at hri hl0 hlen hpk hL ⊢
  obtain ⟨G, m, g1, g2, g3, g4, g5⟩ := hL.run
  have hno : R.thrs.flatMap runD = [] := by
    rw [List.flatMap_eq_nil_iff]
    intro t ht
    have hsum : thrSum todo R = 0 := by have := hri.left; omega
    have htd : todo t ≤ thrSum todo R := PQ.le_sum (List.mem_map_of_mem ht)
    have hok := hri.thr t ht
    have hr : t.run = none := by
      cases hr : t.run with
      | none => rfl
      | some o =>
        have := hok.lt (by rw [hr]; intro h; cases h)
        have h8 : 1 ≤ todo t := by unfold todo; omega
        omega
    unfold runD; rw [hr]; rfl
  rw [hno, List.append_nil] at g3
  have hdb : ∀ d ∈ R.dones, d.beg ≤ d.point ∧ d.point ≤ d.fin := fun d hd => by have := hL.dn d hd; omega
  have hlen7 : R.dones.length ≤ 7 := by omega
  refine ⟨hlen7, ?_, fun d hd => by have := hL.dn d hd; omega, ?_⟩
  · refine validL_of (by omega) fun i hi => ?_
    unfold okAt
    rw [List.getElem?_eq_getElem hi]
    have h5 := hL.dn _ (List.getElem_mem hi)
    have hany : ((R.dones.take i).any fun b => decide (R.dones[i].thread = b.thread) && overl R.dones[i] b) = false := by
      rw [List.any_eq_false]
      intro b hb hx
      obtain ⟨k, hk, rfl⟩ := List.mem_iff_getElem.1 hb
      rw [List.length_take] at hk
      rw [List.getElem_take] at hx
      rw [Bool.and_eq_true, decide_eq_true_eq] at hx
      have h6 := List.pairwise_iff_getElem.1 hL.ord k i (by omega) hi (by omega) hx.1.symm
      unfold overl prec at hx
      have h7 := hx.2
      rw [decide_eq_true h6] at h7
      simp at h7
    show (decide (0 ≤ R.dones[i].beg) && decide (R.dones[i].beg ≤ R.dones[i].fin) && decide (R.dones[i].fin ≤ 1099511627776) && !((R.dones.take i).any fun b => decide (R.dones[i].thread = b.thread) && overl R.dones[i] b)) = true
    rw [hany]
    simp only [Bool.and_eq_true, decide_eq_true_eq, Bool.not_false, and_true]
    omega
  · have e1 : R.dones.map key = (List.range R.dones.length).map fun i => key (dat R.dones i) := by
      conv => lhs; rw [← map_range_dat R.dones]
      rw [List.map_map]; rfl
    obtain ⟨ord, o1, o2⟩ := perm_lift (fun i => key (dat R.dones i)) g3 _ e1
    have hm : ∀ i, i ∈ ord ↔ i < R.dones.length := fun i => by rw [o1.mem_iff, List.mem_range]
    have hpw : ord.Pairwise (PtLt R.dones) := by
      rw [o2, List.pairwise_map] at g4
      exact g4
    have hol : ord.length = R.dones.length := by rw [o1.length_eq, List.length_range]
    refine ⟨ord, hol, hm, hpw, ?_⟩
    unfold replayL
    rw [if_neg (by
      rintro (h | h)
      · rcases h with h | h <;> omega
      · rw [oI_length] at h; exact h hol)]
    exact rep_points hdb (ord := ord) (seen := []) (by rw [← o2]; exact g1) (by rw [List.nil_append]; exact hpw) (fun i hi => (hm i).1 (by simpa using hi))
end PQ
namespace PQ
theorem batL_len {b mx : Int} : ∀ (l : List Ent) (out : List Ev), (out.length : Int) ≤ mx → ((batL b mx l out).1.length : Int) ≤ mx
  | [], out, h => h
  | e :: r, out, h => by
    unfold batL
    split
    · rename_i hc
      refine batL_len r _ ?_
      split
      · exact h
      · rw [List.length_append, List.length_singleton]; omega
    · exact h
theorem acc_short {m : Mod} {c : Call} {r : Res} (h : (accM m c r).2 = true) : r.evs.length ≤ 64 := by
  have he : (doM m c r.rh).2 = r := by
    unfold accM at h
    split at h
    · rename_i e; exact e
    · cases h
  rw [← he]
  unfold doM
  split
  · unfold insM
    split
    · exact Nat.zero_le _
    · split
      · exact Nat.zero_le _
      · split <;> exact Nat.zero_le _
  · split
    · unfold canM
      split <;> exact Nat.zero_le _
    · split
      · unfold batM
        split
        · exact Nat.zero_le _
        · rename_i hm
          have := batL_len (b := c.bound) (mx := c.max) m.ents [] (by show (0 : Int) ≤ c.max; omega)
          show (batL c.bound c.max m.ents []).1.length ≤ 64
          omega
      · exact Nat.zero_le _
theorem rep_short {l : List Done} : ∀ {t : List Int} {m : Mod} {seen : List Int}, (repL l m seen t).isSome = true → ∀ i ∈ t, (dat l i.toNat).res.evs.length ≤ 64
  | [], _, _, _, i, hi => absurd hi List.not_mem_nil
  | j :: t, m, seen, h, i, hi => by
    rw [repL] at h
    split at h
    · cases h
    · split at h
      · cases h
      · split at h
        · rename_i ha
          rcases List.mem_cons.1 hi with e | hi
          · rw [e]; exact acc_short ha
          · exact rep_short h i hi
        · cases h
theorem RunEnd.short {cap : Nat} {l : List Done} (h : RunEnd cap l) : ∀ d ∈ l, d.res.evs.length ≤ 64 := by
  intro d hd
  obtain ⟨ord, h1, h2, _, h4⟩ := h.ord
  obtain ⟨i, hi, e⟩ := List.mem_iff_getElem.1 hd
  unfold replayL at h4
  split at h4
  · cases h4
  · have := rep_short h4 (i : Int) (oI_mem.2 ((h2 i).2 hi))
    rw [Int.toNat_natCast, dat_get hi, e] at this
    exact this
end PQ
