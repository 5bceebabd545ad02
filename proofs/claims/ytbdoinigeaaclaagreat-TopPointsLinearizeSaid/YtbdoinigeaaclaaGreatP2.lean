/- The machine's invariant: mutexes, slots, running calls. Conditions: none.
   The machine's invariant: how it is kept, one call's step at a time: the frame of the proof, mutexes. Conditions: none.
   The machine's invariant is kept by an insertion's steps. Conditions: none.
   Runs of picks: one pick more. Conditions: none.
   What the store's own steps keep of the slots: allocating, putting, cancelling, claiming, freeing. Conditions: none.
   What the store's own steps keep of the slots: a slot taken, a slot freed, the queue refilled, an item dropped. Conditions: none.
   What the store's own steps keep of the slots: the queue refilled, an item dropped or claimed, a slot freed. Conditions: none.
   The machine's invariant is kept by an insertion's steps. Conditions: generations stay small.
   The machine's invariant is kept by every step of an insertion. Conditions: generations stay small.
   The machine's invariant is kept by a cancellation's steps. Conditions: generations stay small.
   The machine's invariant is kept by a batch's steps. Conditions: generations stay small.
   The machine's invariant is kept by every step of a batch. Conditions: generations stay small.
   The machine's invariant is kept by every step of every call. Conditions: generations stay small. -/
import Derived.Test.YtbdoinigeaaclaaGreatP1
set_option linter.all false
namespace PQ
def stS (s : Sto) (i : Int) : Int := stOf (wordS s (1 + i))
def gnS (s : Sto) (i : Int) : Int := genOf (wordS s (1 + i))
/-- What a call's state says of the mutexes it holds. -/
def heldOk (held : List Int) : InsSt → Prop
  | .start | .tryTop | .tryRungs => held = []
  | .confirm | .undo => held = [0]
  | .choose | .tryBot | .release => held = [1]
  | .tryArena | .alloc | .leave | .put => held = [0] ∨ held = [1] ∨ held = [1, 2]
def pastI : Option InsSt → Bool
  | some .leave | some .put | some .release => true
  | _ => false
/-- The mutexes that a call holds. -/
def locksO : Option OpS → List Int
  | some (.ins o) => o.held ++ (if o.st = some .alloc ∨ o.st = some .leave then [3] else [])
  | some (.bat o) => (List.range o.held).map fun (n : Nat) => (n : Int)
  | _ => []
/-- The slots that a call has taken from the queue or not yet put there. -/
def ownO : Option OpS → List Int
  | some (.ins o) => if o.st = some .leave ∨ o.st = some .put then (match o.h with | some x => [slotOf x] | none => []) else []
  | some (.bat o) => o.removed
  | _ => []
structure InsOk (s : Sto) (o : InsOp) : Prop where
  st : ∃ st, o.st = some st ∧ heldOk o.held st
  fresh : pastI o.st = false → o.h = none ∧ o.pend = {}
  early : o.st ≠ some .start → 0 ≤ o.time ∧ o.time ≤ 1152921504606846976
  res : o.res = {}
  past : pastI o.st = true → o.pend = (match o.h with | some x => { rh := x } | none => { err := 10 })
  own : o.st = some .leave ∨ o.st = some .put → ∀ x, o.h = some x → 0 ≤ slotOf x ∧ slotOf x < s.slots.length ∧ x = hdlOf (slotOf x) (gnS s (slotOf x)) ∧ (stS s (slotOf x) = 1 ∨ stS s (slotOf x) = 3)
structure CanOk (s : Sto) (o : CanOp) : Prop where
  ph : o.ph = 0 ∨ o.ph = 1
  canc : o.canc = false
  seen : o.ph = 1 → 0 ≤ slotOf o.handle ∧ slotOf o.handle < s.slots.length ∧ o.seen = wordOf (hgenOf o.handle) 1 ∧ hgenOf o.handle ≤ gnS s (slotOf o.handle)
structure BatOk (s : Sto) (o : BatOp) : Prop where
  max : (o.call.max < 0 ∨ 64 < o.call.max) → o.held = 0 ∧ o.scanned = false
  held : o.held ≤ 4
  low : o.scanned = false → o.held < 4 → o.removed = [] ∧ o.events = [] ∧ o.claim = false
  done : o.scanned = true → o.claim = false ∧ 1 ≤ o.held ∧ (o.removed ≠ [] → o.held = 4)
  res : o.res = {}
  rem : ∀ i ∈ o.removed, stS s i = 2 ∨ stS s i = 3
  clm : o.claim = true → doneL s.q = true ∧ s.q.bot.head? = some o.item ∧ o.word = wordOf (gnS s o.item.slot) 1 ∧ o.item.time < o.call.bound ∧ (o.events.length : Int) ≠ o.call.max
def OpOk (s : Sto) : Option OpS → Prop
  | none => True
  | some (.ins o) => InsOk s o
  | some (.can o) => CanOk s o
  | some (.bat o) => BatOk s o
  | some (.unk b) => b = false
structure Slots (s : Sto) (own : List Int) (K : Int) : Prop where
  wl : s.words.length = s.slots.length + 1
  ml : s.mus.length = 4
  sl : s.slots.length ≤ 64
  wd : ∀ i : Int, 0 ≤ i → 0 ≤ wordS s (1 + i) ∧ wordS s (1 + i) ≤ 4 * K + 3
  nx : 0 ≤ s.next ∧ s.next ≤ K
  q : LdOk s.q
  perm : (s.idle ++ (allL s.q).map It.slot ++ own).Perm ((List.range s.slots.length).map fun (n : Nat) => (n : Int))
  idle : ∀ i ∈ s.idle, stS s i = 0
  qit : ∀ x ∈ allL s.q, x = itemS s x.slot ∧ (stS s x.slot = 1 ∨ stS s x.slot = 3)
  own : ∀ i ∈ own, stS s i ≠ 0
  times : ∀ y ∈ s.slots, TimeOk y.1
  seqs : ∀ i j : Nat, i < s.slots.length → j < s.slots.length → stS s i ≠ 0 → stS s j ≠ 0 → (itemS s i).seq = (itemS s j).seq → i = j
  seqlt : ∀ i : Nat, i < s.slots.length → stS s i ≠ 0 → (itemS s i).seq < s.next
def ownsR (n : Nat) (run : Nat → Option OpS) : List Int := (List.range n).flatMap fun p => ownO (run p)
/-- The machine's invariant. -/
structure MInv (n : Nat) (s : Sto) (run : Nat → Option OpS) (K : Int) : Prop where
  slots : Slots s (ownsR n run) K
  ops : ∀ p, p < n → OpOk s (run p)
  lock : ∀ m : Nat, m < 4 → ∀ t : Int, s.mus[m]? = some (some t) ↔ ∃ p : Nat, p < n ∧ t = (p : Int) ∧ (m : Int) ∈ locksO (run p)
def updP (f : Nat → Option OpS) (p : Nat) (x : Option OpS) : Nat → Option OpS := fun q => if q = p then x else f q
theorem updP_same (f : Nat → Option OpS) (p : Nat) (x : Option OpS) : updP f p x p = x := if_pos rfl
theorem updP_ne {f : Nat → Option OpS} {p q : Nat} {x : Option OpS} (h : q ≠ p) : updP f p x q = f q := if_neg h
theorem flatMap_upd {α : Type} (F : Option OpS → List α) (f : Nat → Option OpS) {p : Nat} : ∀ {n : Nat}, p < n →
    ∃ rest, ((List.range n).flatMap fun q => F (f q)).Perm (F (f p) ++ rest) ∧ ∀ x, ((List.range n).flatMap fun q => F (updP f p x q)).Perm (F x ++ rest)
  | 0, h => absurd h (Nat.not_lt_zero p)
  | n + 1, h => by
    by_cases hp : p = n
    · subst hp
      refine ⟨(List.range p).flatMap fun q => F (f q), ?_, fun x => ?_⟩
      · rw [List.range_succ, List.flatMap_append, List.flatMap_singleton]
        exact List.perm_append_comm
      · rw [List.range_succ, List.flatMap_append, List.flatMap_singleton, updP_same]
        have e : ((List.range p).flatMap fun q => F (updP f p x q)) = (List.range p).flatMap fun q => F (f q) := by
          unfold List.flatMap
          congr 1
          exact List.map_congr_left fun q hq => by rw [updP_ne (by rw [List.mem_range] at hq; omega)]
        rw [e]
        exact List.perm_append_comm
    · obtain ⟨rest, h1, h2⟩ := flatMap_upd F f (p := p) (n := n) (by omega)
      refine ⟨rest ++ F (f n), ?_, fun x => ?_⟩
      · rw [List.range_succ, List.flatMap_append, List.flatMap_singleton, ← List.append_assoc]
        exact h1.append_right _
      · rw [List.range_succ, List.flatMap_append, List.flatMap_singleton, ← List.append_assoc, updP_ne (by omega)]
        exact (h2 x).append_right _
/-- What the store's functions want holds. -/
theorem Slots.sok {s : Sto} {own : List Int} {K : Int} (h : Slots s own K) (hn : (allL s.q).length ≤ 18) : SOk s K where
  wl := h.wl
  ml := h.ml
  sl := h.sl
  il := by
    have := h.perm.length_eq
    simp only [List.length_append, List.length_map, List.length_range] at this
    have := h.sl
    omega
  idle := fun i hi => by
    have : i ∈ (List.range s.slots.length).map fun (n : Nat) => (n : Int) := h.perm.mem_iff.1 (by simp [hi])
    rw [List.mem_map] at this
    obtain ⟨k, hk, rfl⟩ := this
    rw [List.mem_range] at hk
    omega
  wd := h.wd
  nx := h.nx
  q := h.q
  qn := hn
theorem Slots.mem {s : Sto} {own : List Int} {K : Int} (h : Slots s own K) {i : Int} (hi : i ∈ s.idle ∨ i ∈ (allL s.q).map It.slot ∨ i ∈ own) : 0 ≤ i ∧ i < s.slots.length := by
  have : i ∈ (List.range s.slots.length).map fun (n : Nat) => (n : Int) := h.perm.mem_iff.1 (by
    rw [List.mem_append, List.mem_append]
    rcases hi with hi | hi | hi
    · exact .inl (.inl hi)
    · exact .inl (.inr hi)
    · exact .inr hi)
  rw [List.mem_map] at this
  obtain ⟨k, hk, rfl⟩ := this
  rw [List.mem_range] at hk
  omega
theorem Slots.nodup {s : Sto} {own : List Int} {K : Int} (h : Slots s own K) : (s.idle ++ (allL s.q).map It.slot ++ own).Nodup := by
  refine h.perm.nodup_iff.2 ?_
  rw [List.Nodup, List.pairwise_map]
  exact List.Pairwise.imp (fun hne e => hne (by omega)) List.nodup_range
/-- A slot in use lies nowhere or in the queue or with a call. -/
theorem Slots.idle_iff {s : Sto} {own : List Int} {K : Int} (h : Slots s own K) {i : Int} (h0 : 0 ≤ i) (h1 : i < s.slots.length) : i ∈ s.idle ↔ stS s i = 0 := by
  refine ⟨h.idle i, fun hs => ?_⟩
  have : i ∈ s.idle ++ (allL s.q).map It.slot ++ own := h.perm.mem_iff.2 (List.mem_map.2 ⟨i.toNat, List.mem_range.2 (by omega), by omega⟩)
  rw [List.mem_append, List.mem_append] at this
  rcases this with (h2 | h2) | h2
  · exact h2
  · rw [List.mem_map] at h2
    obtain ⟨x, hx, rfl⟩ := h2
    have := (h.qit x hx).2
    omega
  · exact absurd hs (h.own i h2)
end PQ
namespace PQ
variable {n : Nat} {s s' : Sto} {run : Nat → Option OpS} {K : Int}
/-- A call's facts, where another call's step has turned the store. -/
theorem OpOk.keep {op : Option OpS} (h : OpOk s op) (hl : s'.slots.length = s.slots.length) (hg : ∀ i : Int, 0 ≤ i → gnS s i ≤ gnS s' i)
    (hw : ∀ i ∈ ownO op, gnS s' i = gnS s i ∧ (stS s i = 1 ∨ stS s i = 3 → stS s' i = 1 ∨ stS s' i = 3) ∧ (stS s i = 2 ∨ stS s i = 3 → stS s' i = 2 ∨ stS s' i = 3))
    (hr : ∀ x ∈ allL s.q, 0 ≤ x.slot ∧ x.slot < s.slots.length)
    (hq : (s'.q = s.q ∧ ∀ i : Int, 0 ≤ i → i < s.slots.length → gnS s' i = gnS s i) ∨ ∀ o, op = some (.bat o) → o.claim = false) : OpOk s' op := by
  match op, h with
  | none, _ => trivial
  | some (.ins o), h =>
    refine ⟨h.st, h.fresh, h.early, h.res, h.past, fun hs x hx => ?_⟩
    obtain ⟨h1, h2, h3, h4⟩ := h.own hs x hx
    have hm : slotOf x ∈ ownO (some (.ins o)) := by
      show slotOf x ∈ (if o.st = some .leave ∨ o.st = some .put then (match o.h with | some x => [slotOf x] | none => []) else [])
      rw [if_pos hs, hx]; exact List.mem_singleton.2 rfl
    obtain ⟨k1, k2, _⟩ := hw _ hm
    exact ⟨h1, by rw [hl]; exact h2, by rw [k1]; exact h3, k2 h4⟩
  | some (.can o), h =>
    refine ⟨h.ph, h.canc, fun hp => ?_⟩
    obtain ⟨h1, h2, h3, h4⟩ := h.seen hp
    exact ⟨h1, by rw [hl]; exact h2, h3, Int.le_trans h4 (hg _ h1)⟩
  | some (.bat o), h =>
    refine ⟨h.max, h.held, h.low, h.done, h.res, fun i hi => (hw i hi).2.2 (h.rem i hi), fun hc => ?_⟩
    rcases hq with ⟨q1, q2⟩ | q
    · obtain ⟨c1, c2, c3, c4⟩ := h.clm hc
      have hb : o.item ∈ s.q.bot := List.mem_of_mem_head? (by rw [c2]; exact rfl)
      have hr := hr o.item (by rw [allL_eq, List.mem_append]; exact .inr hb)
      rw [q1, q2 _ hr.1 hr.2]
      exact ⟨c1, c2, c3, c4⟩
    · rw [q o rfl] at hc; cases hc
  | some (.unk b), h => exact h
theorem Slots.own_perm {own own' : List Int} (h : Slots s own K) (hp : own.Perm own') : Slots s own' K :=
  ⟨h.wl, h.ml, h.sl, h.wd, h.nx, h.q, (List.Perm.append_left _ hp.symm).trans h.perm, h.idle, h.qit, fun i hi => h.own i (hp.mem_iff.2 hi), h.times, h.seqs, h.seqlt⟩
theorem Slots.mono {own : List Int} {K' : Int} (h : Slots s own K) (hk : K ≤ K') : Slots s own K' :=
  ⟨h.wl, h.ml, h.sl, fun i hi => ⟨(h.wd i hi).1, by have := (h.wd i hi).2; omega⟩, ⟨h.nx.1, by have := h.nx.2; omega⟩, h.q, h.perm, h.idle, h.qit, h.own, h.times, h.seqs, h.seqlt⟩
/-- Only mutexes turn. -/
theorem Slots.mus {own : List Int} {ms : List (Option Int)} (h : Slots s own K) (hm : ms.length = 4) : Slots { s with mus := ms } own K :=
  ⟨h.wl, hm, h.sl, h.wd, h.nx, h.q, h.perm, h.idle, h.qit, h.own, h.times, h.seqs, h.seqlt⟩
/-- The frame of a step. -/
theorem MInv.step {p : Nat} {op : Option OpS} (h : MInv n s run K) (hp : p < n) {K' : Int}
    (hS : ∀ rest, Slots s (ownO (run p) ++ rest) K → (∀ q, q < n → q ≠ p → ∀ i ∈ ownO (run q), i ∈ rest) → Slots s' (ownO op ++ rest) K')
    (hO : OpOk s' op) (hk : ∀ q, q < n → q ≠ p → OpOk s (run q) → OpOk s' (run q))
    (hL : ∀ m : Nat, m < 4 → ∀ t : Int, s'.mus[m]? = some (some t) ↔ ∃ q : Nat, q < n ∧ t = (q : Int) ∧ (m : Int) ∈ locksO (updP run p op q)) : MInv n s' (updP run p op) K' := by
  obtain ⟨rest, h1, h2⟩ := flatMap_upd ownO run hp
  refine ⟨?_, fun q hq => ?_, hL⟩
  · have h3 := h2 op
    unfold ownsR
    refine (hS rest (h.slots.own_perm h1) fun q hq hne i hi => ?_).own_perm h3.symm
    -- what another call holds lies in the rest
    have h4 := h2 none
    have : i ∈ (List.range n).flatMap fun q => ownO (updP run p none q) := List.mem_flatMap.2 ⟨q, List.mem_range.2 hq, by rw [updP_ne hne]; exact hi⟩
    have := h4.mem_iff.1 this
    simpa [ownO] using this
  · by_cases hqp : q = p
    · subst hqp; rw [updP_same]; exact hO
    · rw [updP_ne hqp]; exact hk q hq hqp (h.ops q hq)
/-! ### Mutexes -/
theorem lock_same {p : Nat} {op : Option OpS} (h : MInv n s run K) (hm : s'.mus = s.mus) (hl : ∀ m : Nat, (m : Int) ∈ locksO op ↔ (m : Int) ∈ locksO (run p)) :
    ∀ m : Nat, m < 4 → ∀ t : Int, s'.mus[m]? = some (some t) ↔ ∃ q : Nat, q < n ∧ t = (q : Int) ∧ (m : Int) ∈ locksO (updP run p op q) := by
  intro m hm4 t
  rw [hm, h.lock m hm4 t]
  have e : ∀ q, (m : Int) ∈ locksO (updP run p op q) ↔ (m : Int) ∈ locksO (run q) := fun q => by
    by_cases hq : q = p
    · subst hq; rw [updP_same]; exact hl m
    · rw [updP_ne hq]
  simp only [e]
theorem lock_acq {p k : Nat} {op : Option OpS} (h : MInv n s run K) (hp : p < n) (hk : k < 4) (hok : (lockS s p k).2 = true) (hs : s'.mus = (lockS s p k).1.mus)
    (hl : ∀ m : Nat, (m : Int) ∈ locksO op ↔ m = k ∨ (m : Int) ∈ locksO (run p)) :
    ∀ m : Nat, m < 4 → ∀ t : Int, s'.mus[m]? = some (some t) ↔ ∃ q : Nat, q < n ∧ t = (q : Int) ∧ (m : Int) ∈ locksO (updP run p op q) := by
  have hf : s.mus[k]? = some none := by
    unfold lockS at hok
    split at hok
    · rename_i h1; exact h1
    · cases hok
  have he : (lockS s p k).1.mus = s.mus.set k (some (p : Int)) := by unfold lockS; rw [if_pos hf]
  intro m hm4 t
  rw [hs, he]
  have hml := h.slots.ml
  by_cases hmk : m = k
  · subst hmk
    rw [List.getElem?_set_self (by omega)]
    constructor
    · intro e
      simp only [Option.some.injEq] at e
      exact ⟨p, hp, e.symm, by rw [updP_same]; exact (hl m).2 (.inl rfl)⟩
    · rintro ⟨q, hq, rfl, hx⟩
      by_cases hqp : q = p
      · rw [hqp]
      · rw [updP_ne hqp] at hx
        have := (h.lock m hm4 q).2 ⟨q, hq, rfl, hx⟩
        rw [hf] at this; cases this
  · rw [List.getElem?_set_ne (fun e => hmk e.symm), h.lock m hm4 t]
    have e : ∀ q, (m : Int) ∈ locksO (updP run p op q) ↔ (m : Int) ∈ locksO (run q) := fun q => by
      by_cases hq : q = p
      · subst hq; rw [updP_same, hl m]; exact ⟨fun x => x.resolve_left hmk, .inr⟩
      · rw [updP_ne hq]
    simp only [e]
theorem lock_rel {p k : Nat} {op : Option OpS} (h : MInv n s run K) (hp : p < n) (hk : k < 4) (hh : (k : Int) ∈ locksO (run p)) (hs : s'.mus = (unlockS s p k).mus)
    (hl : ∀ m : Nat, (m : Int) ∈ locksO op ↔ m ≠ k ∧ (m : Int) ∈ locksO (run p)) :
    ∀ m : Nat, m < 4 → ∀ t : Int, s'.mus[m]? = some (some t) ↔ ∃ q : Nat, q < n ∧ t = (q : Int) ∧ (m : Int) ∈ locksO (updP run p op q) := by
  have hf : s.mus[k]? = some (some (p : Int)) := (h.lock k hk p).2 ⟨p, hp, rfl, hh⟩
  have he : (unlockS s p k).mus = s.mus.set k none := by
    unfold unlockS
    rw [if_neg (by omega), Int.toNat_natCast, if_pos hf]
  intro m hm4 t
  rw [hs, he]
  have hml := h.slots.ml
  by_cases hmk : m = k
  · subst hmk
    rw [List.getElem?_set_self (by omega)]
    constructor
    · intro e; cases e
    · rintro ⟨q, hq, rfl, hx⟩
      by_cases hqp : q = p
      · subst hqp; rw [updP_same, hl m] at hx; exact absurd rfl hx.1
      · rw [updP_ne hqp] at hx
        have := (h.lock m hm4 q).2 ⟨q, hq, rfl, hx⟩
        rw [hf] at this
        simp only [Option.some.injEq] at this
        omega
  · rw [List.getElem?_set_ne (fun e => hmk e.symm), h.lock m hm4 t]
    have e : ∀ q, (m : Int) ∈ locksO (updP run p op q) ↔ (m : Int) ∈ locksO (run q) := fun q => by
      by_cases hq : q = p
      · subst hq; rw [updP_same, hl m]; exact ⟨And.right, fun x => ⟨hmk, x⟩⟩
      · rw [updP_ne hq]
    simp only [e]
/-- Two calls hold no mutex together. -/
theorem MInv.excl (h : MInv n s run K) {p q k : Nat} (hp : p < n) (hq : q < n) (hk : k < 4) (h1 : (k : Int) ∈ locksO (run p)) (h2 : (k : Int) ∈ locksO (run q)) : p = q := by
  have a := (h.lock k hk p).2 ⟨p, hp, rfl, h1⟩
  have b := (h.lock k hk q).2 ⟨q, hq, rfl, h2⟩
  rw [a] at b
  simp only [Option.some.injEq] at b
  omega
theorem Slots.range {own : List Int} (h : Slots s own K) : ∀ x ∈ allL s.q, 0 ≤ x.slot ∧ x.slot < s.slots.length := fun x hx => h.mem (.inr (.inl (List.mem_map_of_mem hx)))
theorem OpOk.mus {own : List Int} {op : Option OpS} (h : OpOk s op) (hs : Slots s own K) (ms : List (Option Int)) : OpOk { s with mus := ms } op :=
  h.keep rfl (fun _ _ => Int.le_refl _) (fun _ _ => ⟨rfl, id, id⟩) hs.range (.inl ⟨rfl, fun _ _ _ => rfl⟩)
/-- A step that turns mutexes alone. -/
theorem MInv.quiet {p : Nat} {op : Option OpS} (h : MInv n s run K) (hp : p < n) {ms : List (Option Int)} (hm : ms.length = 4) (hown : ownO op = ownO (run p)) (hO : OpOk s op)
    (hL : ∀ m : Nat, m < 4 → ∀ t : Int, ms[m]? = some (some t) ↔ ∃ q : Nat, q < n ∧ t = (q : Int) ∧ (m : Int) ∈ locksO (updP run p op q)) : MInv n { s with mus := ms } (updP run p op) (K + 1) :=
  h.step hp (fun rest hS _ => by rw [hown]; exact (hS.mono (by omega)).mus hm) (hO.mus h.slots ms) (fun q hq hne hok => hok.mus h.slots ms) hL
theorem MInv.same {p : Nat} {op : Option OpS} (h : MInv n s run K) (hp : p < n) (hown : ownO op = ownO (run p)) (hO : OpOk s op) (hl : ∀ m : Nat, (m : Int) ∈ locksO op ↔ (m : Int) ∈ locksO (run p)) : MInv n s (updP run p op) (K + 1) :=
  h.quiet hp (ms := s.mus) h.slots.ml hown hO (lock_same h rfl hl)
theorem lockS_yes {t : Int} {m : Nat} (h : (lockS s t m).2 = true) : (lockS s t m).1 = { s with mus := s.mus.set m (some t) } := by
  unfold lockS at h ⊢
  split
  · rfl
  · rename_i h1; rw [if_neg h1] at h; cases h
theorem lockS_no {t : Int} {m : Nat} (h : ¬ (lockS s t m).2 = true) : (lockS s t m).1 = s := by
  unfold lockS at h ⊢
  split
  · rename_i h1; rw [if_pos h1] at h; exact absurd rfl h
  · rfl
theorem unlockS_yes (h : MInv n s run K) {p k : Nat} (hp : p < n) (hk : k < 4) (hh : (k : Int) ∈ locksO (run p)) : unlockS s p k = { s with mus := s.mus.set k none } := by
  have hf : s.mus[k]? = some (some (p : Int)) := (h.lock k hk p).2 ⟨p, hp, rfl, hh⟩
  unfold unlockS
  rw [if_neg (by omega), Int.toNat_natCast, if_pos hf]
theorem MInv.acq {p k : Nat} {op : Option OpS} (h : MInv n s run K) (hp : p < n) (hk : k < 4) (hok : (lockS s p k).2 = true) (hown : ownO op = ownO (run p)) (hO : OpOk s op)
    (hl : ∀ m : Nat, (m : Int) ∈ locksO op ↔ m = k ∨ (m : Int) ∈ locksO (run p)) : MInv n (lockS s p k).1 (updP run p op) (K + 1) := by
  have hL := lock_acq (s' := (lockS s p k).1) h hp hk hok rfl hl
  rw [lockS_yes hok] at hL ⊢
  exact h.quiet hp (by rw [List.length_set]; exact h.slots.ml) hown hO hL
theorem MInv.rel {p k : Nat} {op : Option OpS} (h : MInv n s run K) (hp : p < n) (hk : k < 4) (hh : (k : Int) ∈ locksO (run p)) (hown : ownO op = ownO (run p)) (hO : OpOk s op)
    (hl : ∀ m : Nat, (m : Int) ∈ locksO op ↔ m ≠ k ∧ (m : Int) ∈ locksO (run p)) : MInv n (unlockS s p k) (updP run p op) (K + 1) := by
  have hL := lock_rel (s' := unlockS s p k) h hp hk hh rfl hl
  rw [unlockS_yes h hp hk hh] at hL ⊢
  exact h.quiet hp (by rw [List.length_set]; exact h.slots.ml) hown hO hL
end PQ
namespace PQ
variable {n : Nat} {s s' : Sto} {run : Nat → Option OpS} {K : Int}
/-- An insertion goes on, in one of its early states. -/
theorem InsOk.go {o : InsOp} (h : InsOk s o) (hp : pastI o.st = false) (ht : 0 ≤ o.time ∧ o.time ≤ 1152921504606846976) {st' : InsSt} {held' : List Int} (hh : heldOk held' st') (hq : pastI (some st') = false) :
    InsOk s { o with eff := false, st := some st', held := held' } := by
  refine ⟨⟨st', rfl, hh⟩, fun _ => h.fresh hp, fun _ => ht, h.res, fun hc => ?_, fun hs => ?_⟩
  · rw [show pastI (some st') = true from hc] at hq; cases hq
  · have hs : some st' = some .leave ∨ some st' = some .put := hs
    rcases hs with e | e <;> (rw [e] at hq; cases hq)
theorem own_early {o : InsOp} (hp : pastI o.st = false) : ownO (some (.ins o)) = [] := by
  show (if o.st = some .leave ∨ o.st = some .put then (match o.h with | some x => [slotOf x] | none => []) else []) = []
  rw [if_neg]
  rintro (e | e) <;> (rw [e] at hp; cases hp)
theorem locks_ins (o : InsOp) : locksO (some (.ins o)) = o.held ++ (if o.st = some .alloc ∨ o.st = some .leave then [3] else []) := rfl
/-- The operation that stands behind a step. -/
def opI (q : Sto × InsOp × Bool) : Option OpS := if q.2.2 = true then none else some (.ins q.2.1)
theorem stepI_some {t : Int} {o : InsOp} {st : InsSt} (hst : o.st = some st) : stepI s t o = ((nextI s t { o with eff := false } st).1, if (nextI s t { o with eff := false } st).2.st = none then { (nextI s t { o with eff := false } st).2 with res := (nextI s t { o with eff := false } st).2.pend } else (nextI s t { o with eff := false } st).2, decide ((nextI s t { o with eff := false } st).2.st = none)) := by
  unfold stepI; rw [hst]
theorem stepI_go {t : Int} {o : InsOp} {st st' : InsSt} {s1 : Sto} {o1 : InsOp} (hst : o.st = some st) (h : nextI s t { o with eff := false } st = (s1, o1)) (h1 : o1.st = some st') : stepI s t o = (s1, o1, false) := by
  rw [stepI_some hst, h]
  simp only [h1]; rfl
theorem stepI_end {t : Int} {o : InsOp} {st : InsSt} {s1 : Sto} {o1 : InsOp} (hst : o.st = some st) (h : nextI s t { o with eff := false } st = (s1, o1)) (h1 : o1.st = none) : stepI s t o = (s1, { o1 with res := o1.pend }, true) := by
  rw [stepI_some hst, h]
  simp only [h1]; rfl
theorem opI_go (s1 : Sto) (o1 : InsOp) : opI (s1, o1, false) = some (.ins o1) := rfl
theorem opI_end (s1 : Sto) (o1 : InsOp) : opI (s1, o1, true) = none := rfl
/-- An insertion tries a mutex. -/
theorem try_step (h : MInv n s run K) {p : Nat} (hp : p < n) {o : InsOp} (hr : run p = some (.ins o)) {st st' : InsSt} (hst : o.st = some st) {k : Nat} (hk : k < 4) {held' : List Int}
    (hn : nextI s p { o with eff := false } st = tryI s p { o with eff := false } k st') (he : (if k = 3 then o.held else o.held ++ [(k : Int)]) = held') (hpast : pastI (some st) = false) (hpast' : pastI (some st') = false)
    (ht : 0 ≤ o.time ∧ o.time ≤ 1152921504606846976) (hheld : heldOk held' st') (hold : heldOk o.held st)
    (hl : ∀ m : Nat, (m : Int) ∈ held' ++ (if some st' = some InsSt.alloc ∨ some st' = some .leave then [3] else []) ↔ m = k ∨ (m : Int) ∈ o.held ++ (if some st = some InsSt.alloc ∨ some st = some .leave then [3] else [])) :
    MInv n (stepI s p o).1 (updP run p (opI (stepI s p o))) (K + 1) := by
  have ho : InsOk s o := by have := h.ops p hp; rw [hr] at this; exact this
  have hpo : pastI o.st = false := by rw [hst]; exact hpast
  have hown : ownO (run p) = [] := by rw [hr]; exact own_early hpo
  by_cases hok : (lockS s p k).2 = true
  · have e : nextI s p { o with eff := false } st = ((lockS s p k).1, { o with eff := false, st := some st', held := held' }) := by
      rw [hn]; unfold tryI; rw [if_pos hok, ← he]
    rw [stepI_go hst e rfl, opI_go]
    refine h.acq hp hk hok ?_ (ho.go hpo ht hheld hpast') ?_
    · rw [hown]; exact own_early hpast'
    · intro m
      rw [hr, locks_ins, locks_ins, hst]; exact hl m
  · have e : nextI s p { o with eff := false } st = (s, { o with eff := false, st := some st, held := o.held }) := by
      rw [hn]; unfold tryI; rw [if_neg hok, ← hst]
    rw [stepI_go hst e rfl, opI_go]
    refine h.same hp ?_ (ho.go hpo ht hold hpast) ?_
    · rw [hown]; exact own_early hpast
    · intro m
      rw [hr, locks_ins, locks_ins, hst]
/-- An insertion goes on without turning the store. -/
theorem go_step (h : MInv n s run K) {p : Nat} (hp : p < n) {o : InsOp} (hr : run p = some (.ins o)) {st st' : InsSt} (hst : o.st = some st)
    (hn : nextI s p { o with eff := false } st = (s, { o with eff := false, st := some st' })) (hpast : pastI (some st) = false) (hpast' : pastI (some st') = false)
    (ht : 0 ≤ o.time ∧ o.time ≤ 1152921504606846976) (hheld : heldOk o.held st') (hl : (some st = some InsSt.alloc ∨ some st = some InsSt.leave) ↔ (some st' = some InsSt.alloc ∨ some st' = some InsSt.leave)) :
    MInv n (stepI s p o).1 (updP run p (opI (stepI s p o))) (K + 1) := by
  have ho : InsOk s o := by have := h.ops p hp; rw [hr] at this; exact this
  have hpo : pastI o.st = false := by rw [hst]; exact hpast
  rw [stepI_go hst hn rfl, opI_go]
  refine h.same hp ?_ (ho.go hpo ht hheld hpast') ?_
  · rw [hr, own_early hpo]; exact own_early hpast'
  · intro m
    rw [hr, locks_ins, locks_ins, hst]
    simp only [hl]
end PQ
namespace PQ
theorem runPicks_stuck {r : RunS} (h : ¬ 0 < r.left) : ∀ ps, runPicks r ps = r
  | [] => rfl
  | p :: ps => by unfold runPicks; rw [if_neg h]
theorem runPicks_snoc : ∀ (ps : List Nat) (r : RunS) (p : Nat), runPicks r (ps ++ [p]) = if 0 < (runPicks r ps).left then pickM (runPicks r ps) p else runPicks r ps
  | [], r, p => by
    show runPicks r [p] = _
    unfold runPicks
    show (if 0 < r.left then runPicks (pickM r p) [] else r) = if 0 < r.left then pickM r p else r
    rfl
  | q :: ps, r, p => by
    by_cases h : 0 < r.left
    · have e1 : runPicks r (q :: ps ++ [p]) = runPicks (pickM r q) (ps ++ [p]) := by show runPicks r (q :: (ps ++ [p])) = _; rw [runPicks, if_pos h]
      have e2 : runPicks r (q :: ps) = runPicks (pickM r q) ps := by rw [runPicks, if_pos h]
      rw [e1, e2]; exact runPicks_snoc ps (pickM r q) p
    · have e1 : runPicks r (q :: ps ++ [p]) = r := runPicks_stuck h _
      have e2 : runPicks r (q :: ps) = r := runPicks_stuck h _
      rw [e1, e2, if_neg h]
theorem runPicks_app : ∀ (ps qs : List Nat) (r : RunS), runPicks r (ps ++ qs) = runPicks (runPicks r ps) qs
  | [], qs, r => rfl
  | p :: ps, qs, r => by
    by_cases h : 0 < r.left
    · show runPicks r (p :: (ps ++ qs)) = _
      rw [runPicks, if_pos h, runPicks_app ps qs, show runPicks r (p :: ps) = runPicks (pickM r p) ps by rw [runPicks, if_pos h]]
    · rw [runPicks_stuck h, runPicks_stuck h, runPicks_stuck h]
theorem rounds_stuck {t : Nat} {r : RunS} (h : r.left = 0) : ∀ n p, rounds t n p r = r
  | 0, _ => rfl
  | n + 1, p => by rw [rounds, if_pos h]
theorem rounds_succ {t : Nat} (ht : 0 < t) : ∀ (k p : Nat) (r : RunS), p < t → rounds t (k + 1) p r = if (rounds t k p r).left = 0 then rounds t k p r else pickM (rounds t k p r) ((p + k) % t)
  | 0, p, r, hp => by
    show (if r.left = 0 then r else rounds t 0 ((p + 1) % t) (pickM r p)) = if r.left = 0 then r else pickM r ((p + 0) % t)
    have e : (p + 0) % t = p := Nat.mod_eq_of_lt hp
    rw [e]; rfl
  | k + 1, p, r, hp => by
    by_cases h : r.left = 0
    · rw [rounds_stuck h, rounds_stuck h, if_pos h]
    · have e1 : rounds t (k + 1 + 1) p r = rounds t (k + 1) ((p + 1) % t) (pickM r p) := by rw [rounds, if_neg h]
      have e2 : rounds t (k + 1) p r = rounds t k ((p + 1) % t) (pickM r p) := by rw [rounds, if_neg h]
      rw [e1, e2, rounds_succ ht k ((p + 1) % t) (pickM r p) (Nat.mod_lt _ ht)]
      have e3 : ((p + 1) % t + k) % t = (p + (k + 1)) % t := by rw [Nat.mod_add_mod]; congr 1; omega
      rw [e3]
theorem pickM_picks (r : RunS) (p : Nat) : (pickM r p).picks = r.picks + 1 := by
  unfold pickM
  split
  · rfl
  · split
    · rfl
    · simp only
      split <;> rfl
theorem pickM_thrs (r : RunS) (p : Nat) : (pickM r p).thrs.length = r.thrs.length := by
  unfold pickM
  split
  · rfl
  · split
    · rfl
    · simp only
      split
      · rfl
      · simp
/-- What the walk of a run wants of the machine. -/
structure Runs (n B : Nat) (inv : RunS → Prop) : Prop where
  step : ∀ r p, inv r → p < n → 0 < r.left → inv (pickM r p)
  left : ∀ r, inv r → 0 ≤ r.left
  thrs : ∀ r, inv r → r.thrs.length = n
  fin : ∀ r, inv r → r.picks ≤ 300 → (rounds n B 0 r).left = 0
end PQ
namespace PQ
variable {s s' : Sto} {own : List Int} {K : Int}
theorem st_word {g st : Int} (h0 : 0 ≤ st) (h1 : st < 4) : stOf (wordOf g st) = st := by unfold stOf wordOf; omega
theorem gen_word {g st : Int} (h0 : 0 ≤ st) (h1 : st < 4) : genOf (wordOf g st) = g := by unfold genOf wordOf; omega
theorem word_eta (w : Int) : wordOf (genOf w) (stOf w) = w := by unfold genOf wordOf stOf; omega
/-- A word set at a slot. -/
theorem st_setW {i j v : Int} (hw : s.words.length = s.slots.length + 1) (hi : 0 ≤ i) (hl : i < s.slots.length) (hj : 0 ≤ j) : stS (setW s (1 + i) v) j = if i = j then stOf v else stS s j := by
  unfold stS
  rw [wordS_setW (by omega) (by omega) (by omega)]
  by_cases h : i = j
  · rw [if_pos h, if_pos (by omega)]
  · rw [if_neg h, if_neg (by omega)]
theorem gn_setW {i j v : Int} (hw : s.words.length = s.slots.length + 1) (hi : 0 ≤ i) (hl : i < s.slots.length) (hj : 0 ≤ j) : gnS (setW s (1 + i) v) j = if i = j then genOf v else gnS s j := by
  unfold gnS
  rw [wordS_setW (by omega) (by omega) (by omega)]
  by_cases h : i = j
  · rw [if_pos h, if_pos (by omega)]
  · rw [if_neg h, if_neg (by omega)]
theorem Slots.live {i : Int} (h : Slots s own K) (hi : i ∈ (allL s.q).map It.slot ∨ i ∈ own) : stS s i ≠ 0 := by
  rcases hi with hi | hi
  · rw [List.mem_map] at hi
    obtain ⟨x, hx, rfl⟩ := hi
    have := (h.qit x hx).2
    omega
  · exact h.own i hi
theorem Slots.st_bounds (h : Slots s own K) {i : Int} : 0 ≤ stS s i ∧ stS s i < 4 := by unfold stS stOf; omega
theorem Slots.gn_bounds (h : Slots s own K) {i : Int} (hi : 0 ≤ i) : 0 ≤ gnS s i ∧ gnS s i ≤ K := gen_bounds (h.wd i hi)
theorem itemS_setW (s : Sto) (i v j : Int) : itemS (setW s i v) j = itemS s j := by unfold itemS; rw [setW_slots]
/-- A slot's word turns from pending to cancelled. -/
theorem Slots.word (h : Slots s own K) {i : Int} {v : Int} (hi : 0 ≤ i) (hl : i < s.slots.length) (hv : 0 ≤ v ∧ v ≤ 4 * K + 3) (h0 : stS s i ≠ 0) (hn : stOf v ≠ 0) (hq : i ∈ (allL s.q).map It.slot → stOf v = 1 ∨ stOf v = 3) : Slots (setW s (1 + i) v) own K where
  wl := by rw [setW_wl, setW_slots]; exact h.wl
  ml := by rw [setW_mus]; exact h.ml
  sl := by rw [setW_slots]; exact h.sl
  wd := fun j hj => by
    rcases wordS_setW_le (s := s) (i := 1 + i) (v := v) (j := 1 + j) (by omega) with e | e
    · rw [e]; exact hv
    · rw [e]; exact h.wd j hj
  nx := by rw [setW_next]; exact h.nx
  q := by rw [setW_q]; exact h.q
  perm := by rw [setW_idle, setW_q, setW_slots]; exact h.perm
  idle := fun j hj => by
    rw [setW_idle] at hj
    have hr := h.mem (.inl hj)
    rw [st_setW h.wl hi hl hr.1]
    split
    · rename_i e; subst e; exact absurd (h.idle _ hj) h0
    · exact h.idle j hj
  qit := fun x hx => by
    rw [setW_q] at hx
    have hr := h.range x hx
    rw [itemS_setW, st_setW h.wl hi hl hr.1]
    refine ⟨(h.qit x hx).1, ?_⟩
    split
    · rename_i e; exact hq (List.mem_map.2 ⟨x, hx, e.symm⟩)
    · exact (h.qit x hx).2
  own := fun j hj => by
    have hr := h.mem (.inr (.inr hj))
    rw [st_setW h.wl hi hl hr.1]
    split
    · exact hn
    · exact h.own j hj
  times := by rw [setW_slots]; exact h.times
  seqs := fun a b ha hb h1 h2 he => by
    rw [setW_slots] at ha hb
    rw [itemS_setW, itemS_setW] at he
    have e : ∀ c : Nat, stS (setW s (1 + i) v) c ≠ 0 → stS s c ≠ 0 := fun c hc => by
      rw [st_setW h.wl hi hl (by omega)] at hc
      split at hc
      · rename_i e; rw [← e]; exact h0
      · exact hc
    exact h.seqs a b ha hb (e a h1) (e b h2) he
  seqlt := fun a ha h1 => by
    rw [setW_slots] at ha
    rw [itemS_setW, setW_next]
    have e : stS s a ≠ 0 := by
      rw [st_setW h.wl hi hl (by omega)] at h1
      split at h1
      · rename_i e; rw [← e]; exact h0
      · exact h1
    exact h.seqlt a ha e
/-- An item is put into the queue. -/
theorem Slots.put {i : Int} (h : Slots s (i :: own) K) (hs : stS s i = 1 ∨ stS s i = 3) : Slots (putS s i) own K := by
  have hr := h.mem (.inr (.inr (List.mem_cons_self ..)))
  have htm : TimeOk (itemS s i).time := by
    have hl : i.toNat < s.slots.length := by omega
    unfold itemS
    rw [List.getElem?_eq_getElem hl]
    exact h.times _ (List.getElem_mem hl)
  have hsq : ∀ x ∈ allL s.q, x.seq ≠ (itemS s i).seq := fun x hx he => by
    have hxr := h.range x hx
    have hxi := h.qit x hx
    have h5 := h.seqs x.slot.toNat i.toNat (by omega) (by omega) (by rw [Int.toNat_of_nonneg hxr.1]; omega) (by rw [Int.toNat_of_nonneg hr.1]; omega)
      (by rw [Int.toNat_of_nonneg hxr.1, Int.toNat_of_nonneg hr.1, ← hxi.1]; exact he)
    have h6 : x.slot = i := by omega
    have hnd := h.nodup
    rw [List.nodup_append] at hnd
    exact hnd.2.2 x.slot (List.mem_append_right _ (List.mem_map_of_mem hx)) i (List.mem_cons_self ..) h6
  have hp := (insertL_perm h.q (it := itemS s i)).1
  have hok := insertL_ok h.q htm hsq
  have e1 : (itemS s i).slot = i := rfl
  refine ⟨h.wl, h.ml, h.sl, h.wd, h.nx, hok, ?_, h.idle, fun x hx => ?_, fun j hj => h.own j (.tail _ hj), h.times, h.seqs, h.seqlt⟩
  · have h2 := (hp.map It.slot)
    rw [List.map_cons, e1] at h2
    refine List.Perm.trans ?_ h.perm
    show (s.idle ++ (allL (insertL s.q (itemS s i))).map It.slot ++ own).Perm _
    rw [List.append_assoc, List.append_assoc]
    refine List.Perm.append_left _ ?_
    refine (List.Perm.append_right own h2).trans ?_
    exact List.perm_middle.symm
  · have hx : x ∈ allL (insertL s.q (itemS s i)) := hx
    rcases List.mem_cons.1 (hp.mem_iff.1 hx) with rfl | hx
    · exact ⟨rfl, hs⟩
    · exact h.qit x hx
end PQ
namespace PQ
variable {s s' : Sto} {own : List Int} {K : Int}
theorem itemS_set {sl : List (Int × Int)} {i j : Int} {y : Int × Int} (s : Sto) (hs : s.slots = sl) (hi : 0 ≤ i) (hj : 0 ≤ j) (hne : i ≠ j) : itemS { s with slots := sl.set i.toNat y } j = itemS s j := by
  unfold itemS
  show It.mk ((sl.set i.toNat y)[j.toNat]?.getD (0, 0)).1 ((sl.set i.toNat y)[j.toNat]?.getD (0, 0)).2 j = _
  rw [List.getElem?_set_ne (by omega), hs]
/-- The store behind a slot taken. -/
def takeS (s : Sto) (i time : Int) : Sto := setW { s with idle := s.idle.dropLast, slots := s.slots.set i.toNat (time, s.next), next := s.next + 1 } (1 + i) (wordOf (genOf (wordS s (1 + i))) 1)
theorem allocS_some {i time : Int} (h : s.idle.getLast? = some i) : allocS s time = (takeS s i time, some (hdlOf i (gnS s i))) := by
  unfold allocS; rw [h]; rfl
theorem allocS_none {time : Int} (h : s.idle.getLast? = none) : allocS s time = (s, none) := by
  unfold allocS; rw [h]
theorem take_q (s : Sto) (i time : Int) : (takeS s i time).q = s.q := by unfold takeS; rw [setW_q]
theorem take_mus (s : Sto) (i time : Int) : (takeS s i time).mus = s.mus := by unfold takeS; rw [setW_mus]
theorem take_len (s : Sto) (i time : Int) : (takeS s i time).slots.length = s.slots.length := by unfold takeS; rw [setW_slots]; simp
theorem take_st (h : Slots s own K) {i time j : Int} (hi : 0 ≤ i) (hl : i < s.slots.length) (hj : 0 ≤ j) : stS (takeS s i time) j = if i = j then 1 else stS s j := by
  unfold takeS
  rw [st_setW (by show s.words.length = (s.slots.set _ _).length + 1; rw [List.length_set]; exact h.wl) hi (by show i < ((s.slots.set _ _).length : Int); rw [List.length_set]; exact hl) hj, st_word (by decide) (by decide)]
  rfl
theorem take_gn (h : Slots s own K) {i time j : Int} (hi : 0 ≤ i) (hl : i < s.slots.length) (hj : 0 ≤ j) : gnS (takeS s i time) j = gnS s j := by
  unfold takeS
  rw [gn_setW (by show s.words.length = (s.slots.set _ _).length + 1; rw [List.length_set]; exact h.wl) hi (by show i < ((s.slots.set _ _).length : Int); rw [List.length_set]; exact hl) hj, gen_word (by decide) (by decide)]
  split
  · rename_i e; subst e; rfl
  · rfl
theorem take_item {i time j : Int} (hi : 0 ≤ i) (hj : 0 ≤ j) (hne : i ≠ j) : itemS (takeS s i time) j = itemS s j := by
  unfold takeS
  rw [itemS_setW]
  unfold itemS
  show It.mk ((s.slots.set i.toNat _)[j.toNat]?.getD (0, 0)).1 ((s.slots.set i.toNat _)[j.toNat]?.getD (0, 0)).2 j = _
  rw [List.getElem?_set_ne (by omega)]
theorem take_self {i time : Int} (hi : 0 ≤ i) (hl : i < s.slots.length) : itemS (takeS s i time) i = ⟨time, s.next, i⟩ := by
  unfold takeS
  rw [itemS_setW]
  unfold itemS
  show It.mk ((s.slots.set i.toNat _)[i.toNat]?.getD (0, 0)).1 ((s.slots.set i.toNat _)[i.toNat]?.getD (0, 0)).2 i = _
  rw [List.getElem?_set_self (by omega)]; rfl
theorem last_split {i : Int} (h : s.idle.getLast? = some i) : s.idle = s.idle.dropLast ++ [i] := by
  have hne : s.idle ≠ [] := by intro e; rw [e] at h; cases h
  rw [List.getLast?_eq_some_getLast hne, Option.some.injEq] at h
  rw [← h]; exact (List.dropLast_concat_getLast hne).symm
theorem Slots.take (h : Slots s own K) {i time : Int} (hl : s.idle.getLast? = some i) (ht : TimeOk time) : Slots (takeS s i time) (i :: own) (K + 1) := by
  have hsp := last_split hl
  have hi : i ∈ s.idle := by rw [hsp]; simp
  have hr := h.mem (.inl hi)
  have hnd := h.nodup
  rw [hsp] at hnd
  have hidne : ∀ j ∈ s.idle.dropLast, i ≠ j := fun j hj e => by
    subst e
    rw [List.append_assoc, List.append_assoc, List.nodup_append] at hnd
    exact hnd.2.2 i hj i (by simp) rfl
  have hqne : ∀ x ∈ allL s.q, i ≠ x.slot := fun x hx e => by
    rw [List.append_assoc, List.nodup_append] at hnd
    exact hnd.2.2 i (by simp) x.slot (List.mem_append_left _ (List.mem_map_of_mem hx)) e
  have hone : ∀ j ∈ own, i ≠ j := fun j hj e => by
    rw [List.append_assoc, List.nodup_append] at hnd
    exact hnd.2.2 i (by simp) j (List.mem_append_right _ hj) e
  have hgn := h.gn_bounds hr.1
  have hst : ∀ j, 0 ≤ j → stS (takeS s i time) j = if i = j then 1 else stS s j := fun j hj => take_st h hr.1 hr.2 hj
  refine ⟨?_, by rw [take_mus]; exact h.ml, by rw [take_len]; exact h.sl, fun j hj => ?_, ?_, by rw [take_q]; exact h.q, ?_, fun j hj => ?_, fun x hx => ?_, fun j hj => ?_, fun y hy => ?_, fun a b ha hb h1 h2 he => ?_, fun a ha h1 => ?_⟩
  · rw [take_len]; unfold takeS; rw [setW_wl]; exact h.wl
  · unfold takeS
    rcases wordS_setW_le (s := { s with idle := s.idle.dropLast, slots := s.slots.set i.toNat (time, s.next), next := s.next + 1 }) (i := 1 + i) (v := wordOf (genOf (wordS s (1 + i))) 1) (j := 1 + j) (by omega) with e | e
    · rw [e]; unfold wordOf; unfold gnS at hgn; omega
    · rw [e]
      have := h.wd j hj
      exact ⟨this.1, by have := this.2; show wordS s (1 + j) ≤ _; omega⟩
  · have := h.nx
    unfold takeS; rw [setW_next]
    exact ⟨by show 0 ≤ s.next + 1; omega, by show s.next + 1 ≤ K + 1; omega⟩
  · rw [take_len, take_q]
    have e : (takeS s i time).idle = s.idle.dropLast := by unfold takeS; rw [setW_idle]
    rw [e]
    refine List.Perm.trans ?_ h.perm
    rw [hsp]
    simp only [List.append_assoc, List.dropLast_concat, List.singleton_append]
    refine List.Perm.append_left _ ?_
    exact List.perm_middle
  · have e : (takeS s i time).idle = s.idle.dropLast := by unfold takeS; rw [setW_idle]
    rw [e] at hj
    have hj2 : j ∈ s.idle := List.dropLast_subset _ hj
    rw [hst j (h.mem (.inl hj2)).1, if_neg (hidne j hj)]
    exact h.idle j hj2
  · rw [take_q] at hx
    have hxr := h.range x hx
    rw [take_item hr.1 hxr.1 (hqne x hx), hst _ hxr.1, if_neg (hqne x hx)]
    exact h.qit x hx
  · rcases List.mem_cons.1 hj with rfl | hj
    · rw [hst _ hr.1, if_pos rfl]; decide
    · rw [hst j (h.mem (.inr (.inr hj))).1, if_neg (hone j hj)]
      exact h.own j hj
  · unfold takeS at hy
    rw [setW_slots] at hy
    rcases List.mem_or_eq_of_mem_set hy with e | e
    · exact h.times y e
    · rw [e]; exact ht
  · rw [take_len] at ha hb
    rw [hst _ (by omega)] at h1 h2
    by_cases hai : i = a
    · by_cases hbi : i = b
      · omega
      · rw [← hai, take_self hr.1 hr.2, take_item hr.1 (by omega) hbi] at he
        rw [if_neg hbi] at h2
        have := h.seqlt b hb h2
        have he : s.next = (itemS s b).seq := he
        omega
    · by_cases hbi : i = b
      · rw [← hbi, take_self hr.1 hr.2, take_item hr.1 (by omega) hai] at he
        rw [if_neg hai] at h1
        have := h.seqlt a ha h1
        have he : (itemS s a).seq = s.next := he
        omega
      · rw [take_item hr.1 (by omega) hai, take_item hr.1 (by omega) hbi] at he
        rw [if_neg hai] at h1
        rw [if_neg hbi] at h2
        exact h.seqs a b ha hb h1 h2 he
  · rw [take_len] at ha
    have en : (takeS s i time).next = s.next + 1 := by unfold takeS; rw [setW_next]
    rw [en]
    rw [hst _ (by omega)] at h1
    by_cases hai : i = a
    · rw [← hai, take_self hr.1 hr.2]; show s.next < s.next + 1; omega
    · rw [take_item hr.1 (by omega) hai]
      rw [if_neg hai] at h1
      have := h.seqlt a ha h1
      omega
end PQ
namespace PQ
variable {s s' : Sto} {own : List Int} {K : Int}
theorem replS_st (s : Sto) (l : Ld) {j : Int} (hj : 0 ≤ j) : stS (replS s l) j = stS s j := by unfold stS; rw [replS_word s l hj]
theorem replS_gn (s : Sto) (l : Ld) {j : Int} (hj : 0 ≤ j) : gnS (replS s l) j = gnS s j := by unfold gnS; rw [replS_word s l hj]
theorem itemS_repl (s : Sto) (l : Ld) (j : Int) : itemS (replS s l) j = itemS s j := by unfold itemS; rw [replS_slots]
/-- The queue is replaced by one with the same items. -/
theorem Slots.repl (h : Slots s own K) {l : Ld} (hl : LdOk l) {out : List Int} (hp : ((allL l).map It.slot ++ out).Perm ((allL s.q).map It.slot)) (hs : ∀ x ∈ allL l, x ∈ allL s.q) : Slots (replS s l) (out ++ own) K where
  wl := by rw [replS_wl, replS_slots]; exact h.wl
  ml := by rw [replS_mus]; exact h.ml
  sl := by rw [replS_slots]; exact h.sl
  wd := fun j hj => by rw [replS_word s l hj]; exact h.wd j hj
  nx := by rw [replS_next]; exact h.nx
  q := by rw [replS_q]; exact hl
  perm := by
    rw [replS_idle, replS_q, replS_slots]
    refine List.Perm.trans ?_ h.perm
    rw [List.append_assoc, ← List.append_assoc ((allL l).map It.slot), List.append_assoc s.idle]
    exact List.Perm.append_left _ (List.Perm.append_right _ hp)
  idle := fun j hj => by
    rw [replS_idle] at hj
    rw [replS_st s l (h.mem (.inl hj)).1]; exact h.idle j hj
  qit := fun x hx => by
    rw [replS_q] at hx
    have hx := hs x hx
    rw [itemS_repl, replS_st s l (h.range x hx).1]; exact h.qit x hx
  own := fun j hj => by
    rcases List.mem_append.1 hj with hj | hj
    · have hm : j ∈ (allL s.q).map It.slot := hp.mem_iff.1 (List.mem_append_right _ hj)
      rw [replS_st s l (h.mem (.inr (.inl hm))).1]
      exact h.live (.inl hm)
    · rw [replS_st s l (h.mem (.inr (.inr hj))).1]; exact h.own j hj
  times := by rw [replS_slots]; exact h.times
  seqs := fun a b ha hb h1 h2 he => by
    rw [replS_slots] at ha hb
    rw [itemS_repl, itemS_repl] at he
    rw [replS_st s l (by omega)] at h1 h2
    exact h.seqs a b ha hb h1 h2 he
  seqlt := fun a ha h1 => by
    rw [replS_slots] at ha
    rw [itemS_repl, replS_next]
    rw [replS_st s l (by omega)] at h1
    exact h.seqlt a ha h1
theorem Slots.peek (h : Slots s own K) : Slots (peekS s).1 own K := by
  have hp := (peekL_ok h.q).1
  exact h.repl (out := []) hp.ok (by rw [List.append_nil]; exact hp.perm.map _) (fun x hx => hp.perm.mem_iff.1 hx)
theorem pop_perm (l : Ld) {x : It} (hx : (peekL l).bot.head? = some x) : (allL (peekL l)).Perm (x :: allL (popL l)) := by
  have e : (peekL l).bot = x :: (peekL l).bot.drop 1 := by
    cases hb : (peekL l).bot with
    | nil => rw [hb] at hx; cases hx
    | cons y r => rw [hb] at hx; cases hx; rfl
  have e1 : allL (peekL l) = (peekL l).top ++ rungsIts (peekL l).rungs ++ (x :: (peekL l).bot.drop 1) := by rw [allL_eq, ← e]
  have e2 : allL (popL l) = (peekL l).top ++ rungsIts (peekL l).rungs ++ (peekL l).bot.drop 1 := by rw [allL_eq]; rfl
  rw [e1, e2]
  exact List.perm_middle
/-- The first item is dropped. -/
theorem Slots.drop (h : Slots s own K) {x : It} (hx : (peekL s.q).bot.head? = some x) : Slots (dropS s) (x.slot :: own) K := by
  have hp := (peekL_ok h.q).1
  have h1 := (pop_perm s.q hx).symm.trans hp.perm
  refine h.repl (out := [x.slot]) (popL_ok h.q) ?_ (fun y hy => h1.mem_iff.1 (.tail _ hy))
  have h2 := h1.map It.slot
  rw [List.map_cons] at h2
  exact (List.perm_append_singleton _ _).trans h2
theorem repl_setW (s : Sto) (l : Ld) {i v : Int} (hi : 0 ≤ i) : replS (setW s (1 + i) v) l = setW (replS s l) (1 + i) v := by
  unfold replS
  rw [setW_q]
  split
  · rw [setW_eq (s := setW s (1 + i) v) (by omega), setW_eq (s := s) (i := 1 + i) (by omega), setW_eq (s := s) (i := 0) (by omega), setW_eq (i := 1 + i) (by omega)]
    show Sto.mk _ _ _ _ _ _ = Sto.mk _ _ _ _ _ _
    congr 1
    exact List.set_comm _ _ (by omega)
  · rw [setW_eq (s := s) (by omega), setW_eq (i := 1 + i) (by omega)]
/-- The first item is claimed and dropped. -/
theorem Slots.claim (h : Slots s own K) {x : It} (hx : (peekL s.q).bot.head? = some x) {v : Int} (hv : 0 ≤ v ∧ v ≤ 4 * K + 3) (hn : stOf v ≠ 0) : Slots (dropS (setW s (1 + x.slot) v)) (x.slot :: own) K := by
  have hp := (peekL_ok h.q).1
  have hm : x ∈ allL s.q := hp.perm.mem_iff.1 ((pop_perm s.q hx).mem_iff.2 (.head _))
  have hr := h.range x hm
  have e : dropS (setW s (1 + x.slot) v) = setW (dropS s) (1 + x.slot) v := by
    unfold dropS; rw [setW_q]; exact repl_setW s _ hr.1
  rw [e]
  have h2 := h.drop hx
  have hl : x.slot < (dropS s).slots.length := by unfold dropS; rw [replS_slots]; exact hr.2
  refine h2.word hr.1 hl hv (h2.own _ (.head _)) hn (fun hq => ?_)
  have hnd := h2.nodup
  rw [List.nodup_append] at hnd
  exact absurd rfl (hnd.2.2 x.slot (List.mem_append_right _ hq) x.slot (.head _))
/-- A slot is freed. -/
theorem Slots.free {i : Int} (h : Slots s (i :: own) K) : Slots (freeS s i) own (K + 1) := by
  have hr := h.mem (.inr (.inr (List.mem_cons_self ..)))
  have hgn := h.gn_bounds hr.1
  have hnd := h.nodup
  have hlv : stS s i ≠ 0 := h.own i (List.mem_cons_self ..)
  have hidne : ∀ j ∈ s.idle, i ≠ j := fun j hj e => hlv (by rw [e]; exact h.idle j hj)
  rw [List.nodup_append, List.nodup_cons] at hnd
  have hqne : ∀ x ∈ allL s.q, i ≠ x.slot := fun x hx e => hnd.2.2 x.slot (List.mem_append_right _ (List.mem_map_of_mem hx)) i (.head _) e.symm
  have hone : ∀ j ∈ own, i ≠ j := fun j hj e => hnd.2.1.1 (by rw [e]; exact hj)
  obtain ⟨v, hv⟩ : ∃ v, v = wordOf (genOf (wordS s (1 + i)) + 1) 0 := ⟨_, rfl⟩
  have hsv : stOf v = 0 := by rw [hv]; exact st_word (by decide) (by decide)
  have hst : ∀ j, 0 ≤ j → stS (freeS s i) j = if i = j then 0 else stS s j := fun j hj => by
    have := st_setW (v := v) h.wl hr.1 hr.2 hj
    rw [hsv] at this
    rw [← this, hv]; rfl
  have hsl : (freeS s i).slots = s.slots.set i.toNat (0, 0) := rfl
  have hq : (freeS s i).q = s.q := by show (setW s (1 + i) _).q = s.q; rw [setW_q]
  have hln : (freeS s i).slots.length = s.slots.length := by rw [hsl, List.length_set]
  have hit : ∀ j, 0 ≤ j → i ≠ j → itemS (freeS s i) j = itemS s j := fun j hj hne => by
    unfold itemS
    rw [hsl, List.getElem?_set_ne (by omega)]
  refine ⟨?_, ?_, by rw [hln]; exact h.sl, fun j hj => ?_, ?_, by rw [hq]; exact h.q, ?_, fun j hj => ?_, fun x hx => ?_, fun j hj => ?_, fun y hy => ?_, fun a b ha hb h1 h2 he => ?_, fun a ha h1 => ?_⟩
  · rw [hln]; show (setW s (1 + i) _).words.length = _; rw [setW_wl]; exact h.wl
  · show (setW s (1 + i) _).mus.length = 4; rw [setW_mus]; exact h.ml
  · have e : wordS (freeS s i) (1 + j) = wordS (setW s (1 + i) v) (1 + j) := by rw [hv]; rfl
    rw [e]
    rcases wordS_setW_le (s := s) (i := 1 + i) (v := v) (j := 1 + j) (by omega) with e | e
    · rw [e, hv]; unfold wordOf; unfold gnS at hgn; omega
    · rw [e]; have := h.wd j hj; omega
  · have := h.nx
    have e : (freeS s i).next = s.next := by show (setW s (1 + i) _).next = s.next; rw [setW_next]
    rw [e]; omega
  · rw [hln, hq]
    refine List.Perm.trans ?_ h.perm
    show (s.idle ++ [i] ++ (allL s.q).map It.slot ++ own).Perm _
    simp only [List.append_assoc, List.singleton_append]
    refine List.Perm.append_left _ ?_
    exact List.perm_middle.symm
  · have hj : j ∈ s.idle ++ [i] := hj
    rcases List.mem_append.1 hj with hj | hj
    · rw [hst j (h.mem (.inl hj)).1, if_neg (hidne j hj)]; exact h.idle j hj
    · rw [List.mem_singleton] at hj
      rw [hj, hst i hr.1, if_pos rfl]
  · rw [hq] at hx
    have hxr := h.range x hx
    rw [hit _ hxr.1 (hqne x hx), hst _ hxr.1, if_neg (hqne x hx)]
    exact h.qit x hx
  · rw [hst j (h.mem (.inr (.inr (.tail _ hj)))).1, if_neg (hone j hj)]
    exact h.own j (.tail _ hj)
  · rw [hsl] at hy
    rcases List.mem_or_eq_of_mem_set hy with e | e
    · exact h.times y e
    · rw [e]; unfold TimeOk; decide
  · rw [hln] at ha hb
    have na : i ≠ (a : Int) := fun e => h1 (by rw [hst _ (by omega), if_pos e])
    have nb : i ≠ (b : Int) := fun e => h2 (by rw [hst _ (by omega), if_pos e])
    rw [hst _ (by omega), if_neg na] at h1
    rw [hst _ (by omega), if_neg nb] at h2
    rw [hit _ (by omega) na, hit _ (by omega) nb] at he
    exact h.seqs a b ha hb h1 h2 he
  · rw [hln] at ha
    have na : i ≠ (a : Int) := fun e => h1 (by rw [hst _ (by omega), if_pos e])
    rw [hst _ (by omega), if_neg na] at h1
    have e : (freeS s i).next = s.next := by show (setW s (1 + i) _).next = s.next; rw [setW_next]
    rw [hit _ (by omega) na, e]
    exact h.seqlt a ha h1
end PQ
namespace PQ
variable {n : Nat} {s s' : Sto} {run : Nat → Option OpS} {K : Int}
theorem slot_hdl {i g : Int} (h0 : 0 ≤ i) (h1 : i < 64) (g0 : 0 ≤ g) (g1 : g ≤ 1000000) : slotOf (hdlOf i g) = i ∧ hgenOf (hdlOf i g) = g := by
  have hv : validH (hdlOf i g) = true := by unfold validH hdlOf; simp; omega
  unfold slotOf hgenOf
  rw [if_pos hv, if_pos hv]
  unfold hdlOf; omega
/-- A batch that claims holds all mutexes. -/
theorem BatOk.claims {o : BatOp} (h : BatOk s o) (hc : o.claim = true) : o.scanned = false ∧ o.held = 4 := by
  have h1 : o.scanned = false := by
    cases hs : o.scanned with
    | false => rfl
    | true => have := (h.done hs).1; rw [hc] at this; cases this
  refine ⟨h1, ?_⟩
  have h2 := h.held
  rcases Nat.lt_or_ge o.held 4 with h3 | h3
  · have := (h.low h1 h3).2.2; rw [hc] at this; cases this
  · omega
theorem locks_bat {o : BatOp} {k : Nat} : (k : Int) ∈ locksO (some (.bat o)) ↔ k < o.held := by
  show (k : Int) ∈ (List.range o.held).map (fun (n : Nat) => (n : Int)) ↔ _
  rw [List.mem_map]
  constructor
  · rintro ⟨a, ha, e⟩; rw [List.mem_range] at ha; omega
  · intro h; exact ⟨k, List.mem_range.2 h, rfl⟩
/-- Where a call holds a mutex, no other call claims. -/
theorem MInv.noclaim (h : MInv n s run K) {p k : Nat} (hp : p < n) (hk : k < 4) (hh : (k : Int) ∈ locksO (run p)) {q : Nat} (hq : q < n) (hne : q ≠ p) : ∀ o, run q = some (.bat o) → o.claim = false := by
  intro o ho
  cases hc : o.claim with
  | false => rfl
  | true =>
    have hb : BatOk s o := by have := h.ops q hq; rw [ho] at this; exact this
    have h4 := (hb.claims hc).2
    exact absurd (h.excl hq hp hk (by rw [ho]; exact locks_bat.2 (by omega)) hh) hne
theorem own_leave {o : InsOp} {x : Int} (hs : o.st = some .leave ∨ o.st = some .put) (hx : o.h = some x) : ownO (some (.ins o)) = [slotOf x] := by
  show (if o.st = some .leave ∨ o.st = some .put then (match o.h with | some x => [slotOf x] | none => []) else []) = _
  rw [if_pos hs, hx]
theorem own_none {o : InsOp} (hx : o.h = none) : ownO (some (.ins o)) = [] := by
  show (if o.st = some .leave ∨ o.st = some .put then (match o.h with | some x => [slotOf x] | none => []) else []) = _
  rw [hx]; split <;> rfl
theorem own_rel {o : InsOp} (hs : ¬ (o.st = some .leave ∨ o.st = some .put)) : ownO (some (.ins o)) = [] := by
  show (if o.st = some .leave ∨ o.st = some .put then (match o.h with | some x => [slotOf x] | none => []) else []) = _
  rw [if_neg hs]
theorem held_cases {held : List Int} {st : InsSt} (h : heldOk held st) : held = [] ∨ held = [0] ∨ held = [1] ∨ held = [1, 2] := by
  cases st <;> simp only [heldOk] at h <;> first | exact .inl h | exact .inr (.inl h) | exact .inr (.inr (.inl h)) | exact .inr h
theorem no3 {held : List Int} {st : InsSt} (h : heldOk held st) : (3 : Int) ∉ held := by
  rcases held_cases h with e | e | e | e <;> rw [e] <;> decide
theorem leave_step (h : MInv n s run K) {p : Nat} (hp : p < n) {o : InsOp} (hr : run p = some (.ins o)) (hst : o.st = some .leave) : MInv n (stepI s p o).1 (updP run p (opI (stepI s p o))) (K + 1) := by
  have ho : InsOk s o := by have := h.ops p hp; rw [hr] at this; exact this
  obtain ⟨st, hst', hheld⟩ := ho.st
  rw [hst] at hst'; cases hst'
  have e : nextI s p { o with eff := false } .leave = (unlockS s p (3 : Nat), { o with eff := false, st := some .put }) := rfl
  rw [stepI_go hst e rfl, opI_go]
  have hl3 : ((3 : Nat) : Int) ∈ locksO (run p) := by rw [hr, locks_ins, if_pos (.inr hst)]; simp
  have hpo : pastI o.st = true := by rw [hst]; rfl
  refine h.rel hp (by decide) hl3 ?_ ?_ ?_
  · rw [hr]
    cases hx : o.h with
    | none => rw [own_none hx]; exact own_none rfl
    | some x => rw [own_leave (.inl hst) hx]; exact own_leave (.inr rfl) rfl
  · exact ⟨⟨.put, rfl, hheld⟩, fun hc => Bool.noConfusion (show true = false from hc), fun _ => ho.early (by rw [hst]; intro h; cases h), ho.res, fun _ => ho.past hpo, fun _ x hx => ho.own (.inl hst) x hx⟩
  · intro m
    have el : locksO (some (.ins { o with eff := false, st := some .put })) = o.held := by
      show o.held ++ (if some InsSt.put = some .alloc ∨ some InsSt.put = some .leave then [3] else []) = o.held
      rw [if_neg (by rintro (e | e) <;> cases e), List.append_nil]
    have er : locksO (run p) = o.held ++ [3] := by rw [hr, locks_ins, if_pos (.inr hst)]
    rw [el, er]
    have h3 := no3 hheld
    rw [List.mem_append, List.mem_singleton]
    constructor
    · intro hm; exact ⟨fun e => h3 (by rw [e] at hm; exact hm), .inl hm⟩
    · rintro ⟨hm, hx | hx⟩
      · exact hx
      · exact absurd (by omega) hm
/-- The last mutex is let go; the item may have been put. -/
theorem rel_step (h : MInv n s run K) {p : Nat} (hp : p < n) {o : InsOp} (hr : run p = some (.ins o)) {st : InsSt} (hst : o.st = some st) (hst2 : st = .put ∨ st = .release) {s1 : Sto} (hm1 : s1.mus = s.mus)
    (hn : nextI s p { o with eff := false } st = releaseI s1 p { o with eff := false })
    (hS : ∀ rest, Slots s (ownO (run p) ++ rest) K → Slots s1 rest (K + 1))
    (hk : ∀ q, q < n → q ≠ p → OpOk s (run q) → OpOk s1 (run q)) (hsl : s1.slots.length = s.slots.length) :
    MInv n (stepI s p o).1 (updP run p (opI (stepI s p o))) (K + 1) := by
  have ho : InsOk s o := by have := h.ops p hp; rw [hr] at this; exact this
  obtain ⟨st', hst', hheld⟩ := ho.st
  rw [hst] at hst'; cases hst'
  have hlk : locksO (run p) = o.held := by
    rw [hr, locks_ins, if_neg (by rw [hst]; rcases hst2 with e | e <;> (rw [e]; rintro (x | x) <;> cases x)), List.append_nil]
  have hsplit : ∃ (hd : List Int) (k : Nat), o.held = hd ++ [(k : Int)] ∧ k < 4 ∧ (hd = [] ∨ hd = [1] ∧ k = 2) := by
    rcases hst2 with e | e <;> subst e <;> simp only [heldOk] at hheld
    · rcases hheld with e | e | e
      · exact ⟨[], 0, e, by decide, .inl rfl⟩
      · exact ⟨[], 1, e, by decide, .inl rfl⟩
      · exact ⟨[1], 2, e, by decide, .inr ⟨rfl, rfl⟩⟩
    · exact ⟨[], 1, hheld, by decide, .inl rfl⟩
  obtain ⟨hd, k, hh, hk4, hhd⟩ := hsplit
  have hkl : (k : Int) ∈ locksO (run p) := by rw [hlk, hh]; simp
  have he : releaseI s1 p { o with eff := false } = (unlockS s1 p k, { o with eff := false, held := hd, st := if hd.isEmpty then none else some .release }) := by
    unfold releaseI unlockLast
    simp only [hh, List.getLast?_append, List.getLast?_singleton, Option.some_or, Option.getD_some, List.dropLast_concat]
  have hun : unlockS s1 p k = { s1 with mus := s.mus.set k none } := by
    have hf : s.mus[k]? = some (some (p : Int)) := (h.lock k hk4 p).2 ⟨p, hp, rfl, hkl⟩
    unfold unlockS
    rw [if_neg (by omega), Int.toNat_natCast, hm1, if_pos hf]
  have hL : ∀ op, (∀ m : Nat, (m : Int) ∈ locksO op ↔ m ≠ k ∧ (m : Int) ∈ locksO (run p)) → ownO op = [] → OpOk { s1 with mus := s.mus.set k none } op → MInv n { s1 with mus := s.mus.set k none } (updP run p op) (K + 1) := by
    intro op hl hown hO
    have hs1 : ∀ q, q < n → q ≠ p → OpOk s (run q) → OpOk { s1 with mus := s.mus.set k none } (run q) := fun q hq hne hok => by
      have h2 := hk q hq hne hok
      obtain ⟨rest, hr1, _⟩ := flatMap_upd ownO run hp
      exact h2.mus (hS rest (h.slots.own_perm hr1)) _
    refine h.step hp (fun rest hS' _ => ?_) hO hs1 (lock_rel (s' := { s1 with mus := s.mus.set k none }) h hp hk4 hkl ?_ hl)
    · rw [hown]
      exact (hS rest hS').mus (by rw [List.length_set]; exact h.slots.ml)
    · have := unlockS_yes h hp hk4 hkl
      rw [this]
  rw [hun] at he
  rcases hhd with rfl | ⟨rfl, rfl⟩
  · rw [stepI_end hst (hn.trans he) rfl, opI_end]
    refine hL none (fun m => ?_) rfl trivial
    rw [hlk, hh]
    simp only [List.nil_append, List.mem_singleton]
    constructor
    · intro hx; cases hx
    · rintro ⟨a, b⟩; exact absurd (by omega) a
  · rw [stepI_go (st' := .release) hst (hn.trans he) rfl, opI_go]
    have hpo : pastI o.st = true := by rw [hst]; rcases hst2 with e | e <;> (rw [e]; rfl)
    refine hL _ (fun m => ?_) (own_rel (by rintro (e | e) <;> cases e)) ⟨⟨.release, rfl, rfl⟩, fun hc => Bool.noConfusion (show true = false from hc), fun _ => ho.early (by rw [hst]; rcases hst2 with e | e <;> (rw [e]; intro h; cases h)), ho.res, fun _ => ho.past hpo, fun hc => ?_⟩
    · rw [hlk, hh, locks_ins]
      show (m : Int) ∈ [1] ++ (if (some InsSt.release = some .alloc ∨ some InsSt.release = some .leave) then [3] else []) ↔ _
      rw [if_neg (by rintro (e | e) <;> cases e)]
      simp only [List.append_nil, List.cons_append, List.nil_append, List.mem_cons, List.not_mem_nil, or_false]
      omega
    · rcases hc with e | e <;> cases e
end PQ
namespace PQ
variable {n : Nat} {s s' : Sto} {run : Nat → Option OpS} {K : Int}
theorem ins_step (h : MInv n s run K) (hK : K ≤ 999999) {p : Nat} (hp : p < n) {o : InsOp} (hr : run p = some (.ins o)) : MInv n (stepI s p o).1 (updP run p (opI (stepI s p o))) (K + 1) := by
  have ho : InsOk s o := by have := h.ops p hp; rw [hr] at this; exact this
  obtain ⟨st, hst, hheld⟩ := ho.st
  have hea : st ≠ .start → 0 ≤ o.time ∧ o.time ≤ 1152921504606846976 := fun hne => ho.early (by rw [hst]; intro e; exact hne (Option.some.inj e))
  have hgo : ∀ st' : InsSt, st ≠ .start → pastI (some st) = false → pastI (some st') = false → heldOk o.held st' → nextI s p { o with eff := false } st = (s, { o with eff := false, st := some st' }) →
      ((some st = some InsSt.alloc ∨ some st = some InsSt.leave) ↔ (some st' = some InsSt.alloc ∨ some st' = some InsSt.leave)) → MInv n (stepI s p o).1 (updP run p (opI (stepI s p o))) (K + 1) :=
    fun st' h1 h2 h3 h4 h5 h6 => go_step h hp hr hst h5 h2 h3 (hea h1) h4 h6
  have nn : ∀ a b : InsSt, a ≠ .alloc → a ≠ .leave → b ≠ .alloc → b ≠ .leave → ((some a = some InsSt.alloc ∨ some a = some InsSt.leave) ↔ (some b = some InsSt.alloc ∨ some b = some InsSt.leave)) := fun a b h1 h2 h3 h4 => by
    constructor
    · rintro (e | e)
      · exact absurd (Option.some.inj e) h1
      · exact absurd (Option.some.inj e) h2
    · rintro (e | e)
      · exact absurd (Option.some.inj e) h3
      · exact absurd (Option.some.inj e) h4
  cases st with
  | start =>
    have hpo : pastI o.st = false := by rw [hst]; rfl
    have hlk : locksO (run p) = [] := by
      rw [hr, locks_ins, if_neg (by rw [hst]; rintro (e | e) <;> cases e), List.append_nil]; exact hheld
    by_cases hb : o.time < 0 ∨ 1152921504606846976 < o.time
    · have e : nextI s p { o with eff := false } .start = (s, { o with st := none, eff := true, pend := { o.pend with err := 1 } }) := if_pos hb
      rw [stepI_end hst e rfl, opI_end]
      refine h.same hp (by rw [hr, own_early hpo]; rfl) trivial (fun m => ?_)
      rw [hlk]; exact Iff.rfl
    · have ht : 0 ≤ o.time ∧ o.time ≤ 1152921504606846976 := by omega
      by_cases hf : farS s o.time = true
      · have e : nextI s p { o with eff := false } .start = (s, { o with eff := false, st := some .tryTop }) := (if_neg hb).trans (if_pos hf)
        exact go_step h hp hr hst e rfl rfl ht hheld (nn _ _ (by decide) (by decide) (by decide) (by decide))
      · have e : nextI s p { o with eff := false } .start = (s, { o with eff := false, st := some .tryRungs }) := (if_neg hb).trans (if_neg hf)
        exact go_step h hp hr hst e rfl rfl ht hheld (nn _ _ (by decide) (by decide) (by decide) (by decide))
  | tryTop =>
    refine try_step h hp hr hst (k := 0) (st' := .confirm) (held' := [0]) (by decide) rfl ?_ rfl rfl (hea (by decide)) rfl hheld (fun m => ?_)
    · rw [if_neg (by decide), show o.held = [] from hheld]; rfl
    · rw [show o.held = [] from hheld]
      rw [if_neg (by rintro (e | e) <;> cases e), if_neg (by rintro (e | e) <;> cases e)]
      simp
  | confirm =>
    by_cases hf : farS s o.time = true
    · refine hgo .tryArena (by decide) rfl rfl (.inl hheld) ?_ (nn _ _ (by decide) (by decide) (by decide) (by decide))
      show (s, { o with eff := false, st := if farS s o.time = true then some InsSt.tryArena else some .undo }) = _
      rw [if_pos hf]
    · refine hgo .undo (by decide) rfl rfl hheld ?_ (nn _ _ (by decide) (by decide) (by decide) (by decide))
      show (s, { o with eff := false, st := if farS s o.time = true then some InsSt.tryArena else some .undo }) = _
      rw [if_neg hf]
  | undo =>
    have hh : o.held = [0] := hheld
    have hlk : locksO (run p) = [0] := by
      rw [hr, locks_ins, if_neg (by rw [hst]; rintro (e | e) <;> cases e), List.append_nil]; exact hh
    have e : nextI s p { o with eff := false } .undo = (unlockS s p (0 : Nat), { o with eff := false, st := some .tryRungs, held := [] }) := by
      show (unlockS s p (o.held.getLast?.getD 0), { o with eff := false, held := o.held.dropLast, st := some InsSt.tryRungs }) = _
      rw [hh]; rfl
    have hpo : pastI o.st = false := by rw [hst]; rfl
    rw [stepI_go hst e rfl, opI_go]
    refine h.rel hp (by decide) (by rw [hlk]; exact List.mem_singleton.2 rfl) (by rw [hr, own_early hpo]; exact own_early rfl) (ho.go hpo (hea (by decide)) rfl rfl) (fun m => ?_)
    rw [hlk]
    show (m : Int) ∈ [] ++ (if some InsSt.tryRungs = some .alloc ∨ some InsSt.tryRungs = some .leave then [3] else []) ↔ _
    rw [if_neg (by rintro (e | e) <;> cases e)]
    simp only [List.append_nil, List.mem_singleton, List.not_mem_nil, false_iff, not_and]
    omega
  | tryRungs =>
    refine try_step h hp hr hst (k := 1) (st' := .choose) (held' := [1]) (by decide) rfl ?_ rfl rfl (hea (by decide)) rfl hheld (fun m => ?_)
    · rw [if_neg (by decide), show o.held = [] from hheld]; rfl
    · rw [show o.held = [] from hheld]
      rw [if_neg (by rintro (e | e) <;> cases e), if_neg (by rintro (e | e) <;> cases e)]
      simp only [List.append_nil, List.mem_singleton, List.not_mem_nil, or_false]; omega
  | choose =>
    by_cases hf : acceptsS s o.time = true
    · refine hgo .tryArena (by decide) rfl rfl (.inr (.inl hheld)) ?_ (nn _ _ (by decide) (by decide) (by decide) (by decide))
      show (s, { o with eff := false, st := if acceptsS s o.time = true then some InsSt.tryArena else some .tryBot }) = _
      rw [if_pos hf]
    · refine hgo .tryBot (by decide) rfl rfl hheld ?_ (nn _ _ (by decide) (by decide) (by decide) (by decide))
      show (s, { o with eff := false, st := if acceptsS s o.time = true then some InsSt.tryArena else some .tryBot }) = _
      rw [if_neg hf]
  | tryBot =>
    have hh : o.held = [1] := hheld
    refine try_step h hp hr hst (k := 2) (st' := .tryArena) (held' := [1, 2]) (by decide) rfl ?_ rfl rfl (hea (by decide)) (.inr (.inr rfl)) hheld (fun m => ?_)
    · rw [if_neg (by decide), hh]; rfl
    · rw [hh, if_neg (by rintro (e | e) <;> cases e), if_neg (by rintro (e | e) <;> cases e)]
      simp only [List.append_nil, List.mem_cons, List.not_mem_nil, or_false]
      constructor
      · rintro (e | e)
        · exact .inr e
        · exact .inl (by omega)
      · rintro (e | e)
        · exact .inr (by omega)
        · exact .inl e
  | tryArena =>
    refine try_step h hp hr hst (k := 3) (st' := .alloc) (held' := o.held) (by decide) rfl (if_pos rfl) rfl rfl (hea (by decide)) hheld hheld (fun m => ?_)
    rw [if_pos (.inl rfl), if_neg (by rintro (e | e) <;> cases e)]
    simp only [List.append_nil, List.mem_append, List.mem_singleton]
    constructor
    · rintro (e | e)
      · exact .inr e
      · exact .inl (by omega)
    · rintro (e | e)
      · exact .inr (by omega)
      · exact .inl e
  | alloc =>
    have hpo : pastI o.st = false := by rw [hst]; rfl
    obtain ⟨hnh, hnp⟩ := ho.fresh hpo
    have hown : ownO (run p) = [] := by rw [hr]; exact own_early hpo
    have ht := hea (by decide)
    have hlk : ∀ o' : InsOp, o'.st = some .leave → o'.held = o.held → ∀ m : Nat, (m : Int) ∈ locksO (some (.ins o')) ↔ (m : Int) ∈ locksO (run p) := fun o' h1 h2 m => by
      rw [hr, locks_ins, locks_ins, if_pos (.inr h1), if_pos (.inl hst), h2]
    cases hg : s.idle.getLast? with
    | none =>
      have e : nextI s p { o with eff := false } .alloc = (s, { o with st := some .leave, eff := true, pend := { o.pend with err := 10 } }) := by
        show (match (allocS s o.time).2 with
          | some h => ((allocS s o.time).1, { o with eff := true, st := some InsSt.leave, h := some h, pend := { o.pend with rh := h } })
          | none => ((allocS s o.time).1, { o with st := some InsSt.leave, eff := true, pend := { o.pend with err := 10 } })) = _
        rw [allocS_none hg]
      rw [stepI_go hst e rfl, opI_go]
      refine h.same hp (by rw [hown]; exact own_none hnh) ⟨⟨.leave, rfl, hheld⟩, fun hc => Bool.noConfusion (show true = false from hc), fun _ => ht, ho.res, fun _ => ?_, fun _ x hx => ?_⟩ (hlk _ rfl rfl)
      · show { o.pend with err := 10 } = (match o.h with | some x => ({ rh := x } : Res) | none => { err := 10 })
        rw [hnh, hnp]
      · have hx : o.h = some x := hx
        rw [hnh] at hx; cases hx
    | some i =>
      have hi : i ∈ s.idle := by rw [last_split hg]; simp
      have hir := h.slots.mem (.inl hi)
      have hgb := h.slots.gn_bounds hir.1
      have hsl := h.slots.sl
      have hh := slot_hdl (i := i) (g := gnS s i) hir.1 (by omega) hgb.1 (by omega)
      have e : nextI s p { o with eff := false } .alloc = (takeS s i o.time, { o with st := some .leave, eff := true, h := some (hdlOf i (gnS s i)), pend := { o.pend with rh := hdlOf i (gnS s i) } }) := by
        show (match (allocS s o.time).2 with
          | some h => ((allocS s o.time).1, { o with st := some InsSt.leave, eff := true, h := some h, pend := { o.pend with rh := h } })
          | none => ((allocS s o.time).1, { o with st := some InsSt.leave, eff := true, pend := { o.pend with err := 10 } })) = _
        rw [allocS_some hg]
      rw [stepI_go hst e rfl, opI_go]
      refine h.step hp (fun rest hS _ => ?_) ⟨⟨.leave, rfl, hheld⟩, fun hc => Bool.noConfusion (show true = false from hc), fun _ => ht, ho.res, fun _ => ?_, fun _ x hx => ?_⟩ (fun q hq hne hok => ?_) (lock_same h (take_mus s i o.time) (hlk _ rfl rfl))
      · rw [hown] at hS
        have e1 : ownO (some (.ins { o with st := some InsSt.leave, eff := true, h := some (hdlOf i (gnS s i)), pend := { o.pend with rh := hdlOf i (gnS s i) } })) = [i] := by
          rw [own_leave (.inl rfl) (x := hdlOf i (gnS s i)) rfl, hh.1]
        rw [e1]
        exact Slots.take hS hg ht
      · show ({ o.pend with rh := hdlOf i (gnS s i) } : Res) = { rh := hdlOf i (gnS s i) }
        rw [hnp]
      · have hx : some (hdlOf i (gnS s i)) = some x := hx
        cases hx
        rw [hh.1, take_len, take_gn h.slots hir.1 hir.2 hir.1, take_st h.slots hir.1 hir.2 hir.1, if_pos rfl]
        exact ⟨hir.1, hir.2, rfl, .inl rfl⟩
      · have hlive : ∀ j ∈ ownO (run q), i ≠ j := fun j hj e2 => by
          have h5 : j ∈ ownsR n run := List.mem_flatMap.2 ⟨q, List.mem_range.2 hq, hj⟩
          exact h.slots.own j h5 (by rw [← e2]; exact h.slots.idle i hi)
        refine hok.keep (take_len s i o.time) (fun j hj => by rw [take_gn h.slots hir.1 hir.2 hj]; exact Int.le_refl _) (fun j hj => ?_) h.slots.range (.inl ⟨take_q s i o.time, fun j hj _ => take_gn h.slots hir.1 hir.2 hj⟩)
        have h5 : j ∈ ownsR n run := List.mem_flatMap.2 ⟨q, List.mem_range.2 hq, hj⟩
        have hjr := h.slots.mem (.inr (.inr h5))
        rw [take_gn h.slots hir.1 hir.2 hjr.1, take_st h.slots hir.1 hir.2 hjr.1, if_neg (hlive j hj)]
        exact ⟨rfl, id, id⟩
  | leave => exact leave_step h hp hr hst
  | put =>
    have hn : ∀ s1, (match o.h with | some h => putS s (slotOf h) | none => s) = s1 → nextI s p { o with eff := false } .put = releaseI s1 p { o with eff := false } := fun s1 e => by
      show releaseI (match o.h with | some h => putS s (slotOf h) | none => s) p { o with eff := false } = _
      rw [e]
    cases hx : o.h with
    | none =>
      refine rel_step h hp hr hst (.inl rfl) (s1 := s) rfl (hn s (by rw [hx])) (fun rest hS => ?_) (fun q _ _ hq => hq) rfl
      have : ownO (run p) = [] := by rw [hr]; exact own_none hx
      rw [this] at hS
      exact Slots.mono hS (by omega)
    | some x =>
      obtain ⟨h1, h2, h3, h4⟩ := ho.own (.inr hst) x hx
      have hown : ownO (run p) = [slotOf x] := by rw [hr]; exact own_leave (.inr hst) hx
      have hlk : locksO (run p) = o.held := by
        rw [hr, locks_ins, if_neg (by rw [hst]; rintro (e | e) <;> cases e), List.append_nil]
      refine rel_step h hp hr hst (.inl rfl) (s1 := putS s (slotOf x)) rfl (hn _ (by rw [hx])) (fun rest hS => ?_) (fun q hq hne hok => ?_) rfl
      · rw [hown] at hS
        exact (Slots.put hS h4).mono (by omega)
      · have hk : ∃ k : Nat, k < 4 ∧ (k : Int) ∈ locksO (run p) := by
          rw [hlk]
          rcases hheld with e | e | e <;> rw [e]
          · exact ⟨0, by decide, by decide⟩
          · exact ⟨1, by decide, by decide⟩
          · exact ⟨1, by decide, by decide⟩
        obtain ⟨k, hk4, hkl⟩ := hk
        exact hok.keep rfl (fun _ _ => Int.le_refl _) (fun _ _ => ⟨rfl, id, id⟩) h.slots.range (.inr (h.noclaim hp hk4 hkl hq hne))
  | release =>
    refine rel_step h hp hr hst (.inr rfl) (s1 := s) rfl rfl (fun rest hS => ?_) (fun q _ _ hq => hq) rfl
    have : ownO (run p) = [] := by rw [hr]; exact own_rel (by rw [hst]; rintro (e | e) <;> cases e)
    rw [this] at hS
    exact Slots.mono hS (by omega)
end PQ
namespace PQ
variable {n : Nat} {s s' : Sto} {run : Nat → Option OpS} {K : Int}
def opC (q : Sto × CanOp × Bool) : Option OpS := if q.2.2 = true then none else some (.can q.2.1)
theorem hgen_pos {x : Int} (h : 0 ≤ slotOf x) : 0 ≤ hgenOf x ∧ slotOf x < 64 := by
  unfold slotOf at h ⊢
  unfold hgenOf
  split at h
  · rename_i hv
    rw [if_pos hv, if_pos hv]
    unfold validH at hv
    simp at hv
    omega
  · omega
theorem can_none (h : MInv n s run K) {p : Nat} (hp : p < n) {o : CanOp} (hr : run p = some (.can o)) : MInv n s (updP run p none) (K + 1) :=
  h.same hp (by rw [hr]; rfl) trivial (fun m => by rw [hr]; exact Iff.rfl)
theorem can_go (h : MInv n s run K) {p : Nat} (hp : p < n) {o o' : CanOp} (hr : run p = some (.can o)) (ho : CanOk s o') : MInv n s (updP run p (some (.can o'))) (K + 1) :=
  h.same hp (by rw [hr]; rfl) ho (fun m => by rw [hr]; exact Iff.rfl)
/-- A live slot is cancelled. -/
theorem MInv.cancel (h : MInv n s run K) {p : Nat} (hp : p < n) {o : CanOp} (hr : run p = some (.can o)) {i : Int} (hi : 0 ≤ i) (hl : i < s.slots.length) (hs : stS s i = 1) : MInv n (setW s (1 + i) (wordOf (gnS s i) 3)) (updP run p none) (K + 1) := by
  have hgb := h.slots.gn_bounds hi
  have hst : ∀ j, 0 ≤ j → stS (setW s (1 + i) (wordOf (gnS s i) 3)) j = if i = j then 3 else stS s j := fun j hj => by
    rw [st_setW h.slots.wl hi hl hj, st_word (by decide) (by decide)]
  have hgn : ∀ j, 0 ≤ j → gnS (setW s (1 + i) (wordOf (gnS s i) 3)) j = gnS s j := fun j hj => by
    rw [gn_setW h.slots.wl hi hl hj, gen_word (by decide) (by decide)]
    split
    · rename_i e; rw [e]
    · rfl
  refine h.step hp (fun rest hS _ => ?_) trivial (fun q hq hne hok => ?_) (lock_same h (setW_mus s _ _) (fun m => by rw [hr]; exact Iff.rfl))
  · rw [hr] at hS
    have hS : Slots s rest K := hS
    exact (hS.word hi hl (by unfold wordOf; omega) (by rw [hs]; decide) (by rw [st_word (by decide) (by decide)]; decide) (fun _ => .inr (st_word (by decide) (by decide)))).mono (by omega)
  · refine hok.keep (by rw [setW_slots]) (fun j hj => by rw [hgn j hj]; exact Int.le_refl _) (fun j hj => ?_) h.slots.range (.inl ⟨setW_q s _ _, fun j hj _ => hgn j hj⟩)
    have h5 : j ∈ ownsR n run := List.mem_flatMap.2 ⟨q, List.mem_range.2 hq, hj⟩
    have hjr := h.slots.mem (.inr (.inr h5))
    rw [hgn j hjr.1, hst j hjr.1]
    refine ⟨rfl, fun hx => ?_, fun hx => ?_⟩
    · split
      · exact .inr rfl
      · exact hx
    · split
      · exact .inr rfl
      · exact hx
theorem can_step (h : MInv n s run K) {p : Nat} (hp : p < n) {o : CanOp} (hr : run p = some (.can o)) : MInv n (stepC s o).1 (updP run p (opC (stepC s o))) (K + 1) := by
  have ho : CanOk s o := by have := h.ops p hp; rw [hr] at this; exact this
  by_cases hin : slotOf o.handle < 0 ∨ (s.slots.length : Int) ≤ slotOf o.handle
  · have e : stepC s o = (s, { o with ph := 2 }, true) := if_pos hin
    rw [e]; exact can_none h hp hr
  by_cases hph : o.ph = 1
  · obtain ⟨h1, h2, h3, h4⟩ := ho.seen hph
    have e : stepC s o = if (casS s (1 + slotOf o.handle) o.seen (wordOf (genOf o.seen) 3)).2 = true then ((casS s (1 + slotOf o.handle) o.seen (wordOf (genOf o.seen) 3)).1, { o with ph := 2, canc := true }, true) else (s, { o with ph := 0 }, false) := by
      unfold stepC; simp only [if_neg hin, if_pos hph]
    by_cases hc : wordS s (1 + slotOf o.handle) = o.seen
    · have ec : casS s (1 + slotOf o.handle) o.seen (wordOf (genOf o.seen) 3) = (setW s (1 + slotOf o.handle) (wordOf (genOf o.seen) 3), true) := if_pos hc
      rw [ec, if_pos rfl] at e
      rw [e]
      have hg : genOf o.seen = gnS s (slotOf o.handle) := by unfold gnS; rw [hc]
      have hs1 : stS s (slotOf o.handle) = 1 := by unfold stS; rw [hc, h3]; exact st_word (by decide) (by decide)
      rw [hg]
      exact h.cancel hp hr h1 h2 hs1
    · have ec : casS s (1 + slotOf o.handle) o.seen (wordOf (genOf o.seen) 3) = (s, false) := if_neg hc
      rw [ec, if_neg (fun hx => Bool.noConfusion (show false = true from hx))] at e
      rw [e]
      exact can_go h hp hr ⟨.inl rfl, ho.canc, fun hx => by have hx : (0 : Int) = 1 := hx; omega⟩
  · have hp0 : o.ph = 0 := ho.ph.resolve_right hph
    have e : stepC s o = if stale (wordS s (1 + slotOf o.handle)) (hgenOf o.handle) = true then (s, { o with seen := wordS s (1 + slotOf o.handle), ph := 2 }, true)
        else if stOf (wordS s (1 + slotOf o.handle)) = 2 then (s, { o with seen := wordS s (1 + slotOf o.handle) }, decide (o.ph = 2)) else (s, { o with seen := wordS s (1 + slotOf o.handle), ph := 1 }, false) := by
      unfold stepC; simp only [if_neg hin, if_neg hph]
    by_cases hst : stale (wordS s (1 + slotOf o.handle)) (hgenOf o.handle) = true
    · rw [if_pos hst] at e; rw [e]; exact can_none h hp hr
    · rw [if_neg hst] at e
      by_cases h2 : stOf (wordS s (1 + slotOf o.handle)) = 2
      · rw [if_pos h2, decide_eq_false (by rw [hp0]; decide)] at e
        rw [e]
        exact can_go h hp hr ⟨.inl hp0, ho.canc, fun hx => absurd hx hph⟩
      · rw [if_neg h2] at e
        rw [e]
        refine can_go h hp hr ⟨.inr rfl, ho.canc, fun _ => ⟨by show 0 ≤ slotOf o.handle; omega, by show slotOf o.handle < _; omega, ?_, ?_⟩⟩
        · show wordS s (1 + slotOf o.handle) = wordOf (hgenOf o.handle) 1
          unfold stale at hst
          simp only [Bool.or_eq_true, decide_eq_true_eq, not_or, Decidable.not_not] at hst
          obtain ⟨⟨a, b⟩, c⟩ := hst
          have hb : 0 ≤ stOf (wordS s (1 + slotOf o.handle)) ∧ stOf (wordS s (1 + slotOf o.handle)) < 4 := by unfold stOf; omega
          have h1 : stOf (wordS s (1 + slotOf o.handle)) = 1 := by omega
          have := word_eta (wordS s (1 + slotOf o.handle))
          rw [a, h1] at this
          exact this.symm
        · show hgenOf o.handle ≤ gnS s (slotOf o.handle)
          unfold stale at hst
          simp only [Bool.or_eq_true, decide_eq_true_eq, not_or, Decidable.not_not] at hst
          unfold gnS
          rw [hst.1.1]; exact Int.le_refl _
end PQ
namespace PQ
variable {n : Nat} {s s' : Sto} {run : Nat → Option OpS} {K : Int}
def opB (q : Sto × BatOp × Bool) : Option OpS := if q.2.2 = true then none else some (.bat q.2.1)
section
variable {t : Int} {o : BatOp}
def takeQ (s : Sto) (o : BatOp) : Sto × BatOp :=
  if (casS s (1 + o.item.slot) o.word (wordOf (genOf o.word) 2)).2 = true then
    ((dropB (casS s (1 + o.item.slot) o.word (wordOf (genOf o.word) 2)).1 { o with claim := false }).1,
     { (dropB (casS s (1 + o.item.slot) o.word (wordOf (genOf o.word) 2)).1 { o with claim := false }).2 with events := o.events ++ [⟨o.item.time, hdlOf o.item.slot (genOf o.word)⟩] })
  else (s, { o with claim := false })
def scanQ (s : Sto) (o : BatOp) : Sto × BatOp :=
  match (peekS s).2 with
  | none => ((peekS s).1, { o with scanned := true, eff := true })
  | some it =>
    if o.call.bound ≤ it.time ∨ (o.events.length : Int) = o.call.max then ((peekS s).1, { o with scanned := true, eff := true })
    else if stOf (wordS (peekS s).1 (1 + it.slot)) = 3 then dropB (peekS s).1 { o with item := it, word := wordS (peekS s).1 (1 + it.slot), claim := false }
    else ((peekS s).1, { o with item := it, word := wordS (peekS s).1 (1 + it.slot), claim := true })
theorem bB_bad (h : o.call.max < 0 ∨ 64 < o.call.max) : stepB s t o = (s, { o with eff := true, res := { o.res with err := 1 } }, true) := by
  unfold stepB; exact if_pos h
theorem bB_lock (h : ¬ (o.call.max < 0 ∨ 64 < o.call.max)) (h1 : o.scanned = false) (h2 : o.held < 4) :
    stepB s t o = if (lockS s t o.held).2 = true then ((lockS s t o.held).1, { o with eff := false, held := o.held + 1 }, false) else (s, { o with eff := false }, false) := by
  unfold stepB; exact (if_neg h).trans (if_pos ⟨h1, h2⟩)
theorem bB_claim (h : ¬ (o.call.max < 0 ∨ 64 < o.call.max)) (h1 : ¬ (o.scanned = false ∧ o.held < 4)) (h2 : o.claim = true) :
    stepB s t o = ((takeQ s { o with eff := false }).1, (takeQ s { o with eff := false }).2, false) := by
  unfold stepB
  refine (if_neg h).trans ((if_neg h1).trans ((if_pos h2).trans ?_))
  unfold takeQ
  by_cases hc : (casS s (1 + o.item.slot) o.word (wordOf (genOf o.word) 2)).2 = true
  · simp only [hc, if_true]
  · simp only [hc]; rfl
theorem bB_scan (h : ¬ (o.call.max < 0 ∨ 64 < o.call.max)) (h1 : ¬ (o.scanned = false ∧ o.held < 4)) (h2 : o.claim = false) (h3 : o.scanned = false) :
    stepB s t o = ((scanQ s { o with eff := false }).1, (scanQ s { o with eff := false }).2, false) := by
  unfold stepB
  refine (if_neg h).trans ((if_neg h1).trans ((if_neg (by simp [h2])).trans ((if_pos h3).trans ?_)))
  unfold scanQ
  cases hpk : (peekS s).2 with
  | none => rfl
  | some it =>
    by_cases hc : o.call.bound ≤ it.time ∨ (o.events.length : Int) = o.call.max
    · simp only [hc, if_true]
    · by_cases hd : stOf (wordS (peekS s).1 (1 + it.slot)) = 3
      · simp only [hc, hd, if_true, if_false]
      · simp only [hc, hd, if_false]
theorem bB_free (h : ¬ (o.call.max < 0 ∨ 64 < o.call.max)) (h2 : o.claim = false) (h3 : o.scanned = true) {x : Int} {r : List Int} (h4 : o.removed = x :: r) :
    stepB s t o = (freeS s x, { o with eff := false, removed := r }, false) := by
  unfold stepB
  refine (if_neg h).trans ((if_neg (by simp [h3])).trans ((if_neg (by simp [h2])).trans ((if_neg (by simp [h3])).trans ?_)))
  simp only [h4]
theorem bB_last (h : ¬ (o.call.max < 0 ∨ 64 < o.call.max)) (h2 : o.claim = false) (h3 : o.scanned = true) (h4 : o.removed = []) (h5 : o.held = 1) :
    stepB s t o = (unlockS s t 0, { o with eff := false, held := 0, res := { o.res with evs := o.events } }, true) := by
  unfold stepB
  refine (if_neg h).trans ((if_neg (by simp [h3])).trans ((if_neg (by simp [h2])).trans ((if_neg (by simp [h3])).trans ?_)))
  simp only [h4]
  exact if_pos h5
theorem bB_unlock (h : ¬ (o.call.max < 0 ∨ 64 < o.call.max)) (h2 : o.claim = false) (h3 : o.scanned = true) (h4 : o.removed = []) (h5 : o.held ≠ 1) :
    stepB s t o = (unlockS s t ((o.held : Int) - 1), { o with eff := false, held := o.held - 1 }, false) := by
  unfold stepB
  refine (if_neg h).trans ((if_neg (by simp [h3])).trans ((if_neg (by simp [h2])).trans ((if_neg (by simp [h3])).trans ?_)))
  simp only [h4]
  exact if_neg h5
end
theorem peek_done {l : Ld} (h : doneL l = true) : peekL l = l := peekN_done h 20
theorem opB_go (s1 : Sto) (o1 : BatOp) : opB (s1, o1, false) = some (.bat o1) := rfl
theorem opB_end (s1 : Sto) (o1 : BatOp) : opB (s1, o1, true) = none := rfl
theorem own_bat (o : BatOp) : ownO (some (.bat o)) = o.removed := rfl
/-- A batch that holds a mutex turns the store: the other calls' facts. -/
theorem MInv.others (h : MInv n s run K) {p k : Nat} (hp : p < n) (hk : k < 4) (hh : (k : Int) ∈ locksO (run p)) (hl : s'.slots.length = s.slots.length) (hg : ∀ j : Int, 0 ≤ j → gnS s j ≤ gnS s' j)
    (hw : ∀ q, q < n → q ≠ p → ∀ j ∈ ownO (run q), gnS s' j = gnS s j ∧ stS s' j = stS s j) : ∀ q, q < n → q ≠ p → OpOk s (run q) → OpOk s' (run q) := by
  intro q hq hne hok
  refine hok.keep hl hg (fun j hj => ?_) h.slots.range (.inr (h.noclaim hp hk hh hq hne))
  obtain ⟨a, b⟩ := hw q hq hne j hj
  rw [b]
  exact ⟨a, id, id⟩
theorem MInv.own_live (h : MInv n s run K) {q : Nat} (hq : q < n) {j : Int} (hj : j ∈ ownO (run q)) : j ∈ ownsR n run := List.mem_flatMap.2 ⟨q, List.mem_range.2 hq, hj⟩
/-- What another call holds is no item of the queue. -/
theorem MInv.own_q (h : MInv n s run K) {q : Nat} (hq : q < n) {j : Int} (hj : j ∈ ownO (run q)) {x : It} (hx : x ∈ allL s.q) : x.slot ≠ j := by
  have hnd := h.slots.nodup
  rw [List.nodup_append] at hnd
  exact hnd.2.2 x.slot (List.mem_append_right _ (List.mem_map_of_mem hx)) j (h.own_live hq hj)
/-- Two calls hold no slot together. -/
theorem MInv.own_two (h : MInv n s run K) {p q : Nat} (hp : p < n) (hq : q < n) (hne : q ≠ p) {i j : Int} (hi : i ∈ ownO (run p)) (hj : j ∈ ownO (run q)) : i ≠ j := by
  intro e
  subst e
  have hnd := h.slots.nodup
  rw [List.nodup_append] at hnd
  obtain ⟨rest, h1, _⟩ := flatMap_upd ownO run hp
  have h2 := h1.nodup_iff.1 hnd.2.1
  rw [List.nodup_append] at h2
  have h3 : i ∈ rest := by
    obtain ⟨rest2, h4, h5⟩ := flatMap_upd ownO run hp
    have h6 : i ∈ (List.range n).flatMap fun r => ownO (updP run p none r) := List.mem_flatMap.2 ⟨q, List.mem_range.2 hq, by rw [updP_ne hne]; exact hj⟩
    have h7 := (h5 none).mem_iff.1 h6
    have h8 : i ∈ rest2 := by simpa [ownO] using h7
    have h9 : (ownO (run p) ++ rest2).Perm (ownO (run p) ++ rest) := h4.symm.trans h1
    exact ((List.perm_append_left_iff _).1 h9).mem_iff.1 h8
  exact h2.2.2 i hi i h3 rfl
end PQ
namespace PQ
variable {n : Nat} {s s' : Sto} {run : Nat → Option OpS} {K : Int}
/-- A batch that turns the store without turning its mutexes. -/
theorem bat_turn (h : MInv n s run K) {p : Nat} (hp : p < n) {o o' : BatOp} (hr : run p = some (.bat o)) (h4 : o.held = 4) (h4' : o'.held = 4) {K' : Int}
    (hS : ∀ rest, Slots s (o.removed ++ rest) K → Slots s' (o'.removed ++ rest) K') (hO : BatOk s' o') (hm : s'.mus = s.mus) (hl : s'.slots.length = s.slots.length) (hg : ∀ j : Int, 0 ≤ j → gnS s j ≤ gnS s' j)
    (hw : ∀ q, q < n → q ≠ p → ∀ j ∈ ownO (run q), gnS s' j = gnS s j ∧ stS s' j = stS s j) : MInv n s' (updP run p (some (.bat o'))) K' := by
  have hh : ((0 : Nat) : Int) ∈ locksO (run p) := by rw [hr]; exact locks_bat.2 (by omega)
  refine h.step hp (fun rest hS' _ => ?_) hO (h.others hp (by decide) hh hl hg hw) (lock_same h hm (fun m => ?_))
  · rw [hr] at hS'; exact hS rest hS'
  · rw [hr, locks_bat, locks_bat, h4, h4']
theorem bat_claim (h : MInv n s run K) {p : Nat} (hp : p < n) {o : BatOp} (hr : run p = some (.bat o)) (hmax : ¬ (o.call.max < 0 ∨ 64 < o.call.max)) (hc : o.claim = true) : MInv n (stepB s p o).1 (updP run p (opB (stepB s p o))) (K + 1) := by
  have ho : BatOk s o := by have := h.ops p hp; rw [hr] at this; exact this
  obtain ⟨hs, h4⟩ := ho.claims hc
  obtain ⟨c1, c2, c3, c4, c5⟩ := ho.clm hc
  rw [bB_claim hmax (by omega) hc, opB_go]
  have hpk : (peekL s.q).bot.head? = some o.item := by rw [peek_done c1]; exact c2
  have hmem : o.item ∈ allL s.q := by
    have hb : o.item ∈ s.q.bot := List.mem_of_mem_head? (by rw [c2]; exact rfl)
    rw [allL_eq, List.mem_append]; exact .inr hb
  have hir := h.slots.range _ hmem
  have hgb := h.slots.gn_bounds hir.1
  by_cases hw : wordS s (1 + o.item.slot) = o.word
  · have ec : casS s (1 + o.item.slot) o.word (wordOf (genOf o.word) 2) = (setW s (1 + o.item.slot) (wordOf (genOf o.word) 2), true) := if_pos hw
    have e : takeQ s { o with eff := false } = (dropS (setW s (1 + o.item.slot) (wordOf (genOf o.word) 2)), { o with eff := false, claim := false, removed := o.removed ++ [o.item.slot], events := o.events ++ [⟨o.item.time, hdlOf o.item.slot (genOf o.word)⟩] }) := by
      unfold takeQ
      simp only [ec, if_true]; rfl
    rw [e]
    have hgw : genOf o.word = gnS s o.item.slot := by unfold gnS; rw [hw]
    have hst : ∀ j, 0 ≤ j → stS (dropS (setW s (1 + o.item.slot) (wordOf (genOf o.word) 2))) j = if o.item.slot = j then 2 else stS s j := fun j hj => by
      unfold dropS
      rw [replS_st _ _ hj, st_setW h.slots.wl hir.1 hir.2 hj, st_word (by decide) (by decide)]
    have hgn : ∀ j, 0 ≤ j → gnS (dropS (setW s (1 + o.item.slot) (wordOf (genOf o.word) 2))) j = gnS s j := fun j hj => by
      unfold dropS
      rw [replS_gn _ _ hj, gn_setW h.slots.wl hir.1 hir.2 hj, gen_word (by decide) (by decide), hgw]
      split
      · rename_i e; rw [e]
      · rfl
    refine bat_turn (o' := { o with eff := false, claim := false, removed := o.removed ++ [o.item.slot], events := o.events ++ [⟨o.item.time, hdlOf o.item.slot (genOf o.word)⟩] }) h hp hr h4 h4 (K' := K + 1) (fun rest hS => ?_) ⟨ho.max, ho.held, fun _ hx => ?_, fun hx => ?_, ho.res, fun i hi => ?_, fun hx => Bool.noConfusion (show false = true from hx)⟩ ?_ ?_ (fun j hj => by rw [hgn j hj]; exact Int.le_refl _) (fun q hq hne j hj => ?_)
    · have h1 := (hS.claim hpk (v := wordOf (genOf o.word) 2) (by rw [hgw]; unfold wordOf; omega) (by rw [st_word (by decide) (by decide)]; decide)).mono (K' := K + 1) (by omega)
      refine h1.own_perm ?_
      show (o.item.slot :: (o.removed ++ rest)).Perm (o.removed ++ [o.item.slot] ++ rest)
      rw [List.append_assoc]
      exact List.perm_middle.symm
    · have hx : o.held < 4 := hx; omega
    · have hx : o.scanned = true := hx; rw [hs] at hx; cases hx
    · rcases List.mem_append.1 hi with hi | hi
      · have hir2 := h.slots.mem (.inr (.inr (h.own_live hp (by rw [hr]; exact hi))))
        rw [hst i hir2.1]
        split
        · exact .inl rfl
        · exact ho.rem i hi
      · rw [List.mem_singleton] at hi
        rw [hi, hst _ hir.1, if_pos rfl]; exact .inl rfl
    · show (replS _ _).mus = s.mus; rw [replS_mus, setW_mus]
    · show (replS _ _).slots.length = _; rw [replS_slots, setW_slots]
    · have hjr := h.slots.mem (.inr (.inr (h.own_live hq hj)))
      rw [hgn j hjr.1, hst j hjr.1, if_neg (h.own_q hq hj hmem)]
      exact ⟨rfl, rfl⟩
  · have ec : casS s (1 + o.item.slot) o.word (wordOf (genOf o.word) 2) = (s, false) := if_neg hw
    have e : takeQ s { o with eff := false } = (s, { o with eff := false, claim := false }) := by
      unfold takeQ
      simp only [ec]; rfl
    rw [e]
    refine bat_turn (o' := { o with eff := false, claim := false }) h hp hr h4 h4 (K' := K + 1) (fun rest hS => Slots.mono hS (by omega)) ⟨ho.max, ho.held, fun _ hx => ?_, fun hx => ?_, ho.res, ho.rem, fun hx => Bool.noConfusion (show false = true from hx)⟩ rfl rfl (fun _ _ => Int.le_refl _) (fun _ _ _ _ _ => ⟨rfl, rfl⟩)
    · have hx : o.held < 4 := hx; omega
    · have hx : o.scanned = true := hx; rw [hs] at hx; cases hx
theorem bat_scan (h : MInv n s run K) {p : Nat} (hp : p < n) {o : BatOp} (hr : run p = some (.bat o)) (hmax : ¬ (o.call.max < 0 ∨ 64 < o.call.max)) (hc : o.claim = false) (hs : o.scanned = false) (h4 : o.held = 4) : MInv n (stepB s p o).1 (updP run p (opB (stepB s p o))) (K + 1) := by
  have ho : BatOk s o := by have := h.ops p hp; rw [hr] at this; exact this
  rw [bB_scan hmax (by omega) hc hs, opB_go]
  have hpp := (peekL_ok h.slots.q).1
  have hd := (peekL_ok h.slots.q).2
  have hst : ∀ j, 0 ≤ j → stS (peekS s).1 j = stS s j := fun j hj => replS_st s _ hj
  have hgn : ∀ j, 0 ≤ j → gnS (peekS s).1 j = gnS s j := fun j hj => replS_gn s _ hj
  have hq1 : (peekS s).1.q = peekL s.q := replS_q s _
  have hrm : ∀ i ∈ o.removed, 0 ≤ i := fun i hi => (h.slots.mem (.inr (.inr (h.own_live hp (by rw [hr]; exact hi))))).1
  have hwo : ∀ q, q < n → q ≠ p → ∀ j ∈ ownO (run q), gnS (peekS s).1 j = gnS s j ∧ stS (peekS s).1 j = stS s j := fun q hq _ j hj => by
    have hjr := h.slots.mem (.inr (.inr (h.own_live hq hj)))
    exact ⟨hgn j hjr.1, hst j hjr.1⟩
  have hstop : MInv n (peekS s).1 (updP run p (some (.bat { o with eff := true, scanned := true }))) (K + 1) := by
    refine bat_turn (o' := { o with eff := true, scanned := true }) h hp hr h4 h4 (K' := K + 1) (fun rest hS => hS.peek.mono (by omega)) ⟨fun hx => absurd hx hmax, ho.held, fun hx => ?_, fun _ => ⟨hc, by show 1 ≤ o.held; omega, fun _ => h4⟩, ho.res, fun i hi => ?_, fun hx => ?_⟩ (replS_mus s _) (by show (replS s _).slots.length = _; rw [replS_slots]) (fun j hj => by rw [hgn j hj]; exact Int.le_refl _) hwo
    · cases hx
    · rw [hst i (hrm i hi)]; exact ho.rem i hi
    · have hx : o.claim = true := hx; rw [hc] at hx; cases hx
  cases hpk : (peekS s).2 with
  | none =>
    have e : scanQ s { o with eff := false } = ((peekS s).1, { o with eff := true, scanned := true }) := by
      unfold scanQ; rw [hpk]
    rw [e]; exact hstop
  | some it =>
    by_cases hb : o.call.bound ≤ it.time ∨ (o.events.length : Int) = o.call.max
    · have e : scanQ s { o with eff := false } = ((peekS s).1, { o with eff := true, scanned := true }) := by
        unfold scanQ; rw [hpk]; exact if_pos hb
      rw [e]; exact hstop
    · have hhd : (peekL s.q).bot.head? = some it := hpk
      have hmem : it ∈ allL (peekL s.q) := by
        have hb : it ∈ (peekL s.q).bot := List.mem_of_mem_head? (by rw [hhd]; exact rfl)
        rw [allL_eq, List.mem_append]; exact .inr hb
      have hmem0 : it ∈ allL s.q := hpp.perm.mem_iff.1 hmem
      have hir := h.slots.range _ hmem0
      have hwd : wordS (peekS s).1 (1 + it.slot) = wordS s (1 + it.slot) := replS_word s _ hir.1
      by_cases h3 : stOf (wordS (peekS s).1 (1 + it.slot)) = 3
      · have e : scanQ s { o with eff := false } = (dropS (peekS s).1, { o with eff := false, item := it, word := wordS (peekS s).1 (1 + it.slot), claim := false, removed := o.removed ++ [it.slot] }) := by
          unfold scanQ; rw [hpk]; exact (if_neg hb).trans (if_pos h3)
        rw [e]
        have hst2 : ∀ j, 0 ≤ j → stS (dropS (peekS s).1) j = stS s j := fun j hj => (replS_st _ _ hj).trans (hst j hj)
        have hgn2 : ∀ j, 0 ≤ j → gnS (dropS (peekS s).1) j = gnS s j := fun j hj => (replS_gn _ _ hj).trans (hgn j hj)
        have hs3 : stS s it.slot = 3 := by unfold stS; rw [← hwd]; exact h3
        refine bat_turn (o' := { o with eff := false, item := it, word := wordS (peekS s).1 (1 + it.slot), claim := false, removed := o.removed ++ [it.slot] }) h hp hr h4 h4 (K' := K + 1) (fun rest hS => ?_) ⟨fun hx => absurd hx hmax, ho.held, fun _ hx => ?_, fun hx => ?_, ho.res, fun i hi => ?_, fun hx => Bool.noConfusion (show false = true from hx)⟩ ?_ ?_ (fun j hj => by rw [hgn2 j hj]; exact Int.le_refl _) (fun q hq hne j hj => ?_)
        · have h1 : Slots (dropS (peekS s).1) (it.slot :: (o.removed ++ rest)) K := hS.peek.drop (by rw [hq1, peek_done hd]; exact hhd)
          refine (h1.mono (by omega)).own_perm ?_
          show (it.slot :: (o.removed ++ rest)).Perm (o.removed ++ [it.slot] ++ rest)
          rw [List.append_assoc]
          exact List.perm_middle.symm
        · have hx : o.held < 4 := hx; omega
        · have hx : o.scanned = true := hx; rw [hs] at hx; cases hx
        · rcases List.mem_append.1 hi with hi | hi
          · rw [hst2 i (hrm i hi)]; exact ho.rem i hi
          · rw [List.mem_singleton] at hi
            rw [hi, hst2 _ hir.1]; exact .inr hs3
        · show (replS _ _).mus = s.mus; rw [replS_mus]; exact replS_mus s _
        · show (replS _ _).slots.length = _; rw [replS_slots]; show (replS _ _).slots.length = _; rw [replS_slots]
        · have hjr := h.slots.mem (.inr (.inr (h.own_live hq hj)))
          exact ⟨hgn2 j hjr.1, hst2 j hjr.1⟩
      · have e : scanQ s { o with eff := false } = ((peekS s).1, { o with eff := false, item := it, word := wordS (peekS s).1 (1 + it.slot), claim := true }) := by
          unfold scanQ; rw [hpk]; exact (if_neg hb).trans (if_neg h3)
        rw [e]
        refine bat_turn (o' := { o with eff := false, item := it, word := wordS (peekS s).1 (1 + it.slot), claim := true }) h hp hr h4 h4 (K' := K + 1) (fun rest hS => hS.peek.mono (by omega)) ⟨fun hx => absurd hx hmax, ho.held, fun _ hx => ?_, fun hx => ?_, ho.res, fun i hi => ?_, fun _ => ⟨?_, ?_, ?_, ?_, ?_⟩⟩ (replS_mus s _) (by show (replS s _).slots.length = _; rw [replS_slots]) (fun j hj => by rw [hgn j hj]; exact Int.le_refl _) hwo
        · have hx : o.held < 4 := hx; omega
        · have hx : o.scanned = true := hx; rw [hs] at hx; cases hx
        · rw [hst i (hrm i hi)]; exact ho.rem i hi
        · rw [hq1]; exact hd
        · rw [hq1]; exact hhd
        · show wordS (peekS s).1 (1 + it.slot) = wordOf (gnS (peekS s).1 it.slot) 1
          have hq2 := (h.slots.qit it hmem0).2
          have h1 : stOf (wordS (peekS s).1 (1 + it.slot)) = 1 := by
            rw [hwd] at h3 ⊢
            rcases hq2 with e | e
            · exact e
            · exact absurd e h3
          have := word_eta (wordS (peekS s).1 (1 + it.slot))
          rw [h1] at this
          exact this.symm
        · show it.time < o.call.bound; omega
        · show (o.events.length : Int) ≠ o.call.max; omega
end PQ
namespace PQ
variable {n : Nat} {s s' : Sto} {run : Nat → Option OpS} {K : Int}
theorem bat_step (h : MInv n s run K) {p : Nat} (hp : p < n) {o : BatOp} (hr : run p = some (.bat o)) : MInv n (stepB s p o).1 (updP run p (opB (stepB s p o))) (K + 1) := by
  have ho : BatOk s o := by have := h.ops p hp; rw [hr] at this; exact this
  have hlk : ∀ m : Nat, (m : Int) ∈ locksO (run p) ↔ m < o.held := fun m => by rw [hr]; exact locks_bat
  have hown : ownO (run p) = o.removed := by rw [hr]; rfl
  by_cases hmax : o.call.max < 0 ∨ 64 < o.call.max
  · obtain ⟨h1, h2⟩ := ho.max hmax
    have h3 := ho.low h2 (by omega)
    rw [bB_bad hmax, opB_end]
    refine h.same hp (by rw [hown, h3.1]; rfl) trivial (fun m => ?_)
    rw [hlk m, h1]
    exact ⟨fun hx => (by cases hx), fun hx => absurd hx (Nat.not_lt_zero m)⟩
  by_cases hl : o.scanned = false ∧ o.held < 4
  · obtain ⟨l1, l2, l3⟩ := ho.low hl.1 hl.2
    have e := bB_lock (s := s) (t := p) hmax hl.1 hl.2
    by_cases hok : (lockS s p o.held).2 = true
    · rw [if_pos hok] at e
      rw [e, opB_go]
      refine h.acq hp hl.2 hok (by rw [hown]; rfl) ⟨fun hx => absurd hx hmax, by show o.held + 1 ≤ 4; omega, fun _ _ => ⟨l1, l2, l3⟩, fun hx => ?_, ho.res, ho.rem, fun hx => ?_⟩ (fun m => ?_)
      · have hx : o.scanned = true := hx; rw [hl.1] at hx; cases hx
      · have hx : o.claim = true := hx; rw [l3] at hx; cases hx
      · rw [hlk m, locks_bat]; show m < o.held + 1 ↔ _; omega
    · rw [if_neg hok] at e
      rw [e, opB_go]
      exact h.same hp (by rw [hown]; rfl) ⟨ho.max, ho.held, ho.low, ho.done, ho.res, ho.rem, ho.clm⟩ (fun m => by rw [hlk m, locks_bat])
  cases hc : o.claim with
  | true => exact bat_claim h hp hr hmax hc
  | false =>
    by_cases hs : o.scanned = false
    · have h4 : o.held = 4 := by
        have := ho.held
        have : ¬ o.held < 4 := fun hx => hl ⟨hs, hx⟩
        omega
      exact bat_scan h hp hr hmax hc hs h4
    have hs' : o.scanned = true := by simpa using hs
    obtain ⟨_, d1, d2⟩ := ho.done hs'
    have hh4 := ho.held
    cases hrm : o.removed with
    | cons x r =>
      have h4 := d2 (by rw [hrm]; intro hx; cases hx)
      rw [bB_free hmax hc hs' hrm, opB_go]
      have hxm : x ∈ ownO (run p) := by rw [hown, hrm]; exact .head _
      have hxr := h.slots.mem (.inr (.inr (h.own_live hp hxm)))
      have hsf : ∀ v, stS (setW s (1 + x) v) = stS (setW s (1 + x) v) := fun _ => rfl
      have hst : ∀ j, 0 ≤ j → stS (freeS s x) j = if x = j then 0 else stS s j := fun j hj => by
        have := st_setW (v := wordOf (genOf (wordS s (1 + x)) + 1) 0) h.slots.wl hxr.1 hxr.2 hj
        rw [st_word (by decide) (by decide)] at this
        exact this
      have hgn : ∀ j, 0 ≤ j → gnS (freeS s x) j = if x = j then gnS s x + 1 else gnS s j := fun j hj => by
        have := gn_setW (v := wordOf (genOf (wordS s (1 + x)) + 1) 0) h.slots.wl hxr.1 hxr.2 hj
        rw [gen_word (by decide) (by decide)] at this
        exact this
      have hnd : x ∉ r := by
        have h1 := h.slots.nodup
        rw [List.nodup_append] at h1
        obtain ⟨rest, h2, _⟩ := flatMap_upd ownO run hp
        have h3 := h2.nodup_iff.1 h1.2.1
        rw [hown, hrm, List.cons_append, List.nodup_cons] at h3
        exact fun hx => h3.1 (List.mem_append_left _ hx)
      refine bat_turn (o' := { o with eff := false, removed := r }) h hp hr h4 h4 (K' := K + 1) (fun rest hS => ?_) ⟨fun hx => absurd hx hmax, ho.held, fun hx => ?_, fun _ => ⟨hc, d1, fun _ => h4⟩, ho.res, fun i hi => ?_, fun hx => ?_⟩ ?_ ?_ (fun j hj => ?_) (fun q hq hne j hj => ?_)
      · rw [hrm] at hS
        exact hS.free
      · have hx : o.scanned = false := hx; rw [hs'] at hx; cases hx
      · have hi : i ∈ r := hi
        have hir := h.slots.mem (.inr (.inr (h.own_live hp (by rw [hown, hrm]; exact .tail _ hi))))
        rw [hst i hir.1, if_neg (fun e => hnd (by rw [e]; exact hi))]
        exact ho.rem i (by rw [hrm]; exact .tail _ hi)
      · have hx : o.claim = true := hx; rw [hc] at hx; cases hx
      · show (setW s (1 + x) _).mus = s.mus; rw [setW_mus]
      · show (s.slots.set _ _).length = _; rw [List.length_set]
      · rw [hgn j hj]
        split
        · rename_i e; rw [← e]; omega
        · exact Int.le_refl _
      · have hjr := h.slots.mem (.inr (.inr (h.own_live hq hj)))
        have hne2 := h.own_two hp hq hne hxm hj
        rw [hgn j hjr.1, hst j hjr.1, if_neg hne2, if_neg hne2]
        exact ⟨rfl, rfl⟩
    | nil =>
      by_cases h1 : o.held = 1
      · rw [bB_last hmax hc hs' hrm h1, opB_end]
        refine h.rel (k := 0) hp (by decide) ((hlk 0).2 (by omega)) (by rw [hown, hrm]; rfl) trivial (fun m => ?_)
        rw [hlk m, h1]
        exact ⟨fun hx => (by cases hx), fun hx => absurd (by have := hx.2; omega) hx.1⟩
      · have e := bB_unlock (s := s) (t := p) hmax hc hs' hrm h1
        have hcast : (o.held : Int) - 1 = ((o.held - 1 : Nat) : Int) := by omega
        rw [hcast] at e
        rw [e, opB_go]
        refine h.rel hp (by omega) ((hlk _).2 (by omega)) (by rw [hown]; rfl) ⟨fun hx => absurd hx hmax, by show o.held - 1 ≤ 4; omega, fun hx => ?_, fun _ => ⟨hc, by show 1 ≤ o.held - 1; omega, fun hx => absurd hrm hx⟩, ho.res, ho.rem, fun hx => ?_⟩ (fun m => ?_)
        · have hx : o.scanned = false := hx; rw [hs'] at hx; cases hx
        · have hx : o.claim = true := hx; rw [hc] at hx; cases hx
        · rw [hlk m, locks_bat]; show m < o.held - 1 ↔ _; omega
/-- What stands behind a step of any call. -/
def opAny (q : Sto × OpS × Bool) : Option OpS := if q.2.2 = true then none else some q.2.1
theorem any_step (h : MInv n s run K) (hK : K ≤ 999999) {p : Nat} (hp : p < n) {o : OpS} (hr : run p = some o) : MInv n (stepO s p o).1 (updP run p (opAny (stepO s p o))) (K + 1) := by
  cases o with
  | ins o =>
    have e : opAny (stepO s p (.ins o)) = opI (stepI s p o) := rfl
    rw [e]; exact ins_step h hK hp hr
  | can o =>
    have e : opAny (stepO s p (.can o)) = opC (stepC s o) := rfl
    rw [e]; exact can_step h hp hr
  | bat o =>
    have e : opAny (stepO s p (.bat o)) = opB (stepB s p o) := rfl
    rw [e]; exact bat_step h hp hr
  | unk b =>
    exact h.same hp (by rw [hr]; rfl) trivial (fun m => by rw [hr]; exact Iff.rfl)
/-- A fresh call. -/
theorem fresh_ok (s : Sto) (c : Call) : OpOk s (some (newO c)) ∧ ownO (some (newO c)) = [] ∧ locksO (some (newO c)) = [] := by
  unfold newO
  split
  · refine ⟨⟨⟨.start, rfl, rfl⟩, fun _ => ⟨rfl, rfl⟩, fun hx => absurd rfl hx, rfl, fun hx => Bool.noConfusion (show false = true from hx), fun hx => ?_⟩, rfl, rfl⟩
    rcases hx with e | e <;> cases e
  · split
    · exact ⟨⟨.inl rfl, rfl, fun hx => by have hx : (0 : Int) = 1 := hx; omega⟩, rfl, rfl⟩
    · split
      · refine ⟨⟨fun _ => ⟨rfl, rfl⟩, by show 0 ≤ 4; omega, fun _ _ => ⟨rfl, rfl, rfl⟩, fun hx => Bool.noConfusion (show false = true from hx), rfl, fun i hi => absurd hi List.not_mem_nil, fun hx => Bool.noConfusion (show false = true from hx)⟩, rfl, rfl⟩
      · exact ⟨rfl, rfl, rfl⟩
theorem MInv.start (h : MInv n s run K) {p : Nat} (hp : p < n) (hr : run p = none) (c : Call) : MInv n s (updP run p (some (newO c))) (K + 1) := by
  obtain ⟨h1, h2, h3⟩ := fresh_ok s c
  exact h.same hp (by rw [hr, h2]; rfl) h1 (fun m => by rw [hr, h3]; exact Iff.rfl)
end PQ
