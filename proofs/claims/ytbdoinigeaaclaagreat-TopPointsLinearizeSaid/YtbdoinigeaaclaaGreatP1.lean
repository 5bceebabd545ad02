/- The sequential model of the pending-event set, and the search for a linearization, in plain Lean. Conditions: none; no program in sight.
   Where an entry is put: the law of the binary search's point. Conditions: the entries are sorted by time.
   Replaying an order, searching for a linearization: plain Lean. Conditions: none.
   The search for a linearization is sound, complete, finds the first order, and follows a sequential history: plain Lean. Conditions: as each theorem says.
   The ladder queue, in plain Lean: what the program's functions compute. Conditions: none; no program in sight.
   The ladder queue keeps its invariants; nothing is lost; what is peeked at is the least. Conditions: as each theorem says.
   Inserting into the ladder queue and peeking keep its invariants; the item peeked at is the least. Conditions: as each theorem says.
   Refilling the ladder queue's bottom list: invariants, nothing is lost, it ends, the least item comes first. Conditions: as each theorem says.
   The concurrent set as a machine, in plain Lean: the store, the running calls, the threads, a pick. Conditions: none; no program in sight.
   What a rung hands out when the ladder queue is refilled. Conditions: the queue's invariants.
   What the store's functions want of a store; how its parts change. Conditions: none. -/
import Derived.Test.YtbdoinigeaaclaaGreatK20
set_option linter.all false
namespace PQ
structure Ev where
  time : Int
  handle : Int
  deriving DecidableEq
structure Call where
  kind : Int
  time : Int
  handle : Int
  max : Int
  bound : Int
structure Res where
  err : Int := 0
  rh : Int := 0
  canc : Bool := false
  evs : List Ev := []
  deriving DecidableEq
structure Done where
  thread : Int
  call : Call
  res : Res
  beg : Int
  point : Int
  fin : Int
structure Ent where
  time : Int
  seq : Int
  handle : Int
  dead : Bool
  deriving DecidableEq
structure Mod where
  cap : Int
  ents : List Ent
  next : Int
  issued : List Int
  deriving DecidableEq
def validH (h : Int) : Bool := decide (0 ≤ h) && decide (h ≤ 70368744177727)
def pos (l : List Ent) (t : Int) : Nat := (l.takeWhile fun e => decide (e.time ≤ t)).length
def insE (l : List Ent) (e : Ent) : List Ent := l.take (pos l e.time) ++ e :: l.drop (pos l e.time)
def insM (m : Mod) (c : Call) (h : Int) : Mod × Res :=
  if c.time < 0 ∨ 1152921504606846976 < c.time then (m, { err := 1 })
  else if (m.ents.length : Int) = m.cap then (m, { err := 10 })
  else if validH h = false ∨ m.issued.contains h = true then (m, { err := 1 })
  else ({ m with ents := insE m.ents ⟨c.time, m.next, h, false⟩, next := m.next + 1, issued := m.issued ++ [h] }, { rh := h })
def canP (h : Int) (e : Ent) : Bool := decide (e.handle = h) && !e.dead
def canM (m : Mod) (c : Call) : Mod × Res :=
  match m.ents.findIdx? (canP c.handle) with
  | none => (m, {})
  | some i => ({ m with ents := m.ents.modify i fun e => { e with dead := true } }, { canc := true })
def batL (bound max : Int) : List Ent → List Ev → List Ev × List Ent
  | [], out => (out, [])
  | e :: r, out => if e.time < bound ∧ (out.length : Int) < max then batL bound max r (if e.dead then out else out ++ [⟨e.time, e.handle⟩]) else (out, e :: r)
def batM (m : Mod) (c : Call) : Mod × Res :=
  if c.max < 0 ∨ 64 < c.max then (m, { err := 1 })
  else ({ m with ents := (batL c.bound c.max m.ents []).2 }, { evs := (batL c.bound c.max m.ents []).1 })
def doM (m : Mod) (c : Call) (h : Int) : Mod × Res :=
  if c.kind = 1 then insM m c h else if c.kind = 2 then canM m c else if c.kind = 3 then batM m c else (m, { err := 1 })
def accM (m : Mod) (c : Call) (r : Res) : Mod × Bool :=
  if (doM m c r.rh).2 = r then ((doM m c r.rh).1, true) else (m, false)
/-- What holds of every model that comes up; 'n': at most so many handles were issued. -/
structure Inv (n : Nat) (m : Mod) : Prop where
  cap1 : 1 ≤ m.cap
  cap2 : m.cap ≤ 64
  len : (m.ents.length : Int) ≤ m.cap
  next : m.next = m.issued.length
  issued : m.issued.length ≤ n
  sorted : m.ents.Pairwise fun a b => a.time ≤ b.time
  seqs : ∀ e ∈ m.ents, e.seq < m.next
theorem takeWhile_pos {l : List Ent} {t : Int} : pos l t ≤ l.length := by
  unfold pos; exact (List.takeWhile_sublist _).length_le
theorem insE_length (l : List Ent) (e : Ent) : (insE l e).length = l.length + 1 := by
  have := @takeWhile_pos l e.time
  unfold insE
  simp only [List.length_append, List.length_take, List.length_cons, List.length_drop]; omega
theorem mem_insE {l : List Ent} {e x : Ent} : x ∈ insE l e ↔ x = e ∨ x ∈ l := by
  unfold insE
  rw [List.mem_append, List.mem_cons]
  have : x ∈ l ↔ x ∈ l.take (pos l e.time) ∨ x ∈ l.drop (pos l e.time) := by
    rw [← List.mem_append, List.take_append_drop]
  rw [this]
  constructor
  · rintro (h | h | h)
    · exact .inr (.inl h)
    · exact .inl h
    · exact .inr (.inr h)
  · rintro (h | h | h)
    · exact .inr (.inl h)
    · exact .inl h
    · exact .inr (.inr h)
theorem take_pos (l : List Ent) (t : Int) : l.take (pos l t) = l.takeWhile fun e => decide (e.time ≤ t) := by
  unfold pos
  induction l with
  | nil => rfl
  | cons e l ih => by_cases h : e.time ≤ t <;> simp [List.takeWhile_cons, h]; exact ih
theorem drop_pos (l : List Ent) (t : Int) : l.drop (pos l t) = l.dropWhile fun e => decide (e.time ≤ t) := by
  unfold pos
  induction l with
  | nil => rfl
  | cons e l ih => by_cases h : e.time ≤ t <;> simp [List.takeWhile_cons, List.dropWhile_cons, h]; exact ih
theorem sorted_insE {l : List Ent} {e : Ent} (h : l.Pairwise fun a b => a.time ≤ b.time) : (insE l e).Pairwise fun a b => a.time ≤ b.time := by
  unfold insE
  rw [take_pos, drop_pos]
  induction l with
  | nil => simp
  | cons x l ih =>
    rw [List.pairwise_cons] at h
    by_cases hx : x.time ≤ e.time
    · simp only [List.takeWhile_cons, List.dropWhile_cons, hx, decide_true, if_true, List.cons_append]
      rw [List.pairwise_cons]
      refine ⟨fun y hy => ?_, ih h.2⟩
      have : y = e ∨ y ∈ l := by
        rw [← mem_insE (l := l), insE, take_pos, drop_pos]; exact hy
      rcases this with rfl | hy
      · exact hx
      · exact h.1 y hy
    · simp only [List.takeWhile_cons, List.dropWhile_cons, hx, decide_false, Bool.false_eq_true, if_false, List.nil_append]
      rw [List.pairwise_cons]
      refine ⟨fun y hy => ?_, List.pairwise_cons.2 h⟩
      rcases List.mem_cons.1 hy with rfl | hy
      · omega
      · have := h.1 y hy; omega
theorem batL_suffix (bound max : Int) : ∀ (l : List Ent) (out : List Ev), (batL bound max l out).2 <:+ l
  | [], out => List.suffix_refl _
  | e :: r, out => by
    unfold batL
    split
    · exact (batL_suffix bound max r _).trans (List.suffix_cons _ _)
    · exact List.suffix_refl _
theorem Inv.mono {n k : Nat} {m : Mod} (h : Inv n m) (hk : n ≤ k) : Inv k m := ⟨h.cap1, h.cap2, h.len, h.next, Nat.le_trans h.issued hk, h.sorted, h.seqs⟩
theorem Inv.do {n : Nat} {m : Mod} (h : Inv n m) (c : Call) (hd : Int) : Inv (n + 1) (doM m c hd).1 := by
  have hm := h.mono (Nat.le_succ n)
  unfold doM
  split
  · unfold insM
    split
    · exact hm
    · split
      · exact hm
      · split
        · exact hm
        · rename_i h1 h2 h3
          have hl := h.len
          have hn := h.next
          have hi := h.issued
          refine ⟨h.cap1, h.cap2, ?_, ?_, ?_, sorted_insE h.sorted, fun e he => ?_⟩
          · simp only [insE_length]; omega
          · simp only [List.length_append, List.length_cons, List.length_nil]; omega
          · simp only [List.length_append, List.length_cons, List.length_nil]; omega
          · rcases mem_insE.1 he with rfl | he
            · show m.next < m.next + 1; omega
            · have := h.seqs e he
              show e.seq < m.next + 1; omega
  · split
    · unfold canM
      split
      · exact hm
      · rename_i i hi
        have key : ∀ x ∈ m.ents.modify i (fun e => { e with dead := true }), ∃ y ∈ m.ents, x.time = y.time ∧ x.seq = y.seq := by
          intro x hx
          obtain ⟨j, hj, rfl⟩ := List.mem_iff_getElem.1 hx
          simp only [List.length_modify] at hj
          refine ⟨m.ents[j], List.getElem_mem hj, ?_⟩
          rw [List.getElem_modify]; split <;> exact ⟨rfl, rfl⟩
        refine ⟨h.cap1, h.cap2, by simpa using h.len, h.next, Nat.le_trans h.issued (Nat.le_succ n), ?_, fun e he => ?_⟩
        · rw [List.pairwise_iff_getElem]
          intro a b ha hb hab
          simp only [List.length_modify] at ha hb
          have := List.pairwise_iff_getElem.1 h.sorted a b ha hb hab
          simp only [List.getElem_modify]
          split <;> split <;> exact this
        · obtain ⟨y, hy, _, h2⟩ := key e he
          show e.seq < m.next
          rw [h2]; exact h.seqs y hy
    · split
      · unfold batM
        split
        · exact hm
        · have hs := batL_suffix c.bound c.max m.ents []
          refine ⟨h.cap1, h.cap2, ?_, h.next, Nat.le_trans h.issued (Nat.le_succ n), h.sorted.sublist hs.sublist, fun e he => h.seqs e (hs.subset he)⟩
          have := hs.length_le
          have hl := h.len
          show ((batL c.bound c.max m.ents []).2.length : Int) ≤ m.cap
          omega
      · exact hm
theorem Inv.acc {n : Nat} {m : Mod} (h : Inv n m) (c : Call) (r : Res) : Inv (n + 1) (accM m c r).1 := by
  unfold accM
  split
  · exact h.do c r.rh
  · exact h.mono (Nat.le_succ n)
def prec (a b : Done) : Bool := decide (a.fin < b.beg)
def overl (a b : Done) : Bool := !prec a b && !prec b a
def okAt (l : List Done) (i : Nat) : Bool := match l[i]? with
  | some a => decide (0 ≤ a.beg) && decide (a.beg ≤ a.fin) && decide (a.fin ≤ 1099511627776) && !(l.take i).any fun b => decide (a.thread = b.thread) && overl a b
  | none => true
def validL (l : List Done) : Bool := decide (l.length ≤ 10) && (List.range l.length).all (okAt l)
theorem validL_of {l : List Done} (h : l.length ≤ 10) (hall : ∀ i, i < l.length → okAt l i = true) : validL l = true := by
  simp only [validL, h, decide_true, Bool.true_and, List.all_eq_true, List.mem_range]
  exact hall
theorem validL_not {l : List Done} {i : Nat} (hi : i < l.length) (h : okAt l i = false) : validL l = false := by
  cases hv : validL l with
  | false => rfl
  | true =>
    simp only [validL, Bool.and_eq_true, List.all_eq_true, List.mem_range] at hv
    rw [hv.2 i hi] at h; cases h
theorem validL_long {l : List Done} (h : 10 < l.length) : validL l = false := by
  simp only [validL, decide_eq_false (show ¬ l.length ≤ 10 by omega), Bool.false_and]
end PQ
namespace PQ
theorem pos_lo : ∀ {l : List Ent} {t : Int} {j : Nat} (_ : j < pos l t) (hj' : j < l.length), l[j].time ≤ t
  | [], _, _, _, hj' => absurd hj' (Nat.not_lt_zero _)
  | e :: l, t, j, hj, hj' => by
    unfold pos at hj
    by_cases he : e.time ≤ t
    · cases j with
      | zero => exact he
      | succ j =>
        simp only [List.takeWhile_cons, he, decide_true, if_true, List.length_cons] at hj
        have := pos_lo (l := l) (t := t) (j := j) (by unfold pos; omega) (by simpa using hj')
        simpa using this
    · simp [List.takeWhile_cons, he] at hj
theorem pos_hi : ∀ {l : List Ent} {t : Int} {j : Nat} (_ : l.Pairwise fun a b => a.time ≤ b.time) (_ : pos l t ≤ j) (hj' : j < l.length), t < l[j].time
  | [], _, _, _, _, hj' => absurd hj' (Nat.not_lt_zero _)
  | e :: l, t, j, hs, hj, hj' => by
    unfold pos at hj
    rw [List.pairwise_cons] at hs
    by_cases he : e.time ≤ t
    · simp only [List.takeWhile_cons, he, decide_true, if_true, List.length_cons] at hj
      cases j with
      | zero => omega
      | succ j =>
        have := pos_hi (l := l) (t := t) (j := j) hs.2 (by unfold pos; omega) (by simpa using hj')
        simpa using this
    · cases j with
      | zero => simp; omega
      | succ j =>
        have := hs.1 (l[j]'(by simpa using hj')) (List.getElem_mem _)
        simp; omega
end PQ
namespace PQ
def done0 : Done := ⟨0, ⟨0, 0, 0, 0, 0⟩, {}, 0, 0, 0⟩
def dat (l : List Done) (i : Nat) : Done := (l[i]?).getD done0
theorem dat_get {l : List Done} {i : Nat} (h : i < l.length) : dat l i = l[i] := by simp [dat, h]
def capBad (cap : Int) : Prop := cap < 1 ∨ 64 < cap
instance (cap : Int) : Decidable (capBad cap) := inferInstanceAs (Decidable (_ ∨ _))
/-- The model behind an order's first calls: none where one does not replay. -/
def repL (l : List Done) : Mod → List Int → List Int → Option Mod
  | m, _, [] => some m
  | m, seen, i :: r =>
    if i < 0 ∨ (l.length : Int) ≤ i ∨ seen.contains i = true then none
    else if seen.any (fun j => prec (dat l i.toNat) (dat l j.toNat)) = true then none
    else if (accM m (dat l i.toNat).call (dat l i.toNat).res).2 = true then repL l (accM m (dat l i.toNat).call (dat l i.toNat).res).1 (seen ++ [i]) r
    else none
def replayL (cap : Int) (l : List Done) (ord : List Int) : Bool :=
  if capBad cap ∨ ord.length ≠ l.length then false else (repL l ⟨cap, [], 0, []⟩ [] ord).isSome
/-- May call 'i' come next, behind the calls of 'used'? -/
def readyL (l : List Done) (used : List Nat) (i : Nat) : Bool :=
  !used.contains i && (List.range l.length).all fun j => used.contains j || !prec (dat l j) (dat l i)
/-- The first order, in the order of words, that goes on from 'ord' by k calls. -/
def searchL (l : List Done) : Nat → Mod → List Nat → Option (List Nat)
  | 0, _, ord => some ord
  | k + 1, m, ord => (List.range l.length).findSome? fun i =>
    if readyL l ord i = true then
      if (accM m (dat l i).call (dat l i).res).2 = true then searchL l k (accM m (dat l i).call (dat l i).res).1 (ord ++ [i]) else none
    else none
def checkL (cap : Int) (l : List Done) : Option (List Nat) := if capBad cap then none else searchL l l.length ⟨cap, [], 0, []⟩ []
end PQ
namespace PQ
/-- What an order that replays obeys. -/
structure Obeys (l : List Done) (seen t : List Int) : Prop where
  rng : ∀ i ∈ t, 0 ≤ i ∧ i < (l.length : Int)
  new : ∀ i ∈ t, i ∉ seen
  nodup : t.Nodup
  old : ∀ i ∈ t, ∀ j ∈ seen, prec (dat l i.toNat) (dat l j.toNat) = false
  ord : t.Pairwise fun j i => prec (dat l i.toNat) (dat l j.toNat) = false
theorem repL_cons {l : List Done} {m : Mod} {seen r : List Int} {i : Int} (h : (repL l m seen (i :: r)).isSome = true) :
    0 ≤ i ∧ i < (l.length : Int) ∧ i ∉ seen ∧ (∀ j ∈ seen, prec (dat l i.toNat) (dat l j.toNat) = false) ∧
    (accM m (dat l i.toNat).call (dat l i.toNat).res).2 = true ∧ (repL l (accM m (dat l i.toNat).call (dat l i.toNat).res).1 (seen ++ [i]) r).isSome = true := by
  unfold repL at h
  split at h
  · cases h
  · rename_i h1
    split at h
    · cases h
    · rename_i h2
      split at h
      · rename_i h3
        refine ⟨by omega, by omega, fun hx => h1 (.inr (.inr (by simpa using hx))), fun j hj => ?_, h3, h⟩
        cases hp : prec (dat l i.toNat) (dat l j.toNat) with
        | false => rfl
        | true => exact absurd (List.any_eq_true.2 ⟨j, hj, hp⟩) h2
      · cases h
theorem repL_obeys {l : List Done} : ∀ {t : List Int} {m : Mod} {seen : List Int}, (repL l m seen t).isSome = true → Obeys l seen t
  | [], _, _, _ => ⟨by simp, by simp, List.nodup_nil, by simp, List.Pairwise.nil⟩
  | i :: r, m, seen, h => by
    obtain ⟨h1, h2, h3, h4, _, h6⟩ := repL_cons h
    have ih := repL_obeys h6
    refine ⟨?_, ?_, ?_, ?_, ?_⟩
    · rintro x hx
      rcases List.mem_cons.1 hx with rfl | hx
      · exact ⟨h1, h2⟩
      · exact ih.rng x hx
    · rintro x hx
      rcases List.mem_cons.1 hx with rfl | hx
      · exact h3
      · exact fun hs => ih.new x hx (List.mem_append_left _ hs)
    · rw [List.nodup_cons]
      exact ⟨fun hx => ih.new i hx (List.mem_append_right _ (List.mem_singleton.2 rfl)), ih.nodup⟩
    · rintro x hx j hj
      rcases List.mem_cons.1 hx with rfl | hx
      · exact h4 j hj
      · exact ih.old x hx j (List.mem_append_left _ hj)
    · rw [List.pairwise_cons]
      exact ⟨fun x hx => ih.old x hx i (List.mem_append_right _ (List.mem_singleton.2 rfl)), ih.ord⟩
def oI (l : List Nat) : List Int := l.map fun (n : Nat) => (n : Int)
theorem oI_mem {l : List Nat} {n : Nat} : (n : Int) ∈ oI l ↔ n ∈ l := by
  unfold oI
  rw [List.mem_map]
  constructor
  · rintro ⟨x, hx, h⟩
    have : x = n := by omega
    exact this ▸ hx
  · exact fun h => ⟨n, h, rfl⟩
/-- What the search keeps of the calls that it used. -/
structure Used (l : List Done) (used : List Nat) : Prop where
  rng : ∀ i ∈ used, i < l.length
  free : ∀ i, i < l.length → i ∉ used → ∀ j ∈ used, prec (dat l i) (dat l j) = false
theorem Used.nil (l : List Done) : Used l [] := ⟨by simp, by simp⟩
theorem ready_iff {l : List Done} {used : List Nat} {i : Nat} : readyL l used i = true ↔ i ∉ used ∧ ∀ j, j < l.length → j ∈ used ∨ prec (dat l j) (dat l i) = false := by
  unfold readyL
  simp
theorem Used.step {l : List Done} {used : List Nat} {i : Nat} (h : Used l used) (hi : i < l.length) (hr : readyL l used i = true) : Used l (used ++ [i]) := by
  rw [ready_iff] at hr
  refine ⟨fun x hx => ?_, fun x hx hn j hj => ?_⟩
  · rcases List.mem_append.1 hx with hx | hx
    · exact h.rng x hx
    · rw [List.mem_singleton.1 hx]; exact hi
  · have hn1 : x ∉ used := fun hh => hn (List.mem_append_left _ hh)
    rcases List.mem_append.1 hj with hj | hj
    · exact h.free x hx hn1 j hj
    · rw [List.mem_singleton.1 hj]
      exact (hr.2 x hx).elim (fun hh => absurd hh hn1) id
theorem oI_append (a b : List Nat) : oI (a ++ b) = oI a ++ oI b := by rw [oI, List.map_append]; rfl
theorem search_sound {l : List Done} : ∀ {k : Nat} {m : Mod} {ord r : List Nat}, Used l ord → searchL l k m ord = some r →
    ∃ t, r = ord ++ t ∧ t.length = k ∧ (repL l m (oI ord) (oI t)).isSome = true
  | 0, m, ord, r, _, h => by
    unfold searchL at h
    cases h
    exact ⟨[], by simp, rfl, rfl⟩
  | k + 1, m, ord, r, hu, h => by
    unfold searchL at h
    obtain ⟨i, hi, h⟩ := List.exists_of_findSome?_eq_some h
    rw [List.mem_range] at hi
    split at h
    · rename_i hr
      split at h
      · rename_i ha
        obtain ⟨t, ht, hk, hs⟩ := search_sound (hu.step hi hr) h
        refine ⟨i :: t, by rw [ht]; simp, by simp [hk], ?_⟩
        rw [ready_iff] at hr
        show (repL l m (oI ord) ((i : Int) :: oI t)).isSome = true
        unfold repL
        rw [if_neg, if_neg, Int.toNat_natCast, if_pos ha]
        · rw [oI_append] at hs; exact hs
        · rw [List.any_eq_true]
          rintro ⟨j, hj, hp⟩
          obtain ⟨n, hn, rfl⟩ := List.mem_map.1 hj
          rw [Int.toNat_natCast, Int.toNat_natCast, hu.free i hi hr.1 n hn] at hp
          cases hp
        · rintro (h1 | h1 | h1)
          · omega
          · omega
          · exact hr.1 (oI_mem.1 (by simpa using h1))
      · cases h
    · cases h
theorem check_sound {cap : Int} {l : List Done} {r : List Nat} (h : checkL cap l = some r) : r.length = l.length ∧ replayL cap l (oI r) = true := by
  unfold checkL at h
  split at h
  · cases h
  · rename_i hc
    obtain ⟨t, ht, hk, hs⟩ := search_sound (Used.nil l) h
    rw [List.nil_append] at ht
    subst ht
    refine ⟨hk, ?_⟩
    unfold replayL
    rw [if_neg]
    · exact hs
    · rintro (h1 | h1)
      · exact hc h1
      · exact h1 (by rw [oI, List.length_map]; exact hk)
def LexLe : List Nat → List Nat → Prop
  | a :: x, b :: y => a < b ∨ (a = b ∧ LexLe x y)
  | _, _ => True
/-- As many different numbers below n as n are all of them. -/
theorem all_of_nodup {n : Nat} {a : List Nat} (hn : a.Nodup) (hr : ∀ i ∈ a, i < n) (hl : a.length = n) {j : Nat} (hj : j < n) : j ∈ a := by
  refine Decidable.byContradiction fun hx => ?_
  have h1 : (j :: a).Nodup := List.nodup_cons.2 ⟨hx, hn⟩
  have h2 := h1.length_le_of_subset (l₂ := List.range n) (fun x hx => List.mem_range.2 (by
    rcases List.mem_cons.1 hx with rfl | hx
    · exact hj
    · exact hr x hx))
  rw [List.length_range, List.length_cons] at h2
  omega
theorem oI_nodup {a : List Nat} : (oI a).Nodup ↔ a.Nodup := by
  induction a with
  | nil => simp [oI]
  | cons x r ih =>
    rw [show oI (x :: r) = (x : Int) :: oI r from rfl, List.nodup_cons, List.nodup_cons, ih, oI_mem]
theorem oI_length (a : List Nat) : (oI a).length = a.length := by rw [oI, List.length_map]
theorem prec_irrefl {a : Done} (h : a.beg ≤ a.fin) : prec a a = false := decide_eq_false (by omega)
theorem findSome_range {α : Type} {f : Nat → Option α} {n i : Nat} {x : α} (hi : i < n) (hx : f i = some x) :
    ∃ j y, j ≤ i ∧ f j = some y ∧ (List.range n).findSome? f = some y ∧ (j = i → y = x) := by
  cases hf : (List.range n).findSome? f with
  | none =>
    rw [List.findSome?_eq_none_iff] at hf
    rw [hf i (List.mem_range.2 hi)] at hx
    cases hx
  | some y =>
    rw [List.findSome?_eq_some_iff] at hf
    obtain ⟨a, j, b, hab, hy, hnone⟩ := hf
    have hj : j = a.length := by
      have h1 : (List.range n)[a.length]? = some j := by rw [hab]; simp
      rw [List.getElem?_range] at h1
      · simpa using h1.symm
      · have := congrArg List.length hab
        simp only [List.length_range, List.length_append, List.length_cons] at this
        omega
    refine ⟨j, y, ?_, hy, rfl, fun e => ?_⟩
    · refine Nat.le_of_not_lt fun hlt => ?_
      have hm : i ∈ a := by
        have h1 : (List.range n)[i]? = some i := by rw [List.getElem?_range hi]
        rw [hab, List.getElem?_append_left (by omega)] at h1
        exact List.mem_of_getElem? h1
      rw [hnone i hm] at hx
      cases hx
    · rw [e, hx] at hy
      exact (Option.some.inj hy).symm
theorem search_complete {l : List Done} (hv : ∀ d ∈ l, d.beg ≤ d.fin) : ∀ {k : Nat} {m : Mod} {ord t : List Nat}, Used l ord → ord.Nodup → ord.length + k = l.length → t.length = k →
    (repL l m (oI ord) (oI t)).isSome = true → ∃ r, searchL l k m ord = some (ord ++ r) ∧ r.length = k ∧ LexLe r t
  | 0, m, ord, t, _, _, _, ht, _ => by
    rw [List.length_eq_zero_iff] at ht
    subst ht
    exact ⟨[], by rw [searchL, List.append_nil], rfl, trivial⟩
  | k + 1, m, ord, [], _, _, _, ht, _ => by cases ht
  | k + 1, m, ord, i :: t, hu, hnd, hk, ht, h => by
    obtain ⟨_, h2, h3, h4, h5, h6⟩ := repL_cons (show (repL l m (oI ord) ((i : Int) :: oI t)).isSome = true from h)
    have hob := repL_obeys h6
    have hin : i < l.length := by omega
    have h3' : i ∉ ord := fun hx => h3 (oI_mem.2 hx)
    have htl : t.length = k := by simpa using ht
    have hnd' : (ord ++ [i]).Nodup := by
      rw [List.nodup_append]
      exact ⟨hnd, by simp, fun a ha b hb e => by rw [List.mem_singleton.1 hb] at e; exact h3' (e ▸ ha)⟩
    have hall : (ord ++ [i] ++ t).Nodup := by
      rw [List.nodup_append]
      refine ⟨hnd', oI_nodup.1 hob.nodup, fun a ha b hb e => ?_⟩
      subst e
      have := hob.new (a : Int) (oI_mem.2 hb)
      exact this (by
        have := oI_mem.2 ha
        rw [oI_append] at this
        exact this)
    have hready : readyL l ord i = true := by
      rw [ready_iff]
      refine ⟨h3', fun j hj => ?_⟩
      have hm : j ∈ ord ++ [i] ++ t := all_of_nodup hall (fun x hx => by
        rcases List.mem_append.1 hx with hx | hx
        · rcases List.mem_append.1 hx with hx | hx
          · exact hu.rng x hx
          · rw [List.mem_singleton.1 hx]; exact hin
        · have := (hob.rng (x : Int) (oI_mem.2 hx)).2
          omega) (by simp only [List.length_append, List.length_cons, List.length_nil]; omega) hj
      rcases List.mem_append.1 hm with hm | hm
      · rcases List.mem_append.1 hm with hm | hm
        · exact .inl hm
        · rw [List.mem_singleton.1 hm]
          refine .inr (prec_irrefl ?_)
          rw [dat_get hin]
          exact hv _ (List.getElem_mem hin)
      · have := hob.old (j : Int) (oI_mem.2 hm) (i : Int) (List.mem_append_right _ (List.mem_singleton.2 rfl))
        rw [Int.toNat_natCast, Int.toNat_natCast] at this
        exact .inr this
    obtain ⟨r, hr, hrl, hle⟩ := search_complete hv (hu.step hin hready) hnd' (by simp only [List.length_append, List.length_cons, List.length_nil]; omega) htl
      (by rw [oI_append]; exact h6)
    rw [Int.toNat_natCast] at h5
    have hfi : (if readyL l ord i = true then
      if (accM m (dat l i).call (dat l i).res).2 = true then searchL l k (accM m (dat l i).call (dat l i).res).1 (ord ++ [i]) else none
      else none) = some (ord ++ [i] ++ r) := by
      rw [if_pos hready, if_pos h5]
      rw [Int.toNat_natCast] at hr
      exact hr
    obtain ⟨j, y, hji, hy, hsome, heq⟩ := findSome_range (f := fun i => if readyL l ord i = true then
      if (accM m (dat l i).call (dat l i).res).2 = true then searchL l k (accM m (dat l i).call (dat l i).res).1 (ord ++ [i]) else none
      else none) hin hfi
    have hs : searchL l (k + 1) m ord = some y := by rw [searchL]; exact hsome
    rcases Nat.lt_or_ge j i with hlt | hge
    · have hjn : j < l.length := by omega
      split at hy
      · rename_i hrj
        split at hy
        · obtain ⟨q, hq, hql, _⟩ := search_sound (hu.step hjn hrj) hy
          exact ⟨j :: q, by rw [hs, hq]; simp, by simp [hql], .inl hlt⟩
        · cases hy
      · cases hy
    · have : j = i := by omega
      subst this
      exact ⟨j :: r, by rw [hs, heq rfl]; simp, by simp [hrl], .inr ⟨rfl, hle⟩⟩
theorem repL_toNat {l : List Done} {m : Mod} {t : List Int} (h : (repL l m [] t).isSome = true) : t = oI (t.map Int.toNat) := by
  have ho := repL_obeys h
  have : ∀ {u : List Int}, (∀ i ∈ u, 0 ≤ i) → u = oI (u.map Int.toNat) := by
    intro u
    induction u with
    | nil => exact fun _ => rfl
    | cons x r ih =>
      intro hu
      show x :: r = ((x.toNat : Nat) : Int) :: oI (r.map Int.toNat)
      rw [← ih fun i hi => hu i (List.mem_cons_of_mem _ hi), Int.toNat_of_nonneg (hu x List.mem_cons_self)]
  exact this fun i hi => (ho.rng i hi).1
theorem check_complete {cap : Int} {l : List Done} {ord : List Int} (hv : ∀ d ∈ l, d.beg ≤ d.fin) (h : replayL cap l ord = true) :
    ∃ r t, checkL cap l = some r ∧ r.length = l.length ∧ ord = oI t ∧ t.length = l.length ∧ LexLe r t := by
  unfold replayL at h
  split at h
  · cases h
  · rename_i hc
    have ht := repL_toNat h
    rw [ht] at h
    have hlen : (ord.map Int.toNat).length = l.length := by
      rw [List.length_map]
      exact Decidable.byContradiction fun hx => hc (.inr hx)
    obtain ⟨r, hr, hrl, hle⟩ := search_complete (ord := []) hv (Used.nil l) List.nodup_nil (by simp) hlen h
    refine ⟨r, ord.map Int.toNat, ?_, hrl, ht, hlen, hle⟩
    rw [checkL, if_neg fun hx => hc (.inl hx), hr, List.nil_append]
theorem valid_fin {l : List Done} (h : validL l = true) : ∀ d ∈ l, d.beg ≤ d.fin := by
  intro d hd
  obtain ⟨i, hi, rfl⟩ := List.mem_iff_getElem.1 hd
  simp only [validL, Bool.and_eq_true, List.all_eq_true, List.mem_range] at h
  have := h.2 i hi
  unfold okAt at this
  rw [List.getElem?_eq_getElem hi] at this
  simp only [Bool.and_eq_true, decide_eq_true_eq] at this
  exact this.1.1.2
/-- Do the calls, in this order, replay on the model? -/
def fitsL : Mod → List Done → Bool
  | _, [] => true
  | m, x :: r => (accM m x.call x.res).2 && fitsL (accM m x.call x.res).1 r
/-- Every call precedes the next ones. -/
def Seqd (l : List Done) : Prop := ∀ i j, i < l.length → j < l.length → (prec (dat l i) (dat l j) = true ↔ i < j)
theorem search_seq {l : List Done} (hs : Seqd l) : ∀ {k i : Nat} {m : Mod}, i + k = l.length →
    searchL l k m (List.range i) = if fitsL m (l.drop i) = true then some (List.range l.length) else none
  | 0, i, m, h => by
    rw [searchL, List.drop_eq_nil_of_le (by omega), if_pos (show fitsL m [] = true from rfl), show i = l.length by omega]
  | k + 1, i, m, h => by
    have hi : i < l.length := by omega
    have hready : readyL l (List.range i) i = true := by
      rw [ready_iff]
      refine ⟨by simp, fun j hj => ?_⟩
      rcases Nat.lt_or_ge j i with hji | hji
      · exact .inl (List.mem_range.2 hji)
      · right
        cases hp : prec (dat l j) (dat l i) with
        | false => rfl
        | true => have := (hs j i hj hi).1 hp; omega
    have hnot : ∀ j, j < l.length → j ≠ i → ¬ readyL l (List.range i) j = true := by
      intro j hj hne hr
      rw [ready_iff] at hr
      have hji : i < j := by
        have : ¬ j < i := fun hx => hr.1 (List.mem_range.2 hx)
        omega
      rcases hr.2 i hi with hx | hx
      · simp at hx
      · rw [(hs i j hi hj).2 hji] at hx; cases hx
    have hd : l.drop i = dat l i :: l.drop (i + 1) := by rw [dat_get hi]; exact List.drop_eq_getElem_cons hi
    rw [hd]
    have hf : fitsL m (dat l i :: l.drop (i + 1)) = ((accM m (dat l i).call (dat l i).res).2 && fitsL (accM m (dat l i).call (dat l i).res).1 (l.drop (i + 1))) := rfl
    rw [hf, searchL]
    have ih := search_seq hs (k := k) (i := i + 1) (m := (accM m (dat l i).call (dat l i).res).1) (by omega)
    rw [List.range_succ] at ih
    cases hx : (List.range l.length).findSome? fun j =>
      if readyL l (List.range i) j = true then
        if (accM m (dat l j).call (dat l j).res).2 = true then searchL l k (accM m (dat l j).call (dat l j).res).1 (List.range i ++ [j]) else none
      else none with
    | none =>
      have := List.findSome?_eq_none_iff.1 hx i (List.mem_range.2 hi)
      rw [if_pos hready] at this
      cases ha : (accM m (dat l i).call (dat l i).res).2 with
      | false => rfl
      | true =>
        rw [if_pos ha, ih] at this
        rw [Bool.true_and, this]
    | some y =>
      obtain ⟨j, hj, hy⟩ := List.exists_of_findSome?_eq_some hx
      have hj := List.mem_range.1 hj
      by_cases hji : j = i
      · subst hji
        rw [if_pos hready] at hy
        cases ha : (accM m (dat l j).call (dat l j).res).2 with
        | false => rw [ha] at hy; cases hy
        | true =>
          rw [if_pos ha, ih] at hy
          rw [Bool.true_and, hy]
      · rw [if_neg (hnot j hj hji)] at hy
        cases hy
theorem check_seq {cap : Int} {l : List Done} (hc : ¬ capBad cap) (hs : Seqd l) :
    checkL cap l = if fitsL ⟨cap, [], 0, []⟩ l = true then some (List.range l.length) else none := by
  rw [checkL, if_neg hc]
  exact search_seq hs (i := 0) (by omega)
end PQ
namespace PQ
structure It where
  time : Int
  seq : Int
  slot : Int
  deriving DecidableEq
structure Rg where
  frm : Int
  width : Int
  cur : Int
  bks : List (List It)
  deriving DecidableEq
structure Ld where
  ts : Int
  top : List It
  rungs : List Rg
  bot : List It
  deriving DecidableEq
instance : Inhabited It := ⟨⟨0, 0, 0⟩⟩
instance : Inhabited Rg := ⟨⟨0, 0, 0, []⟩⟩
instance : Inhabited Ld := ⟨⟨0, [], [], []⟩⟩
def ltIt (a b : It) : Bool := decide (a.time < b.time) || (decide (a.time = b.time) && decide (a.seq < b.seq))
def startR (r : Rg) (i : Int) : Int := r.frm + i * r.width
def curR (r : Rg) : Int := startR r r.cur
def endR (r : Rg) : Int := startR r 8
def idxR (r : Rg) (t : Int) : Nat := ((t - r.frm).tdiv r.width).toNat
def putR (r : Rg) (it : It) : Rg := if it.time < curR r ∨ endR r ≤ it.time then r else { r with bks := r.bks.modify (idxR r it.time) (· ++ [it]) }
def nextR (r : Rg) : Option (Rg × List It × Int) :=
  match r.bks.findIdx? (fun b => !b.isEmpty) with
  | none => none
  | some i => some ({ r with bks := r.bks.set i [], cur := i + 1 }, r.bks[i]?.getD [], startR r i)
def posIt (l : List It) (it : It) : Nat := (l.takeWhile (ltIt · it)).length
def insIt (l : List It) (it : It) : List It := l.take (posIt l it) ++ it :: l.drop (posIt l it)
/-- An item put into a sorted list, behind those that are not greater. -/
def insA (l : List It) (it : It) : List It := l.takeWhile (!ltIt it ·) ++ it :: l.dropWhile (!ltIt it ·)
def sortIt (l : List It) : List It := l.foldl insA []
def insertL (l : Ld) (it : It) : Ld :=
  if l.ts ≤ it.time then { l with top := l.top ++ [it] }
  else match l.rungs.findIdx? (fun r => decide (curR r ≤ it.time)) with
    | some i => { l with rungs := l.rungs.modify i (putR · it) }
    | none => { l with bot := insIt l.bot it }
def newR (frm width : Int) : Rg := ⟨frm, width, 0, List.replicate 8 []⟩
def spreadL (l : Ld) (frm width : Int) (items : List It) : Ld := { l with rungs := l.rungs ++ [items.foldl putR (newR frm width)] }
def minT : List It → Int
  | [] => 0
  | x :: r => r.foldl (fun m y => if y.time < m then y.time else m) x.time
def maxT : List It → Int
  | [] => 0
  | x :: r => r.foldl (fun m y => if m < y.time then y.time else m) x.time
def ceil8 (n : Int) : Int := (n + 8 - 1).tdiv 8
def takeTop (l : Ld) : Ld :=
  if l.top.length ≤ 4 then { l with top := [], ts := maxT l.top + 1, bot := sortIt l.top }
  else spreadL { l with top := [], ts := maxT l.top + 1 } (minT l.top) (ceil8 (maxT l.top - minT l.top + 1)) l.top
def takeRung (l : Ld) : Ld :=
  match nextR (l.rungs.getLast?.getD default) with
  | none => { l with rungs := l.rungs.dropLast }
  | some (r, items, start) =>
    if 4 < items.length ∧ l.rungs.length < 4 ∧ 1 < r.width then spreadL { l with rungs := l.rungs.dropLast ++ [r] } start (ceil8 r.width) items
    else { l with rungs := l.rungs.dropLast ++ [r], bot := sortIt items }
def doneL (l : Ld) : Bool := !l.bot.isEmpty || (l.rungs.isEmpty && l.top.isEmpty)
def fillL1 (l : Ld) : Ld := if l.rungs.isEmpty then takeTop l else takeRung l
def peekN : Nat → Ld → Ld
  | 0, l => l
  | n + 1, l => if doneL l then l else peekN n (fillL1 l)
def peekL (l : Ld) : Ld := peekN 20 l
def popL (l : Ld) : Ld := { peekL l with bot := (peekL l).bot.drop 1 }
/-- What every item's time obeys. -/
def TimeOk (t : Int) : Prop := 0 ≤ t ∧ t ≤ 1152921504606846976
def ItsOk (l : List It) : Prop := ∀ x ∈ l, TimeOk x.time
structure RgOk (r : Rg) : Prop where
  frm0 : 0 ≤ r.frm
  frm1 : r.frm ≤ 1152921504606846976
  wid0 : 1 ≤ r.width
  wid1 : r.width ≤ 144115188075855873
  cur0 : 0 ≤ r.cur
  cur1 : r.cur ≤ 8
  len : r.bks.length = 8
  its : ∀ (i : Nat) (b : List It), r.bks[i]? = some b → ∀ x ∈ b, TimeOk x.time ∧ r.cur ≤ i ∧ startR r i ≤ x.time ∧ x.time < startR r (i + 1)
def sizeR (r : Rg) : Nat := r.bks.flatten.length
def sizeL (l : Ld) : Nat := l.top.length + (l.rungs.map sizeR).sum + l.bot.length
theorem mul_bound {i w : Int} (h0 : 0 ≤ i) (h1 : i ≤ 8) (w0 : 1 ≤ w) (w1 : w ≤ 144115188075855873) : 0 ≤ i * w ∧ i * w ≤ 1152921504606846984 := by
  have a := Int.mul_nonneg h0 (show 0 ≤ w by omega)
  have b := Int.mul_le_mul h1 w1 (by omega) (by omega)
  omega
theorem RgOk.start {r : Rg} (h : RgOk r) {i : Int} (h0 : 0 ≤ i) (h1 : i ≤ 8) : 0 ≤ startR r i ∧ startR r i ≤ 2305843009213693960 := by
  have := mul_bound h0 h1 h.wid0 h.wid1
  have := h.frm0; have := h.frm1
  unfold startR; omega
theorem ceil8_eq {n : Int} (h : 1 ≤ n) : 8 * ceil8 n - 7 ≤ n ∧ n ≤ 8 * ceil8 n := by
  unfold ceil8
  have : (n + 8 - 1).tdiv 8 = (n + 7) / 8 := by rw [Int.tdiv_eq_ediv_of_nonneg (by omega)]; congr 1; omega
  rw [this]; omega
theorem minT_le : ∀ {l : List It} {x : It}, x ∈ l → minT l ≤ x.time := by
  have key : ∀ (l : List It) (m : Int), l.foldl (fun m y => if y.time < m then y.time else m) m ≤ m ∧ ∀ x ∈ l, l.foldl (fun m y => if y.time < m then y.time else m) m ≤ x.time := by
    intro l
    induction l with
    | nil => intro m; exact ⟨Int.le_refl _, by simp⟩
    | cons y l ih =>
      intro m
      simp only [List.foldl_cons]
      have h := ih (if y.time < m then y.time else m)
      refine ⟨?_, fun x hx => ?_⟩
      · have := h.1; split at this <;> omega
      · rcases List.mem_cons.1 hx with rfl | hx
        · have := h.1; split at this <;> omega
        · exact h.2 x hx
  intro l x hx
  match l, hx with
  | y :: l, hx =>
    have h := key l y.time
    rcases List.mem_cons.1 hx with rfl | hx
    · exact h.1
    · exact h.2 x hx
theorem le_maxT : ∀ {l : List It} {x : It}, x ∈ l → x.time ≤ maxT l := by
  have key : ∀ (l : List It) (m : Int), m ≤ l.foldl (fun m y => if m < y.time then y.time else m) m ∧ ∀ x ∈ l, x.time ≤ l.foldl (fun m y => if m < y.time then y.time else m) m := by
    intro l
    induction l with
    | nil => intro m; exact ⟨Int.le_refl _, by simp⟩
    | cons y l ih =>
      intro m
      simp only [List.foldl_cons]
      have h := ih (if m < y.time then y.time else m)
      refine ⟨?_, fun x hx => ?_⟩
      · have := h.1; split at this <;> omega
      · rcases List.mem_cons.1 hx with rfl | hx
        · have := h.1; split at this <;> omega
        · exact h.2 x hx
  intro l x hx
  match l, hx with
  | y :: l, hx =>
    have h := key l y.time
    rcases List.mem_cons.1 hx with rfl | hx
    · exact h.1
    · exact h.2 x hx
theorem minT_mem : ∀ {l : List It}, l ≠ [] → ∃ x ∈ l, minT l = x.time := by
  have key : ∀ (l : List It) (m : Int), l.foldl (fun m y => if y.time < m then y.time else m) m = m ∨ ∃ x ∈ l, l.foldl (fun m y => if y.time < m then y.time else m) m = x.time := by
    intro l
    induction l with
    | nil => intro m; exact .inl rfl
    | cons y l ih =>
      intro m
      simp only [List.foldl_cons]
      rcases ih (if y.time < m then y.time else m) with h | ⟨x, hx, h⟩
      · rw [h]; split
        · exact .inr ⟨y, .head _, rfl⟩
        · exact .inl rfl
      · exact .inr ⟨x, .tail _ hx, h⟩
  intro l hl
  match l, hl with
  | y :: l, _ =>
    rcases key l y.time with h | ⟨x, hx, h⟩
    · exact ⟨y, .head _, h⟩
    · exact ⟨x, .tail _ hx, h⟩
theorem maxT_mem : ∀ {l : List It}, l ≠ [] → ∃ x ∈ l, maxT l = x.time := by
  have key : ∀ (l : List It) (m : Int), l.foldl (fun m y => if m < y.time then y.time else m) m = m ∨ ∃ x ∈ l, l.foldl (fun m y => if m < y.time then y.time else m) m = x.time := by
    intro l
    induction l with
    | nil => intro m; exact .inl rfl
    | cons y l ih =>
      intro m
      simp only [List.foldl_cons]
      rcases ih (if m < y.time then y.time else m) with h | ⟨x, hx, h⟩
      · rw [h]; split
        · exact .inr ⟨y, .head _, rfl⟩
        · exact .inl rfl
      · exact .inr ⟨x, .tail _ hx, h⟩
  intro l hl
  match l, hl with
  | y :: l, _ =>
    rcases key l y.time with h | ⟨x, hx, h⟩
    · exact ⟨y, .head _, h⟩
    · exact ⟨x, .tail _ hx, h⟩
theorem mem_insA {l : List It} {it x : It} : x ∈ insA l it ↔ x = it ∨ x ∈ l := by
  unfold insA
  rw [List.mem_append, List.mem_cons]
  have : x ∈ l ↔ x ∈ l.takeWhile (!ltIt it ·) ∨ x ∈ l.dropWhile (!ltIt it ·) := by
    rw [← List.mem_append, List.takeWhile_append_dropWhile]
  rw [this]
  constructor
  · rintro (h | h | h)
    · exact .inr (.inl h)
    · exact .inl h
    · exact .inr (.inr h)
  · rintro (h | h | h)
    · exact .inr (.inl h)
    · exact .inl h
    · exact .inr (.inr h)
theorem insA_length (l : List It) (it : It) : (insA l it).length = l.length + 1 := by
  unfold insA
  have := congrArg List.length (List.takeWhile_append_dropWhile (p := (!ltIt it ·)) (l := l))
  simp only [List.length_append, List.length_cons] at this ⊢
  omega
theorem foldl_insA_length : ∀ (l acc : List It), (l.foldl insA acc).length = acc.length + l.length
  | [], acc => rfl
  | x :: l, acc => by
    rw [List.foldl_cons, foldl_insA_length l (insA acc x), insA_length, List.length_cons]; omega
theorem sortIt_length (l : List It) : (sortIt l).length = l.length := by
  unfold sortIt; rw [foldl_insA_length]; simp
theorem mem_foldl_insA {x : It} : ∀ (l acc : List It), x ∈ l.foldl insA acc ↔ x ∈ acc ∨ x ∈ l
  | [], acc => by simp
  | y :: l, acc => by
    rw [List.foldl_cons, mem_foldl_insA l (insA acc y), mem_insA, List.mem_cons]
    constructor
    · rintro ((h | h) | h)
      · exact .inr (.inl h)
      · exact .inl h
      · exact .inr (.inr h)
    · rintro (h | h | h)
      · exact .inl (.inr h)
      · exact .inl (.inl h)
      · exact .inr h
theorem mem_sortIt {l : List It} {x : It} : x ∈ sortIt l ↔ x ∈ l := by
  unfold sortIt; rw [mem_foldl_insA]; simp
end PQ
namespace PQ
theorem startR_succ (r : Rg) (i : Int) : startR r (i + 1) = startR r i + r.width := by
  unfold startR; rw [Int.add_mul]; omega
theorem startR_mono {r : Rg} (h : 1 ≤ r.width) {i j : Int} (hij : i ≤ j) : startR r i ≤ startR r j := by
  unfold startR
  have := Int.mul_le_mul_of_nonneg_right hij (show 0 ≤ r.width by omega)
  omega
theorem idxR_spec {r : Rg} (h : RgOk r) {t : Int} (h1 : curR r ≤ t) (h2 : t < endR r) : startR r (idxR r t) ≤ t ∧ t < startR r (idxR r t + 1) ∧ r.cur ≤ idxR r t ∧ idxR r t < 8 := by
  have hw := h.wid0
  have hc : r.frm ≤ t := by
    have := startR_mono hw h.cur0
    unfold startR at this
    unfold curR startR at h1
    omega
  have e : (t - r.frm).tdiv r.width = (t - r.frm) / r.width := Int.tdiv_eq_ediv_of_nonneg (by omega)
  have hq : 0 ≤ (t - r.frm) / r.width := Int.ediv_nonneg (by omega) (by omega)
  have hi : (idxR r t : Int) = (t - r.frm) / r.width := by unfold idxR; rw [e]; omega
  have m1 := Int.mul_ediv_self_le (x := t - r.frm) (k := r.width) (by omega)
  have m2 := Int.lt_mul_ediv_self_add (x := t - r.frm) (k := r.width) (by omega)
  have s1 : startR r (idxR r t) ≤ t := by unfold startR; rw [hi, Int.mul_comm]; omega
  have s2 : t < startR r (idxR r t + 1) := by rw [startR_succ]; unfold startR; rw [hi, Int.mul_comm]; omega
  refine ⟨s1, s2, ?_, ?_⟩
  · refine Int.not_lt.1 fun hlt => ?_
    have := startR_mono hw (show (idxR r t : Int) + 1 ≤ r.cur by omega)
    unfold curR at h1; omega
  · have : (idxR r t : Int) < 8 := Int.not_le.1 fun hle => by
      have := startR_mono hw hle
      unfold endR at h2; omega
    omega
theorem putR_ok {r : Rg} (h : RgOk r) {it : It} (ht : TimeOk it.time) : RgOk (putR r it) := by
  unfold putR
  split
  · exact h
  · rename_i hc
    have hs := idxR_spec h (t := it.time) (by omega) (by omega)
    refine ⟨h.frm0, h.frm1, h.wid0, h.wid1, h.cur0, h.cur1, by simp [h.len], fun i b hb x hx => ?_⟩
    rw [List.getElem?_modify] at hb
    cases hbi : r.bks[i]? with
    | none => rw [hbi] at hb; cases hb
    | some b' =>
      rw [hbi] at hb
      have hb : (if idxR r it.time = i then b' ++ [it] else b') = b := Option.some.inj hb
      by_cases hi : idxR r it.time = i
      · rw [if_pos hi] at hb
        subst hb
        rcases List.mem_append.1 hx with hx | hx
        · exact h.its i b' hbi x hx
        · rw [List.mem_singleton.1 hx]
          subst hi
          exact ⟨ht, hs.2.2.1, hs.1, hs.2.1⟩
      · rw [if_neg hi] at hb
        subst hb
        exact h.its i b' hbi x hx
theorem flatten_modify_perm {l : List (List It)} {x : It} : ∀ {i : Nat}, i < l.length → (l.modify i (· ++ [x])).flatten.Perm (x :: l.flatten) := by
  induction l with
  | nil => intro i hi; exact absurd hi (Nat.not_lt_zero _)
  | cons b l ih =>
    intro i hi
    cases i with
    | zero =>
      simp only [List.modify_zero_cons, List.flatten_cons]
      have : (b ++ [x] ++ l.flatten).Perm (x :: (b ++ l.flatten)) := by
        rw [List.append_assoc]
        exact List.perm_middle
      exact this
    | succ i =>
      simp only [List.modify_succ_cons, List.flatten_cons]
      have h1 := ih (i := i) (by simpa using hi)
      exact (h1.append_left b).trans List.perm_middle
theorem putR_perm {r : Rg} (h : RgOk r) {it : It} (h1 : curR r ≤ it.time) (h2 : it.time < endR r) : (putR r it).bks.flatten.Perm (it :: r.bks.flatten) := by
  unfold putR
  rw [if_neg (by omega)]
  exact flatten_modify_perm (by rw [h.len]; exact (idxR_spec h h1 h2).2.2.2)
theorem putR_same (r : Rg) (it : It) : (putR r it).frm = r.frm ∧ (putR r it).width = r.width ∧ (putR r it).cur = r.cur := by
  unfold putR; split <;> exact ⟨rfl, rfl, rfl⟩
theorem putR_cur (r : Rg) (it : It) : curR (putR r it) = curR r := by
  have := putR_same r it; unfold curR startR; rw [this.1, this.2.1, this.2.2]
theorem putR_end (r : Rg) (it : It) : endR (putR r it) = endR r := by
  have := putR_same r it; unfold endR startR; rw [this.1, this.2.1]
theorem newR_ok {f w : Int} (h0 : 0 ≤ f) (h1 : f ≤ 1152921504606846976) (h2 : 1 ≤ w) (h3 : w ≤ 144115188075855873) : RgOk (newR f w) := by
  refine ⟨h0, h1, h2, h3, Int.le_refl _, by show (0 : Int) ≤ 8; omega, by simp [newR], fun i b hb x hx => ?_⟩
  have : b = [] := by
    simp only [newR, List.getElem?_replicate] at hb
    split at hb
    · cases hb; rfl
    · cases hb
  subst this; cases hx
theorem foldl_putR {items : List It} : ∀ {r : Rg}, RgOk r → (∀ x ∈ items, TimeOk x.time) → (∀ x ∈ items, curR r ≤ x.time ∧ x.time < endR r) →
    RgOk (items.foldl putR r) ∧ (items.foldl putR r).bks.flatten.Perm (items ++ r.bks.flatten) ∧ curR (items.foldl putR r) = curR r ∧ endR (items.foldl putR r) = endR r ∧ (items.foldl putR r).width = r.width := by
  induction items with
  | nil => intro r h _ _; exact ⟨h, List.Perm.refl _, rfl, rfl, rfl⟩
  | cons x items ih =>
    intro r h ht hb
    have hx := hb x (.head _)
    have h1 := putR_ok h (ht x (.head _))
    obtain ⟨a, b, c, d, e⟩ := ih h1 (fun y hy => ht y (.tail _ hy)) (fun y hy => by rw [putR_cur, putR_end]; exact hb y (.tail _ hy))
    refine ⟨a, b.trans ?_, c.trans (putR_cur r x), d.trans (putR_end r x), e.trans (putR_same r x).2.1⟩
    have := (putR_perm h hx.1 hx.2).append_left items
    exact this.trans List.perm_middle
/-- The rungs' order: each rung ends at or above the bound; its items are below it; the next rung's bound is the least current time. -/
def RungsOk : Int → List Rg → Prop
  | _, [] => True
  | b, r :: rs => RgOk r ∧ b ≤ endR r ∧ (∀ x ∈ r.bks.flatten, x.time < b) ∧ RungsOk (min b (curR r)) rs
def lastB : Int → List Rg → Int
  | b, [] => b
  | b, r :: rs => lastB (min b (curR r)) rs
theorem RungsOk.append {rs qs : List Rg} : ∀ {b : Int}, RungsOk b (rs ++ qs) ↔ RungsOk b rs ∧ RungsOk (lastB b rs) qs := by
  induction rs with
  | nil => intro b; simp [RungsOk, lastB]
  | cons r rs ih => intro b; simp only [List.cons_append, RungsOk, lastB, ih]; exact ⟨fun h => ⟨⟨h.1, h.2.1, h.2.2.1, h.2.2.2.1⟩, h.2.2.2.2⟩, fun h => ⟨h.1.1, h.1.2.1, h.1.2.2.1, h.1.2.2.2, h.2⟩⟩
theorem lastB_append {rs qs : List Rg} : ∀ {b : Int}, lastB b (rs ++ qs) = lastB (lastB b rs) qs := by
  induction rs with
  | nil => intro b; rfl
  | cons r rs ih => intro b; exact ih
theorem lastB_le {rs : List Rg} : ∀ {b : Int}, lastB b rs ≤ b := by
  induction rs with
  | nil => intro b; exact Int.le_refl _
  | cons r rs ih => intro b; have := @ih (min b (curR r)); unfold lastB; omega
/-- What lies in the rungs is at or above the least bound. -/
theorem rungs_ge {rs : List Rg} : ∀ {b : Int}, RungsOk b rs → ∀ r ∈ rs, ∀ x ∈ r.bks.flatten, lastB b rs ≤ x.time := by
  induction rs with
  | nil => intro b _ r hr; cases hr
  | cons q rs ih =>
    intro b h r hr x hx
    obtain ⟨h1, h2, h3, h4⟩ := h
    rcases List.mem_cons.1 hr with rfl | hr
    · have hl : lastB b (r :: rs) ≤ curR r := by
        have := @lastB_le rs (min b (curR r)); unfold lastB; omega
      rw [List.mem_flatten] at hx
      obtain ⟨bk, hbk, hx⟩ := hx
      obtain ⟨i, hi⟩ := List.mem_iff_getElem?.1 hbk
      have := h1.its i bk hi x hx
      have := startR_mono h1.wid0 this.2.1
      unfold curR at hl
      omega
    · exact ih h4 r hr x hx
def allL (l : Ld) : List It := l.top ++ (l.rungs.flatMap fun r => r.bks.flatten) ++ l.bot
structure LdOk (l : Ld) : Prop where
  ts0 : 0 ≤ l.ts
  ts1 : l.ts ≤ 1152921504606846977
  times : ∀ x ∈ allL l, TimeOk x.time
  top : ∀ x ∈ l.top, l.ts ≤ x.time
  rungs : RungsOk l.ts l.rungs
  few : l.rungs.length ≤ 4
  low : ∀ x ∈ l.bot, x.time < lastB l.ts l.rungs
  sorted : l.bot.Pairwise fun a b => ltIt a b = true
  seqs : ((allL l).map It.seq).Nodup
theorem RungsOk.all {rs : List Rg} : ∀ {b : Int}, RungsOk b rs → ∀ r ∈ rs, RgOk r := by
  induction rs with
  | nil => intro b _ r hr; cases hr
  | cons q rs ih =>
    intro b h r hr
    rcases List.mem_cons.1 hr with rfl | hr
    · exact h.1
    · exact ih h.2.2.2 r hr
theorem RungsOk.mono {rs : List Rg} : ∀ {b c : Int}, RungsOk b rs → c ≤ b → (∀ r ∈ rs, ∀ x ∈ r.bks.flatten, x.time < c) → RungsOk c rs := by
  induction rs with
  | nil => intros; trivial
  | cons q rs ih =>
    intro b c h hc hx
    refine ⟨h.1, by have := h.2.1; omega, hx q (.head _), ih h.2.2.2 (by omega) fun r hr x hxr => ?_⟩
    have h1 := hx r (.tail _ hr) x hxr
    have h2 : x.time < min b (curR q) := by
      have h4 := h.2.2.2
      clear ih h1 hx
      have key : ∀ {rs : List Rg} {b : Int}, RungsOk b rs → ∀ r ∈ rs, ∀ x ∈ r.bks.flatten, x.time < b := by
        intro rs
        induction rs with
        | nil => intro b _ r hr; cases hr
        | cons q rs ih =>
          intro b h r hr x hx
          rcases List.mem_cons.1 hr with rfl | hr
          · exact h.2.2.1 x hx
          · have := ih h.2.2.2 r hr x hx; omega
      exact key h4 r hr x hxr
    omega
theorem ltIt_iff {a b : It} : ltIt a b = true ↔ a.time < b.time ∨ (a.time = b.time ∧ a.seq < b.seq) := by
  simp [ltIt]
theorem ltIt_trans {a b c : It} (h1 : ltIt a b = true) (h2 : ltIt b c = true) : ltIt a c = true := by
  rw [ltIt_iff] at *; omega
theorem ltIt_total {a b : It} (h : a.seq ≠ b.seq) : ltIt a b = true ∨ ltIt b a = true := by
  rw [ltIt_iff, ltIt_iff]; omega
theorem ltIt_asymm {a b : It} (h : ltIt a b = true) : ltIt b a = false := by
  cases hb : ltIt b a with
  | false => rfl
  | true => rw [ltIt_iff] at *; omega
end PQ
namespace PQ
theorem lt_lastB {rs : List Rg} : ∀ {b t : Int}, t < b → (∀ r ∈ rs, t < curR r) → t < lastB b rs := by
  induction rs with
  | nil => intro b t h _; exact h
  | cons r rs ih =>
    intro b t h hr
    have := hr r (.head _)
    exact ih (by omega) fun q hq => hr q (.tail _ hq)
theorem sorted_insIt {l : List It} {it : It} (h : l.Pairwise fun a b => ltIt a b = true) (hs : ∀ x ∈ l, x.seq ≠ it.seq) : (insIt l it).Pairwise fun a b => ltIt a b = true := by
  have e : insIt l it = l.takeWhile (ltIt · it) ++ it :: l.dropWhile (ltIt · it) := by
    have h1 : l.take (posIt l it) = l.takeWhile (ltIt · it) := by
      unfold posIt
      clear h hs
      induction l with
      | nil => rfl
      | cons x l ih => cases hx : ltIt x it <;> simp [List.takeWhile_cons, hx]; exact ih
    have h2 : l.drop (posIt l it) = l.dropWhile (ltIt · it) := by
      unfold posIt
      clear h hs h1
      induction l with
      | nil => rfl
      | cons x l ih => cases hx : ltIt x it <;> simp [List.takeWhile_cons, List.dropWhile_cons, hx]; exact ih
    unfold insIt
    rw [h1, h2]
  rw [e]
  clear e
  induction l with
  | nil => simp
  | cons x l ih =>
    rw [List.pairwise_cons] at h
    cases hx : ltIt x it with
    | true =>
      simp only [List.takeWhile_cons, List.dropWhile_cons, hx, if_true, List.cons_append]
      rw [List.pairwise_cons]
      refine ⟨fun y hy => ?_, ih h.2 fun y hy => hs y (.tail _ hy)⟩
      have : y = it ∨ y ∈ l := by
        rcases List.mem_append.1 hy with hy | hy
        · exact .inr (List.takeWhile_subset _ hy)
        · rcases List.mem_cons.1 hy with hy | hy
          · exact .inl hy
          · exact .inr (List.dropWhile_subset _ hy)
      rcases this with rfl | hy
      · exact hx
      · exact h.1 y hy
    | false =>
      simp only [List.takeWhile_cons, List.dropWhile_cons, hx, Bool.false_eq_true, if_false, List.nil_append]
      rw [List.pairwise_cons]
      refine ⟨fun y hy => ?_, List.pairwise_cons.2 h⟩
      have hix : ltIt it x = true := by
        rcases ltIt_total (hs x (.head _)) with h' | h'
        · rw [hx] at h'; cases h'
        · exact h'
      rcases List.mem_cons.1 hy with rfl | hy
      · exact hix
      · exact ltIt_trans hix (h.1 y hy)
theorem insIt_perm (l : List It) (it : It) : (insIt l it).Perm (it :: l) := by
  unfold insIt
  have : (l.take (posIt l it) ++ it :: l.drop (posIt l it)).Perm (it :: (l.take (posIt l it) ++ l.drop (posIt l it))) := List.perm_middle
  rwa [List.take_append_drop] at this
theorem insA_perm (l : List It) (it : It) : (insA l it).Perm (it :: l) := by
  unfold insA
  have : (l.takeWhile (!ltIt it ·) ++ it :: l.dropWhile (!ltIt it ·)).Perm (it :: (l.takeWhile (!ltIt it ·) ++ l.dropWhile (!ltIt it ·))) := List.perm_middle
  rwa [List.takeWhile_append_dropWhile] at this
theorem sorted_insA {l : List It} {it : It} (h : l.Pairwise fun a b => ltIt a b = true) (hs : ∀ x ∈ l, x.seq ≠ it.seq) : (insA l it).Pairwise fun a b => ltIt a b = true := by
  unfold insA
  induction l with
  | nil => simp
  | cons x l ih =>
    rw [List.pairwise_cons] at h
    cases hx : ltIt it x with
    | false =>
      have hxi : ltIt x it = true := by
        rcases ltIt_total (hs x (.head _)) with h' | h'
        · exact h'
        · rw [hx] at h'; cases h'
      simp only [List.takeWhile_cons, List.dropWhile_cons, hx, Bool.not_false, if_true, List.cons_append]
      rw [List.pairwise_cons]
      refine ⟨fun y hy => ?_, ih h.2 fun y hy => hs y (.tail _ hy)⟩
      have : y = it ∨ y ∈ l := by
        rcases List.mem_append.1 hy with hy | hy
        · exact .inr (List.takeWhile_subset _ hy)
        · rcases List.mem_cons.1 hy with hy | hy
          · exact .inl hy
          · exact .inr (List.dropWhile_subset _ hy)
      rcases this with rfl | hy
      · exact hxi
      · exact h.1 y hy
    | true =>
      simp only [List.takeWhile_cons, List.dropWhile_cons, hx, Bool.not_true, Bool.false_eq_true, if_false, List.nil_append]
      rw [List.pairwise_cons]
      refine ⟨fun y hy => ?_, List.pairwise_cons.2 h⟩
      rcases List.mem_cons.1 hy with rfl | hy
      · exact hx
      · exact ltIt_trans hx (h.1 y hy)
theorem foldl_insA : ∀ {l acc : List It}, acc.Pairwise (fun a b => ltIt a b = true) → ((acc ++ l).map It.seq).Nodup →
    (l.foldl insA acc).Pairwise (fun a b => ltIt a b = true) ∧ (l.foldl insA acc).Perm (acc ++ l)
  | [], acc, h, _ => ⟨h, by rw [List.append_nil]; exact List.Perm.refl _⟩
  | x :: l, acc, h, hn => by
    have hp : (insA acc x ++ l).Perm (acc ++ x :: l) := ((insA_perm acc x).append_right l).trans List.perm_middle.symm
    have hs : ∀ y ∈ acc, y.seq ≠ x.seq := fun y hy e => by
      rw [List.map_append, List.nodup_append] at hn
      exact hn.2.2 y.seq (List.mem_map_of_mem hy) x.seq (List.mem_map_of_mem (.head _)) e
    have ih := foldl_insA (l := l) (sorted_insA h hs) ((hp.map It.seq).nodup_iff.2 hn)
    exact ⟨ih.1, ih.2.trans hp⟩
theorem sortIt_sorted {l : List It} (hn : (l.map It.seq).Nodup) : (sortIt l).Pairwise (fun a b => ltIt a b = true) ∧ (sortIt l).Perm l := by
  have := foldl_insA (l := l) (acc := []) List.Pairwise.nil (by simpa using hn)
  exact ⟨this.1, this.2⟩
theorem findIdx_split {α : Type} {p : α → Bool} : ∀ {l : List α} {i : Nat}, l.findIdx? p = some i → ∃ a x c, l = a ++ x :: c ∧ a.length = i ∧ p x = true ∧ ∀ y ∈ a, p y = false
  | [], i, h => by cases h
  | x :: l, i, h => by
    rw [List.findIdx?_cons] at h
    cases hx : p x with
    | true =>
      rw [hx] at h
      cases h
      exact ⟨[], x, l, rfl, rfl, hx, by simp⟩
    | false =>
      rw [hx] at h
      simp only [Bool.false_eq_true, if_false, Option.map_eq_some_iff] at h
      obtain ⟨j, hj, rfl⟩ := h
      obtain ⟨a, y, c, h1, h2, h3, h4⟩ := findIdx_split hj
      refine ⟨x :: a, y, c, by rw [h1]; rfl, by simp [h2], h3, fun z hz => ?_⟩
      rcases List.mem_cons.1 hz with rfl | hz
      · exact hx
      · exact h4 z hz
theorem modify_split {α : Type} {f : α → α} {x : α} {c : List α} : ∀ {a : List α}, (a ++ x :: c).modify a.length f = a ++ f x :: c
  | [] => by simp
  | y :: a => by simp [modify_split (a := a)]
theorem set_split {α : Type} {x y : α} {c : List α} : ∀ {a : List α}, (a ++ x :: c).set a.length y = a ++ y :: c
  | [] => by simp
  | z :: a => by simp
theorem lastB_cur {r q : Rg} {c : List Rg} {b : Int} (h : curR r = curR q) : lastB b (r :: c) = lastB b (q :: c) := by
  unfold lastB; rw [h]
def rungsIts (rs : List Rg) : List It := rs.flatMap fun r => r.bks.flatten
theorem allL_eq (l : Ld) : allL l = l.top ++ rungsIts l.rungs ++ l.bot := rfl
theorem rungsIts_append (a b : List Rg) : rungsIts (a ++ b) = rungsIts a ++ rungsIts b := by simp [rungsIts]
theorem rungsIts_cons (a : Rg) (b : List Rg) : rungsIts (a :: b) = a.bks.flatten ++ rungsIts b := by simp [rungsIts]
theorem insertL_perm {l : Ld} (h : LdOk l) {it : It} : (allL (insertL l it)).Perm (it :: allL l) ∧ (insertL l it).ts = l.ts := by
  unfold insertL
  split
  · refine ⟨?_, rfl⟩
    rw [allL_eq, allL_eq]
    show (l.top ++ [it] ++ rungsIts l.rungs ++ l.bot).Perm (it :: (l.top ++ rungsIts l.rungs ++ l.bot))
    simp only [List.append_assoc, List.singleton_append]
    exact List.perm_middle
  · rename_i hts
    split
    · rename_i i hi
      refine ⟨?_, rfl⟩
      obtain ⟨a, r, c, e, hl, h3, h4⟩ := findIdx_split hi
      have ha : ∀ q ∈ a, it.time < curR q := fun q hq => by have := of_decide_eq_false (h4 q hq); omega
      have hr : curR r ≤ it.time := of_decide_eq_true h3
      have hro := h.rungs
      rw [e, RungsOk.append] at hro
      have hlt := lt_lastB (b := l.ts) (t := it.time) (by omega) ha
      have hend := hro.2.2.1
      have hp := putR_perm hro.2.1 hr (by omega)
      rw [allL_eq, allL_eq]
      show (l.top ++ rungsIts (l.rungs.modify i (putR · it)) ++ l.bot).Perm (it :: (l.top ++ rungsIts l.rungs ++ l.bot))
      rw [e, ← hl, modify_split, rungsIts_append, rungsIts_append, rungsIts_cons, rungsIts_cons]
      have h5 : (l.top ++ (rungsIts a ++ ((putR r it).bks.flatten ++ rungsIts c)) ++ l.bot).Perm (l.top ++ (rungsIts a ++ (it :: r.bks.flatten ++ rungsIts c)) ++ l.bot) :=
        (((hp.append_right _).append_left _).append_left _).append_right _
      refine h5.trans ?_
      have h6 : l.top ++ (rungsIts a ++ (it :: r.bks.flatten ++ rungsIts c)) ++ l.bot = (l.top ++ rungsIts a) ++ it :: (r.bks.flatten ++ rungsIts c ++ l.bot) := by simp
      have h7 : it :: (l.top ++ (rungsIts a ++ (r.bks.flatten ++ rungsIts c)) ++ l.bot) = it :: ((l.top ++ rungsIts a) ++ (r.bks.flatten ++ rungsIts c ++ l.bot)) := by simp
      rw [h6, h7]
      exact List.perm_middle
    · refine ⟨?_, rfl⟩
      rw [allL_eq, allL_eq]
      show (l.top ++ rungsIts l.rungs ++ insIt l.bot it).Perm (it :: (l.top ++ rungsIts l.rungs ++ l.bot))
      exact ((insIt_perm l.bot it).append_left _).trans List.perm_middle
theorem insertL_ok {l : Ld} (h : LdOk l) {it : It} (ht : TimeOk it.time) (hs : ∀ x ∈ allL l, x.seq ≠ it.seq) : LdOk (insertL l it) := by
  have hp := insertL_perm h (it := it)
  have htimes : ∀ x ∈ allL (insertL l it), TimeOk x.time := fun x hx => by
    rcases List.mem_cons.1 (hp.1.mem_iff.1 hx) with rfl | hx
    · exact ht
    · exact h.times x hx
  have hseqs : ((allL (insertL l it)).map It.seq).Nodup := by
    rw [(hp.1.map It.seq).nodup_iff, List.map_cons, List.nodup_cons]
    refine ⟨fun hm => ?_, h.seqs⟩
    obtain ⟨x, hx, he⟩ := List.mem_map.1 hm
    exact hs x hx he
  revert htimes hseqs
  unfold insertL
  split
  · intro htimes hseqs
    refine ⟨h.ts0, h.ts1, htimes, fun x hx => ?_, h.rungs, h.few, h.low, h.sorted, hseqs⟩
    rcases List.mem_append.1 hx with hx | hx
    · exact h.top x hx
    · rw [List.mem_singleton.1 hx]; assumption
  · rename_i hts
    split
    · rename_i i hi
      intro htimes hseqs
      obtain ⟨a, r, c, e, hl, h3, h4⟩ := findIdx_split hi
      have ha : ∀ q ∈ a, it.time < curR q := fun q hq => by have := of_decide_eq_false (h4 q hq); omega
      have hr : curR r ≤ it.time := of_decide_eq_true h3
      have hro := h.rungs
      rw [e, RungsOk.append] at hro
      have hlt := lt_lastB (b := l.ts) (t := it.time) (by omega) ha
      have hend := hro.2.2.1
      have hpp := putR_perm hro.2.1 hr (by omega)
      have em : l.rungs.modify i (putR · it) = a ++ putR r it :: c := by rw [e, ← hl, modify_split]
      refine ⟨h.ts0, h.ts1, htimes, h.top, ?_, ?_, ?_, h.sorted, hseqs⟩
      · show RungsOk l.ts (l.rungs.modify i (putR · it))
        rw [em, RungsOk.append]
        refine ⟨hro.1, putR_ok hro.2.1 ht, by rw [putR_end]; exact hend, fun x hx => ?_, by rw [putR_cur]; exact hro.2.2.2.2⟩
        rcases List.mem_cons.1 (hpp.mem_iff.1 hx) with rfl | hx
        · exact hlt
        · exact hro.2.2.2.1 x hx
      · show (l.rungs.modify i (putR · it)).length ≤ 4
        rw [List.length_modify]; exact h.few
      · show ∀ x ∈ l.bot, x.time < lastB l.ts (l.rungs.modify i (putR · it))
        rw [em, lastB_append, lastB_cur (putR_cur r it), ← lastB_append, ← e]
        exact h.low
    · rename_i hno
      intro htimes hseqs
      rw [List.findIdx?_eq_none_iff] at hno
      have hlt := lt_lastB (b := l.ts) (t := it.time) (rs := l.rungs) (by omega) fun q hq => by have := of_decide_eq_false (hno q hq); omega
      refine ⟨h.ts0, h.ts1, htimes, h.top, h.rungs, h.few, fun x hx => ?_, ?_, hseqs⟩
      · rcases List.mem_cons.1 ((insIt_perm l.bot it).mem_iff.1 hx) with rfl | hx
        · exact hlt
        · exact h.low x hx
      · exact sorted_insIt h.sorted fun x hx => hs x (by rw [allL_eq]; exact List.mem_append_right _ hx)
end PQ
namespace PQ
structure FillOk (l l' : Ld) : Prop where
  ok : LdOk l'
  perm : (allL l').Perm (allL l)
theorem seqs_of_perm {a b : List It} (h : a.Perm b) (hb : (b.map It.seq).Nodup) : (a.map It.seq).Nodup := (h.map It.seq).nodup_iff.2 hb
theorem ceil8_bounds {n : Int} (h : 1 ≤ n) (h2 : n ≤ 1152921504606846977) : 1 ≤ ceil8 n ∧ ceil8 n ≤ 144115188075855873 := by
  have := ceil8_eq h; omega
theorem newR_cur (f w : Int) : curR (newR f w) = f := by show f + 0 * w = f; omega
theorem newR_end (f w : Int) : endR (newR f w) = f + 8 * w := rfl
theorem newR_flat (f w : Int) : (newR f w).bks.flatten = [] := by simp [newR]
theorem takeTop_ok {l : Ld} (h : LdOk l) (hb : l.bot = []) (hr : l.rungs = []) (ht : l.top ≠ []) :
    FillOk l (takeTop l) ∧ (doneL (takeTop l) = true ∨ ∃ r, (takeTop l).rungs = [r] ∧ r.bks.flatten ≠ []) := by
  have hall : allL l = l.top := by rw [allL_eq, hr, hb]; simp [rungsIts]
  have hmax : ∀ x ∈ l.top, x.time ≤ maxT l.top := fun x hx => le_maxT hx
  have hmin : ∀ x ∈ l.top, minT l.top ≤ x.time := fun x hx => minT_le hx
  have htm : ∀ x ∈ l.top, TimeOk x.time := fun x hx => h.times x (by rw [hall]; exact hx)
  obtain ⟨xm, hxm, em⟩ := maxT_mem ht
  obtain ⟨xn, hxn, en⟩ := minT_mem ht
  have b1 := htm xm hxm
  have b2 := htm xn hxn
  have b3 := hmin xm hxm
  unfold TimeOk at b1 b2
  have hsq : (l.top.map It.seq).Nodup := by rw [← hall]; exact h.seqs
  unfold takeTop
  split
  · have hs := sortIt_sorted hsq
    have hperm : (allL { l with top := [], ts := maxT l.top + 1, bot := sortIt l.top }).Perm (allL l) := by
      rw [hall, allL_eq, hr]
      simpa [rungsIts] using hs.2
    refine ⟨⟨⟨by show 0 ≤ maxT l.top + 1; omega, by show maxT l.top + 1 ≤ _; omega, fun x hx => h.times x (hperm.mem_iff.1 hx), by simp, by rw [hr]; trivial, by rw [hr]; simp, fun x hx => ?_, hs.1, seqs_of_perm hperm h.seqs⟩, hperm⟩, .inl ?_⟩
    · show x.time < lastB (maxT l.top + 1) l.rungs
      rw [hr]
      have := hmax x (mem_sortIt.1 hx)
      show x.time < maxT l.top + 1
      omega
    · have : (sortIt l.top).length ≠ 0 := by rw [sortIt_length]; intro e; exact ht (List.length_eq_zero_iff.1 e)
      show (!(sortIt l.top).isEmpty || _) = true
      cases hq : sortIt l.top with
      | nil => rw [hq] at this; exact absurd rfl this
      | cons a b => rfl
  · have hw := ceil8_eq (n := maxT l.top - minT l.top + 1) (by omega)
    have hwb := ceil8_bounds (n := maxT l.top - minT l.top + 1) (by omega) (by omega)
    obtain ⟨w, hwe⟩ : ∃ w, w = ceil8 (maxT l.top - minT l.top + 1) := ⟨_, rfl⟩
    rw [← hwe] at hw hwb ⊢
    have hn := newR_ok (f := minT l.top) (w := w) (by omega) (by omega) hwb.1 hwb.2
    obtain ⟨f1, f2, f3, f4, f5⟩ := foldl_putR (items := l.top) hn htm (fun x hx => by
      rw [newR_cur, newR_end]
      have := hmax x hx; have := hmin x hx
      omega)
    rw [newR_flat, List.append_nil] at f2
    rw [newR_cur] at f3
    rw [newR_end] at f4
    have hperm : (allL (spreadL { l with top := [], ts := maxT l.top + 1 } (minT l.top) w l.top)).Perm (allL l) := by
      rw [hall, allL_eq]
      show ([] ++ rungsIts (l.rungs ++ [_]) ++ l.bot).Perm l.top
      rw [hr, hb]
      simpa [rungsIts] using f2
    refine ⟨⟨⟨by show 0 ≤ maxT l.top + 1; omega, by show maxT l.top + 1 ≤ _; omega, fun x hx => h.times x (hperm.mem_iff.1 hx), by simp [spreadL], ?_, by simp [spreadL, hr], by simp [spreadL, hb], by simp [spreadL, hb], seqs_of_perm hperm h.seqs⟩, hperm⟩, .inr ⟨_, by simp [spreadL, hr]; rfl, ?_⟩⟩
    · show RungsOk (maxT l.top + 1) (l.rungs ++ [_])
      rw [hr]
      refine ⟨f1, by rw [f4]; omega, fun x hx => ?_, trivial⟩
      have := hmax x (f2.mem_iff.1 hx)
      omega
    · intro e
      rw [e] at f2
      exact ht f2.symm.eq_nil
theorem flatten_set_perm {b : List It} : ∀ {l : List (List It)} {i : Nat}, l[i]? = some b → (b ++ (l.set i []).flatten).Perm l.flatten
  | x :: l, 0, h => by
    simp only [List.getElem?_cons_zero, Option.some.injEq] at h
    subst h
    simp
  | x :: l, i + 1, h => by
    simp only [List.getElem?_cons_succ] at h
    have ih := flatten_set_perm h
    simp only [List.set_cons_succ, List.flatten_cons]
    have h1 : (b ++ (x ++ (l.set i []).flatten)).Perm (x ++ (b ++ (l.set i []).flatten)) := by
      rw [← List.append_assoc, ← List.append_assoc]
      exact List.perm_append_comm.append_right _
    exact h1.trans (ih.append_left x)
theorem nextR_none {r : Rg} (h : nextR r = none) : r.bks.flatten = [] := by
  unfold nextR at h
  split at h
  · rename_i hn
    rw [List.findIdx?_eq_none_iff] at hn
    rw [List.flatten_eq_nil_iff]
    intro b hb
    have := hn b hb
    simpa using this
  · cases h
theorem nextR_some {r r' : Rg} {items : List It} {s : Int} (hr : RgOk r) (h : nextR r = some (r', items, s)) :
    RgOk r' ∧ items ≠ [] ∧ (items ++ r'.bks.flatten).Perm r.bks.flatten ∧ curR r ≤ s ∧ curR r' = s + r.width ∧ endR r' = endR r ∧ r'.width = r.width ∧ s + r.width ≤ endR r ∧
    (∀ x ∈ items, TimeOk x.time ∧ s ≤ x.time ∧ x.time < s + r.width) ∧ (∀ x ∈ r'.bks.flatten, s + r.width ≤ x.time) := by
  unfold nextR at h
  split at h
  · cases h
  · rename_i i hi
    simp only [Option.some.injEq, Prod.mk.injEq] at h
    obtain ⟨rfl, rfl, rfl⟩ := h
    have hidx := List.findIdx?_eq_some_iff_getElem.1 hi
    obtain ⟨hlt, hne, hbefore⟩ := hidx
    have hget : r.bks[i]? = some r.bks[i] := List.getElem?_eq_getElem hlt
    have hlen := hr.len
    have hnem : r.bks[i] ≠ [] := by simpa using hne
    obtain ⟨x0, hx0⟩ := List.exists_mem_of_ne_nil _ hnem
    have hx0' := hr.its i _ hget x0 hx0
    have hi8 : (i : Int) + 1 ≤ 8 := by omega
    have hbk : ∀ (j : Nat) (b : List It), (r.bks.set i [])[j]? = some b → ∀ x ∈ b, TimeOk x.time ∧ ((i : Int) + 1 ≤ j) ∧ startR r j ≤ x.time ∧ x.time < startR r (j + 1) := by
      intro j b hb x hx
      rw [List.getElem?_set] at hb
      split at hb
      · rename_i hij
        subst hij
        cases hb
        cases hx
      · rename_i hij
        have h1 := hr.its j b hb x hx
        refine ⟨h1.1, ?_, h1.2.2⟩
        refine Int.not_lt.1 fun hji => ?_
        have hji' : j < i := by omega
        have hjl : j < r.bks.length := by omega
        have := hbefore j hji'
        rw [List.getElem?_eq_getElem hjl] at hb
        cases hb
        simp only [Bool.not_eq_true, Bool.not_eq_false'] at this
        rw [List.isEmpty_iff] at this
        rw [this] at hx
        cases hx
    refine ⟨⟨hr.frm0, hr.frm1, hr.wid0, hr.wid1, by show (0 : Int) ≤ (i : Int) + 1; omega, hi8, by simp [hlen], fun j b hb x hx => ?_⟩, by rw [hget]; exact hnem, ?_, ?_, ?_, rfl, rfl, ?_, fun x hx => ?_, fun x hx => ?_⟩
    · exact hbk j b hb x hx
    · rw [hget]
      exact flatten_set_perm hget
    · exact startR_mono hr.wid0 hx0'.2.1
    · exact startR_succ r i
    · rw [← startR_succ]; exact startR_mono hr.wid0 hi8
    · rw [hget] at hx
      have := hr.its i _ hget x hx
      rw [← startR_succ]
      exact ⟨this.1, this.2.2⟩
    · rw [List.mem_flatten] at hx
      obtain ⟨b, hb, hx⟩ := hx
      obtain ⟨j, hj⟩ := List.mem_iff_getElem?.1 hb
      have := hbk j b hj x hx
      rw [← startR_succ]
      have := startR_mono hr.wid0 this.2.1
      omega
theorem getLast_split {α : Type} [Inhabited α] {l : List α} (h : l ≠ []) : l = l.dropLast ++ [l.getLast?.getD default] := by
  rw [List.getLast?_eq_some_getLast h]
  exact (List.dropLast_concat_getLast h).symm
def lastFull (l : Ld) : Bool := !(l.rungs.getLast?.getD default).bks.flatten.isEmpty
def need (l : Ld) : Nat := if l.rungs = [] then 6 else if lastFull l = true then 5 - l.rungs.length else l.rungs.length + 6
theorem takeRung_ok {l : Ld} (h : LdOk l) (hb : l.bot = []) (hr : l.rungs ≠ []) :
    FillOk l (takeRung l) ∧ (doneL (takeRung l) = true ∨ need (takeRung l) < need l) := by
  have hs := getLast_split hr
  obtain ⟨r, hre⟩ : ∃ r, r = l.rungs.getLast?.getD default := ⟨_, rfl⟩
  obtain ⟨A, hA⟩ : ∃ A, A = l.rungs.dropLast := ⟨_, rfl⟩
  have hro := h.rungs
  have hfew := h.few
  rw [← hre, ← hA] at hs
  rw [hs, RungsOk.append] at hro
  have hlenA : l.rungs.length = A.length + 1 := by rw [hs]; simp
  unfold takeRung
  rw [← hre, ← hA]
  split
  · rename_i hn
    have hflat := nextR_none hn
    have hperm : (allL { l with rungs := A }).Perm (allL l) := by
      rw [allL_eq, allL_eq]
      show (l.top ++ rungsIts A ++ l.bot).Perm (l.top ++ rungsIts l.rungs ++ l.bot)
      rw [hs, rungsIts_append, rungsIts_cons, hflat]
      simp [rungsIts]
    refine ⟨⟨⟨h.ts0, h.ts1, fun x hx => h.times x (hperm.mem_iff.1 hx), h.top, hro.1, by show A.length ≤ 4; omega, by show ∀ x ∈ l.bot, _; rw [hb]; simp, h.sorted, seqs_of_perm hperm h.seqs⟩, hperm⟩, .inr ?_⟩
    have hl : lastFull l = false := by unfold lastFull; rw [← hre, hflat]; rfl
    have hneed : need l = l.rungs.length + 6 := by unfold need; rw [if_neg hr, if_neg (by rw [hl]; decide)]
    have hle : need { l with rungs := A } ≤ A.length + 6 := by
      unfold need
      show (if A = [] then 6 else if lastFull { l with rungs := A } = true then 5 - A.length else A.length + 6) ≤ A.length + 6
      split
      · omega
      · split <;> omega
    omega
  · rename_i r' items s hn
    obtain ⟨g1, g2, g3, g4, g5, g6, g7, g8, g9, g10⟩ := nextR_some hro.2.1 hn
    have hfl : r.bks.flatten ≠ [] := fun e => by
      rw [e] at g3
      have := g3.eq_nil
      rw [List.append_eq_nil_iff] at this
      exact g2 this.1
    have hitb : ∀ x ∈ items, x.time < lastB l.ts A := fun x hx => hro.2.2.2.1 x (g3.mem_iff.1 (List.mem_append_left _ hx))
    have hro' : RungsOk l.ts (A ++ [r']) := by
      rw [RungsOk.append]
      refine ⟨hro.1, g1, by rw [g6]; exact hro.2.2.1, fun x hx => hro.2.2.2.1 x (g3.mem_iff.1 (List.mem_append_right _ hx)), trivial⟩
    have hlast : lastB l.ts (A ++ [r']) = min (lastB l.ts A) (s + r.width) := by rw [lastB_append]; show min _ (curR r') = _; rw [g5]
    have hsq : (items.map It.seq).Nodup := by
      have h1 : (l.top ++ rungsIts A ++ (items ++ r'.bks.flatten)).Perm (allL l) := by
        rw [allL_eq, hb, hs, rungsIts_append, rungsIts_cons]
        simp only [rungsIts, List.flatMap_nil, List.append_nil, List.append_assoc]
        exact (g3.append_left _).append_left _
      have h2 := seqs_of_perm h1 h.seqs
      rw [List.map_append, List.map_append (l₁ := items), List.nodup_append] at h2
      have h3 := h2.2.1
      rw [List.nodup_append] at h3
      exact h3.1
    have hlf : lastFull l = true := by
      unfold lastFull; rw [← hre]
      cases hq : r.bks.flatten with
      | nil => exact absurd hq hfl
      | cons a b => rfl
    split
    · rename_i hc
      have hw := ceil8_eq (n := r'.width) (by omega)
      have hwid := g1.wid1
      have hwb := ceil8_bounds (n := r'.width) (by omega) (by omega)
      obtain ⟨w, hwe⟩ : ∃ w, w = ceil8 r'.width := ⟨_, rfl⟩
      rw [← hwe] at hw hwb ⊢
      obtain ⟨x0, hx0⟩ := List.exists_mem_of_ne_nil _ g2
      have hx0' := g9 x0 hx0
      have hs0 : 0 ≤ s := by
        have := hro.2.1.start (i := r.cur) hro.2.1.cur0 hro.2.1.cur1
        unfold curR at g4; omega
      have ht0 := hx0'.1
      unfold TimeOk at ht0
      have hnw := newR_ok (f := s) (w := w) hs0 (by omega) hwb.1 hwb.2
      obtain ⟨f1, f2, f3, f4, f5⟩ := foldl_putR (items := items) hnw (fun x hx => (g9 x hx).1) (fun x hx => by
        rw [newR_cur, newR_end]
        have := g9 x hx
        omega)
      rw [newR_flat, List.append_nil] at f2
      rw [newR_cur] at f3
      rw [newR_end] at f4
      have hperm : (allL (spreadL { l with rungs := A ++ [r'] } s w items)).Perm (allL l) := by
        rw [allL_eq, allL_eq]
        show (l.top ++ rungsIts (A ++ [r'] ++ [_]) ++ l.bot).Perm (l.top ++ rungsIts l.rungs ++ l.bot)
        rw [hs]
        simp only [rungsIts_append, rungsIts_cons, List.append_assoc]
        refine List.Perm.append_left _ (List.Perm.append_left _ ?_)
        simp only [rungsIts, List.flatMap_nil, List.append_nil, List.nil_append]
        rw [← List.append_assoc]
        refine List.Perm.append_right _ ?_
        exact ((f2.append_left _).trans List.perm_append_comm).trans g3
      refine ⟨⟨⟨h.ts0, h.ts1, fun x hx => h.times x (hperm.mem_iff.1 hx), h.top, ?_, ?_, ?_, h.sorted, seqs_of_perm hperm h.seqs⟩, hperm⟩, .inr ?_⟩
      · show RungsOk l.ts ((A ++ [r']) ++ [_])
        rw [RungsOk.append]
        refine ⟨hro', f1, by rw [hlast, f4]; omega, fun x hx => ?_, trivial⟩
        have hxi := f2.mem_iff.1 hx
        have h1 := hitb x hxi
        have h2 := g9 x hxi
        rw [hlast]; omega
      · show (A ++ [r'] ++ [_]).length ≤ 4
        simp only [List.length_append, List.length_cons, List.length_nil]; omega
      · show ∀ x ∈ l.bot, _
        rw [hb]; simp
      · have hn1 : need l = 5 - l.rungs.length := by unfold need; rw [if_neg hr, if_pos hlf]
        rw [hn1]
        unfold need
        show (if A ++ [r'] ++ [_] = [] then 6 else if lastFull (spreadL { l with rungs := A ++ [r'] } s w items) = true then 5 - (A ++ [r'] ++ [_]).length else _) < _
        rw [if_neg (by simp), if_pos]
        · simp only [List.length_append, List.length_cons, List.length_nil]; omega
        · unfold lastFull
          show (!((A ++ [r'] ++ [items.foldl putR (newR s w)]).getLast?.getD default).bks.flatten.isEmpty) = true
          rw [List.getLast?_append]
          simp only [List.getLast?_singleton, Option.some_or, Option.getD_some, Bool.not_eq_true', List.isEmpty_eq_false_iff]
          intro e
          rw [e] at f2
          exact g2 f2.symm.eq_nil
    · have hsi := sortIt_sorted hsq
      have hperm : (allL { l with rungs := A ++ [r'], bot := sortIt items }).Perm (allL l) := by
        rw [allL_eq, allL_eq]
        show (l.top ++ rungsIts (A ++ [r']) ++ sortIt items).Perm (l.top ++ rungsIts l.rungs ++ l.bot)
        rw [hs, hb]
        simp only [rungsIts_append, rungsIts_cons, List.append_assoc]
        refine List.Perm.append_left _ (List.Perm.append_left _ ?_)
        simp only [rungsIts, List.flatMap_nil, List.append_nil, List.nil_append]
        exact ((hsi.2.append_left _).trans List.perm_append_comm).trans g3
      refine ⟨⟨⟨h.ts0, h.ts1, fun x hx => h.times x (hperm.mem_iff.1 hx), h.top, hro', ?_, fun x hx => ?_, hsi.1, seqs_of_perm hperm h.seqs⟩, hperm⟩, .inl ?_⟩
      · show (A ++ [r']).length ≤ 4
        simp only [List.length_append, List.length_cons, List.length_nil]; omega
      · have hxi := mem_sortIt.1 hx
        show x.time < lastB l.ts (A ++ [r'])
        have h1 := hitb x hxi
        have h2 := g9 x hxi
        rw [hlast]; omega
      · have : (sortIt items).length ≠ 0 := by rw [sortIt_length]; intro e; exact g2 (List.length_eq_zero_iff.1 e)
        show (!(sortIt items).isEmpty || _) = true
        cases hq : sortIt items with
        | nil => rw [hq] at this; exact absurd rfl this
        | cons a b => rfl
theorem need_le {l : Ld} (h : l.rungs.length ≤ 4) : need l ≤ 10 := by
  unfold need; split
  · omega
  · split <;> omega
theorem fillL1_ok {l : Ld} (h : LdOk l) (hd : doneL l = false) : FillOk l (fillL1 l) ∧ (doneL (fillL1 l) = true ∨ need (fillL1 l) < need l) := by
  unfold doneL at hd
  simp only [Bool.or_eq_false_iff, Bool.not_eq_false', List.isEmpty_iff, Bool.and_eq_false_iff] at hd
  unfold fillL1
  split
  · rename_i hr
    rw [List.isEmpty_iff] at hr
    have ht : l.top ≠ [] := fun e => by rcases hd.2 with h1 | h1 <;> simp_all
    have := takeTop_ok h hd.1 hr ht
    refine ⟨this.1, this.2.imp_right ?_⟩
    rintro ⟨r, h1, h2⟩
    have hn : need l = 6 := by unfold need; rw [if_pos hr]
    rw [hn]
    unfold need
    rw [h1]
    rw [if_neg (by simp)]
    unfold lastFull
    rw [h1]
    rw [if_pos (by simpa using h2)]
    show 5 - 1 < 6
    decide
  · rename_i hr
    exact takeRung_ok h hd.1 (by simpa using hr)
theorem peekN_ok : ∀ (n : Nat) {l : Ld}, LdOk l → need l ≤ n → FillOk l (peekN n l) ∧ doneL (peekN n l) = true
  | 0, l, h, hn => by
    exfalso
    have hf := h.few
    unfold need at hn
    split at hn
    · omega
    · split at hn <;> omega
  | n + 1, l, h, hn => by
    unfold peekN
    cases hd : doneL l with
    | true => exact ⟨⟨h, List.Perm.refl _⟩, hd⟩
    | false =>
      simp only [Bool.false_eq_true, if_false]
      have := fillL1_ok h hd
      rcases this.2 with h1 | h1
      · cases n with
        | zero =>
          exact ⟨this.1, h1⟩
        | succ n =>
          unfold peekN
          rw [if_pos h1]
          exact ⟨this.1, h1⟩
      · have ih := peekN_ok n this.1.ok (by omega)
        exact ⟨⟨ih.1.ok, ih.1.perm.trans this.1.perm⟩, ih.2⟩
theorem peekL_ok {l : Ld} (h : LdOk l) : FillOk l (peekL l) ∧ doneL (peekL l) = true := peekN_ok 20 h (by have := need_le h.few; omega)
theorem least {l : Ld} (h : LdOk l) {x : It} {rest : List It} (hb : l.bot = x :: rest) : ∀ y ∈ allL l, y = x ∨ ltIt x y = true := by
  intro y hy
  rw [allL_eq, List.mem_append, List.mem_append] at hy
  have hx := h.low x (by rw [hb]; exact .head _)
  rcases hy with (hy | hy) | hy
  · right
    have h1 := h.top y hy
    have h2 := @lastB_le l.rungs l.ts
    rw [ltIt_iff]; omega
  · right
    unfold rungsIts at hy
    rw [List.mem_flatMap] at hy
    obtain ⟨r, hr, hy⟩ := hy
    have := rungs_ge h.rungs r hr y hy
    rw [ltIt_iff]; omega
  · rw [hb] at hy
    have hs := h.sorted
    rw [hb, List.pairwise_cons] at hs
    rcases List.mem_cons.1 hy with rfl | hy
    · exact .inl rfl
    · exact .inr (hs.1 y hy)
theorem done_nil {l : Ld} (h : doneL l = true) (hb : l.bot = []) : allL l = [] := by
  unfold doneL at h
  rw [hb] at h
  simp only [List.isEmpty_nil, Bool.not_true, Bool.false_or, Bool.and_eq_true, List.isEmpty_iff] at h
  rw [allL_eq, h.1, h.2, hb]
  rfl
theorem popL_ok {l : Ld} (h : LdOk l) : LdOk (popL l) := by
  have hp := (peekL_ok h).1.ok
  have hsub : (allL (popL l)).Sublist (allL (peekL l)) := by
    rw [allL_eq, allL_eq]
    exact (List.Sublist.refl _).append (List.drop_sublist _ _)
  exact ⟨hp.ts0, hp.ts1, fun x hx => hp.times x (hsub.subset hx), hp.top, hp.rungs, hp.few, fun x hx => hp.low x (List.drop_subset _ _ hx), hp.sorted.sublist (List.drop_sublist _ _), hp.seqs.sublist (hsub.map _)⟩
theorem emptyL_ok : LdOk ⟨0, [], [], []⟩ := ⟨by decide, by decide, by simp [allL], by simp, trivial, by decide, by simp, List.Pairwise.nil, by simp [allL]⟩
end PQ
namespace PQ
/-! ### Handles and words -/
def wordOf (gen st : Int) : Int := gen * 4 + st
def genOf (w : Int) : Int := w / 4
def stOf (w : Int) : Int := w % 4
def hdlOf (slot gen : Int) : Int := gen * 64 + slot
def slotOf (h : Int) : Int := if validH h = true then h % 64 else -1
def hgenOf (h : Int) : Int := if validH h = true then h / 64 else -1
/-! ### The store -/
structure Sto where
  words : List Int
  mus : List (Option Int)
  slots : List (Int × Int)
  idle : List Int
  next : Int
  q : Ld
  deriving DecidableEq
def newS (cap : Nat) : Sto := ⟨List.replicate (cap + 1) 0, List.replicate 4 none, List.replicate cap (0, 0), ((List.range cap).map fun (n : Nat) => (n : Int)).reverse, 0, ⟨0, [], [], []⟩⟩
def wordS (s : Sto) (i : Int) : Int := if i < 0 then 0 else s.words[i.toNat]?.getD 0
def setW (s : Sto) (i v : Int) : Sto := if i < 0 then s else { s with words := s.words.set i.toNat v }
def lockS (s : Sto) (t : Int) (m : Nat) : Sto × Bool := if s.mus[m]? = some none then ({ s with mus := s.mus.set m (some t) }, true) else (s, false)
def unlockS (s : Sto) (t : Int) (m : Int) : Sto := if m < 0 then s else if s.mus[m.toNat]? = some (some t) then { s with mus := s.mus.set m.toNat none } else s
def casS (s : Sto) (i old new : Int) : Sto × Bool := if wordS s i = old then (setW s i new, true) else (s, false)
def allocS (s : Sto) (time : Int) : Sto × Option Int :=
  match s.idle.getLast? with
  | none => (s, none)
  | some i => (setW { s with idle := s.idle.dropLast, slots := s.slots.set i.toNat (time, s.next), next := s.next + 1 } (1 + i) (wordOf (genOf (wordS s (1 + i))) 1), some (hdlOf i (genOf (wordS s (1 + i)))))
def freeS (s : Sto) (slot : Int) : Sto :=
  let s' := setW s (1 + slot) (wordOf (genOf (wordS s (1 + slot)) + 1) 0)
  { s' with slots := s.slots.set slot.toNat (0, 0), idle := s.idle ++ [slot] }
def acceptsS (s : Sto) (time : Int) : Bool := s.q.rungs.any fun r => decide (curR r ≤ time)
def itemS (s : Sto) (slot : Int) : It := ⟨(s.slots[slot.toNat]?.getD (0, 0)).1, (s.slots[slot.toNat]?.getD (0, 0)).2, slot⟩
def putS (s : Sto) (slot : Int) : Sto := { s with q := insertL s.q (itemS s slot) }
def replS (s : Sto) (l : Ld) : Sto := if l.ts ≠ s.q.ts then { setW s 0 l.ts with q := l } else { s with q := l }
def peekS (s : Sto) : Sto × Option It := (replS s (peekL s.q), (peekL s.q).bot.head?)
def dropS (s : Sto) : Sto := replS s (popL s.q)
/-! ### Running calls -/
inductive InsSt where
  | start | tryTop | confirm | undo | tryRungs | choose | tryBot | tryArena | alloc | leave | put | release
  deriving DecidableEq
structure InsOp where
  time : Int
  st : Option InsSt
  held : List Int
  h : Option Int
  pend : Res
  res : Res
  eff : Bool
structure CanOp where
  handle : Int
  ph : Int
  seen : Int
  canc : Bool
structure BatOp where
  call : Call
  held : Nat
  scanned : Bool
  item : It
  word : Int
  claim : Bool
  removed : List Int
  events : List Ev
  res : Res
  eff : Bool
inductive OpS where
  | ins (o : InsOp)
  | can (o : CanOp)
  | bat (o : BatOp)
  | unk (b : Bool)
def farS (s : Sto) (time : Int) : Bool := decide (wordS s 0 ≤ time)
def unlockLast (s : Sto) (t : Int) (o : InsOp) : Sto × InsOp := (unlockS s t (o.held.getLast?.getD 0), { o with held := o.held.dropLast })
def releaseI (s : Sto) (t : Int) (o : InsOp) : Sto × InsOp :=
  let p := unlockLast s t o
  (p.1, { p.2 with st := if p.2.held.isEmpty then none else some .release })
def tryI (s : Sto) (t : Int) (o : InsOp) (m : Nat) (then_ : InsSt) : Sto × InsOp :=
  if (lockS s t m).2 = true then ((lockS s t m).1, { o with st := some then_, held := if m = 3 then o.held else o.held ++ [(m : Int)] }) else (s, o)
def nextI (s : Sto) (t : Int) (o : InsOp) : InsSt → Sto × InsOp
  | .start =>
    if o.time < 0 ∨ 1152921504606846976 < o.time then (s, { o with st := none, eff := true, pend := { o.pend with err := 1 } })
    else if farS s o.time = true then (s, { o with st := some .tryTop }) else (s, { o with st := some .tryRungs })
  | .tryTop => tryI s t o 0 .confirm
  | .confirm => (s, { o with st := if farS s o.time = true then some .tryArena else some .undo })
  | .undo => let p := unlockLast s t o; (p.1, { p.2 with st := some .tryRungs })
  | .tryRungs => tryI s t o 1 .choose
  | .choose => (s, { o with st := if acceptsS s o.time = true then some .tryArena else some .tryBot })
  | .tryBot => tryI s t o 2 .tryArena
  | .tryArena => tryI s t o 3 .alloc
  | .alloc =>
    match (allocS s o.time).2 with
    | some h => ((allocS s o.time).1, { o with st := some .leave, eff := true, h := some h, pend := { o.pend with rh := h } })
    | none => ((allocS s o.time).1, { o with st := some .leave, eff := true, pend := { o.pend with err := 10 } })
  | .leave => (unlockS s t 3, { o with st := some .put })
  | .put => releaseI (match o.h with | some h => putS s (slotOf h) | none => s) t o
  | .release => releaseI s t o
def stepI (s : Sto) (t : Int) (o : InsOp) : Sto × InsOp × Bool :=
  match o.st with
  | none => (s, o, true)
  | some st =>
    let p := nextI s t { o with eff := false } st
    (p.1, if p.2.st = none then { p.2 with res := p.2.pend } else p.2, decide (p.2.st = none))
def stale (w gen : Int) : Bool := decide (genOf w ≠ gen) || decide (stOf w = 0) || decide (stOf w = 3)
def stepC (s : Sto) (o : CanOp) : Sto × CanOp × Bool :=
  let slot := slotOf o.handle
  if slot < 0 ∨ (s.slots.length : Int) ≤ slot then (s, { o with ph := 2 }, true)
  else if o.ph = 1 then
    if (casS s (1 + slot) o.seen (wordOf (genOf o.seen) 3)).2 = true then ((casS s (1 + slot) o.seen (wordOf (genOf o.seen) 3)).1, { o with ph := 2, canc := true }, true) else (s, { o with ph := 0 }, false)
  else
    let w := wordS s (1 + slot)
    if stale w (hgenOf o.handle) = true then (s, { o with seen := w, ph := 2 }, true)
    else if stOf w = 2 then (s, { o with seen := w }, decide (o.ph = 2))
    else (s, { o with seen := w, ph := 1 }, false)
def dropB (s : Sto) (o : BatOp) : Sto × BatOp := (dropS s, { o with removed := o.removed ++ [o.item.slot] })
def stepB (s : Sto) (t : Int) (o : BatOp) : Sto × BatOp × Bool :=
  let o := { o with eff := false }
  if o.call.max < 0 ∨ 64 < o.call.max then (s, { o with eff := true, res := { o.res with err := 1 } }, true)
  else if o.scanned = false ∧ o.held < 4 then
    if (lockS s t o.held).2 = true then ((lockS s t o.held).1, { o with held := o.held + 1 }, false) else (s, o, false)
  else if o.claim = true then
    let c := casS s (1 + o.item.slot) o.word (wordOf (genOf o.word) 2)
    if c.2 = true then
      let p := dropB c.1 { o with claim := false }
      (p.1, { p.2 with events := o.events ++ [⟨o.item.time, hdlOf o.item.slot (genOf o.word)⟩] }, false)
    else (s, { o with claim := false }, false)
  else if o.scanned = false then
    match (peekS s).2 with
    | none => ((peekS s).1, { o with scanned := true, eff := true }, false)
    | some it =>
      if o.call.bound ≤ it.time ∨ (o.events.length : Int) = o.call.max then ((peekS s).1, { o with scanned := true, eff := true }, false)
      else
        let w := wordS (peekS s).1 (1 + it.slot)
        if stOf w = 3 then
          let p := dropB (peekS s).1 { o with item := it, word := w, claim := false }
          (p.1, p.2, false)
        else ((peekS s).1, { o with item := it, word := w, claim := true }, false)
  else match o.removed with
    | x :: r => (freeS s x, { o with removed := r }, false)
    | [] =>
      if o.held = 1 then (unlockS s t 0, { o with held := 0, res := { o.res with evs := o.events } }, true)
      else (unlockS s t ((o.held : Int) - 1), { o with held := o.held - 1 }, false)
def stepO (s : Sto) (t : Int) : OpS → Sto × OpS × Bool
  | .ins o => let p := stepI s t o; (p.1, .ins p.2.1, p.2.2)
  | .can o => let p := stepC s o; (p.1, .can p.2.1, p.2.2)
  | .bat o => let p := stepB s t o; (p.1, .bat p.2.1, p.2.2)
  | .unk _ => (s, .unk true, true)
def effO : OpS → Bool
  | .ins o => o.eff
  | .can o => decide (o.ph = 2)
  | .bat o => o.eff
  | .unk b => b
def resO : OpS → Res
  | .ins o => o.res
  | .can o => { canc := o.canc }
  | .bat o => o.res
  | .unk b => if b then { err := 1 } else {}
def newO (c : Call) : OpS :=
  if c.kind = 1 then .ins ⟨c.time, some .start, [], none, {}, {}, false⟩
  else if c.kind = 2 then .can ⟨c.handle, 0, 0, false⟩
  else if c.kind = 3 then .bat ⟨c, 0, false, ⟨0, 0, 0⟩, 0, false, [], [], {}, false⟩
  else .unk false
/-! ### Threads and picks -/
structure Thr where
  script : List Call
  results : List Res
  run : Option OpS
  cur : Done
structure RunS where
  sto : Sto
  thrs : List Thr
  dones : List Done
  left : Int
  picks : Int
def call0 : Call := ⟨0, 0, 0, 0, 0⟩
def substP (script : List Call) (results : List Res) (h : Int) (i : Nat) : Bool :=
  decide (h = -(i : Int) - 1) && decide ((script[i]?.getD call0).kind = 1) && decide ((results[i]?.getD {}).err = 0)
def nextT (t : Thr) : Call :=
  let c := t.script[t.results.length]?.getD call0
  match (List.range t.results.length).find? (substP t.script t.results c.handle) with
  | some i => { c with handle := (t.results[i]?.getD {}).rh }
  | none => c
def startT (t : Thr) (p : Nat) (now : Int) : Thr :=
  match t.run with
  | some _ => t
  | none => { t with run := some (newO (nextT t)), cur := ⟨p, nextT t, {}, now, 0, 0⟩ }
/-- A thread's running call takes one step. -/
def stepT (s : Sto) (t : Thr) (o : OpS) (p : Nat) (now : Int) : Sto × Thr × Bool :=
  let q := stepO s p o
  let cur := if effO q.2.1 = true then { t.cur with point := now } else t.cur
  if q.2.2 = true then
    (q.1, { t with run := none, results := t.results ++ [resO q.2.1], cur := { cur with fin := now, res := resO q.2.1 } }, true)
  else (q.1, { t with run := some q.2.1, cur := cur }, false)
def pickM (r : RunS) (p : Nat) : RunS :=
  match r.thrs[p]? with
  | none => { r with picks := r.picks + 1 }
  | some t =>
    if t.run.isNone = true ∧ t.results.length = t.script.length then { r with picks := r.picks + 1 }
    else
      let t' := startT t p r.picks
      match t'.run with
      | none => { r with picks := r.picks + 1 }
      | some o =>
        let q := stepT r.sto t' o p r.picks
        { sto := q.1, thrs := r.thrs.set p q.2.1, dones := if q.2.2 = true then r.dones ++ [q.2.1.cur] else r.dones, left := if q.2.2 = true then r.left - 1 else r.left, picks := r.picks + 1 }
def startM (cap : Nat) (scripts : List (List Call)) : RunS :=
  ⟨newS cap, scripts.map fun s => ⟨s, [], none, done0⟩, [], ((scripts.map List.length).sum : Nat), 0⟩
/-- The picks given, till nothing is left. -/
def runPicks : RunS → List Nat → RunS
  | r, [] => r
  | r, p :: ps => if 0 < r.left then runPicks (pickM r p) ps else r
/-- Round after round, at most 'n' picks. -/
def rounds (threads : Nat) : Nat → Nat → RunS → RunS
  | 0, _, r => r
  | n + 1, p, r => if r.left = 0 then r else rounds threads n ((p + 1) % threads) (pickM r p)
/-- A run to its end, with a number of rounds that suffices. -/
def finishM (cap : Nat) (scripts : List (List Call)) (picks : List Nat) (n : Nat) : RunS := rounds scripts.length n 0 (runPicks (startM cap scripts) picks)
end PQ
namespace PQ
theorem nextR_new {r r' : Rg} {items : List It} {s : Int} (hr : RgOk r) (h : nextR r = some (r', items, s)) : RgOk (newR s (ceil8 r'.width)) ∧ 1 ≤ r'.width ∧ r'.width ≤ 144115188075855873 := by
  obtain ⟨g1, g2, g3, g4, g5, g6, g7, g8, g9, g10⟩ := nextR_some hr h
  have w0 := g1.wid0
  have w1 := g1.wid1
  have hwb := ceil8_bounds (n := r'.width) (by omega) (by omega)
  obtain ⟨x0, hx0⟩ := List.exists_mem_of_ne_nil _ g2
  have hx0' := g9 x0 hx0
  have hs0 : 0 ≤ s := by
    have := hr.start (i := r.cur) hr.cur0 hr.cur1
    unfold curR at g4; omega
  have ht0 := hx0'.1
  unfold TimeOk at ht0
  exact ⟨newR_ok hs0 (by omega) hwb.1 hwb.2, w0, w1⟩
theorem rung_items {l : Ld} (h : LdOk l) {r r' : Rg} {items : List It} {s : Int} (hr : r ∈ l.rungs) (hn : nextR r = some (r', items, s)) :
    (items.map It.seq).Nodup ∧ items.length ≤ (allL l).length ∧ ∀ x ∈ items, TimeOk x.time := by
  obtain ⟨g1, g2, g3, g4, g5, g6, g7, g8, g9, g10⟩ := nextR_some (h.rungs.all r hr) hn
  obtain ⟨A, C, hs⟩ := List.append_of_mem hr
  have hsub : r.bks.flatten.Sublist (allL l) := by
    rw [allL_eq, hs, rungsIts_append, rungsIts_cons]
    refine List.Sublist.trans ?_ (List.sublist_append_left _ _)
    refine List.Sublist.trans ?_ (List.sublist_append_right _ _)
    refine List.Sublist.trans ?_ (List.sublist_append_right _ _)
    exact List.sublist_append_left _ _
  have h2 : ((items ++ r'.bks.flatten).map It.seq).Nodup := seqs_of_perm g3 (h.seqs.sublist (hsub.map _))
  rw [List.map_append, List.nodup_append] at h2
  refine ⟨h2.1, ?_, fun x hx => (g9 x hx).1⟩
  have h3 := g3.length_eq
  rw [List.length_append] at h3
  have := hsub.length_le
  omega
theorem bucket_len {l : Ld} {r : Rg} (hr : r ∈ l.rungs) {b : List It} (hb : b ∈ r.bks) : b.length ≤ (allL l).length := by
  obtain ⟨A, C, hs⟩ := List.append_of_mem hr
  obtain ⟨A2, C2, hs2⟩ := List.append_of_mem hb
  rw [allL_eq, hs, rungsIts_append, rungsIts_cons, hs2]
  simp only [List.flatten_append, List.flatten_cons, List.length_append]
  omega
theorem insertL_rung {l : Ld} {it : It} (ht : ¬ l.ts ≤ it.time) {i : Nat} (h : l.rungs.findIdx? (fun r => decide (curR r ≤ it.time)) = some i) : insertL l it = { l with rungs := l.rungs.modify i (putR · it) } := by
  unfold insertL; rw [if_neg ht, h]
theorem insertL_bot {l : Ld} {it : It} (ht : ¬ l.ts ≤ it.time) (h : l.rungs.findIdx? (fun r => decide (curR r ≤ it.time)) = none) : insertL l it = { l with bot := insIt l.bot it } := by
  unfold insertL; rw [if_neg ht, h]
theorem posIt_le (l : List It) (it : It) : posIt l it ≤ l.length := (List.takeWhile_sublist _).length_le
theorem posIt_lo {it : It} : ∀ {l : List It} {j : Nat} (_ : j < posIt l it) (hj' : j < l.length), ltIt l[j] it = true
  | x :: l, j, hj, hj' => by
    unfold posIt at hj
    rw [List.takeWhile_cons] at hj
    cases hx : ltIt x it with
    | false => rw [hx] at hj; exact absurd hj (Nat.not_lt_zero _)
    | true =>
      rw [hx] at hj
      cases j with
      | zero => exact hx
      | succ j => exact posIt_lo (l := l) (j := j) (by unfold posIt; simpa using hj) (by simpa using hj')
theorem posIt_hi {it : It} : ∀ {l : List It} {j : Nat} (_ : l.Pairwise fun a b => ltIt a b = true) (_ : posIt l it ≤ j) (hj' : j < l.length), ltIt l[j] it = false
  | x :: l, j, hs, hj, hj' => by
    rw [List.pairwise_cons] at hs
    unfold posIt at hj
    rw [List.takeWhile_cons] at hj
    cases hx : ltIt x it with
    | true =>
      rw [hx] at hj
      cases j with
      | zero => exact absurd hj (by simp)
      | succ j => exact posIt_hi (l := l) (j := j) hs.2 (by unfold posIt; simpa using hj) (by simpa using hj')
    | false =>
      cases j with
      | zero => exact hx
      | succ j =>
        cases hy : ltIt (x :: l)[j + 1] it with
        | false => rfl
        | true =>
          have h1 := hs.1 (l[j]'(by simpa using hj')) (List.getElem_mem _)
          have h2 : ltIt (l[j]'(by simpa using hj')) it = true := hy
          rw [ltIt_trans h1 h2] at hx; cases hx
theorem need_pos {l : Ld} (h : l.rungs.length ≤ 4) : 1 ≤ need l := by
  unfold need; split
  · omega
  · split <;> omega
theorem peekN_done {l : Ld} (h : doneL l = true) : ∀ n, peekN n l = l
  | 0 => rfl
  | n + 1 => by unfold peekN; rw [if_pos h]
theorem peekN_step {l : Ld} (h : doneL l = false) (n : Nat) : peekN (n + 1) l = peekN n (fillL1 l) := by
  rw [peekN, if_neg (by rw [h]; decide)]
end PQ
namespace PQ
/-- The store is in order; 'K' bounds its generations and sequence numbers. -/
structure SOk (s : Sto) (K : Int) : Prop where
  wl : s.words.length = s.slots.length + 1
  ml : s.mus.length = 4
  sl : s.slots.length ≤ 64
  il : s.idle.length ≤ 64
  idle : ∀ i ∈ s.idle, 0 ≤ i ∧ i < s.slots.length
  wd : ∀ i : Int, 0 ≤ i → 0 ≤ wordS s (1 + i) ∧ wordS s (1 + i) ≤ 4 * K + 3
  nx : 0 ≤ s.next ∧ s.next ≤ K
  q : LdOk s.q
  qn : (allL s.q).length ≤ 18
theorem gen_bounds {w K : Int} (h : 0 ≤ w ∧ w ≤ 4 * K + 3) : 0 ≤ genOf w ∧ genOf w ≤ K := by unfold genOf; omega
theorem setW_eq {s : Sto} {i v : Int} (h : 0 ≤ i) : setW s i v = { s with words := s.words.set i.toNat v } := if_neg (by omega)
theorem wordS_setW {s : Sto} {i v j : Int} (hi : 0 ≤ i) (hl : i < s.words.length) (hj : 0 ≤ j) : wordS (setW s i v) j = if i = j then v else wordS s j := by
  have e1 : wordS (setW s i v) j = ((s.words.set i.toNat v)[j.toNat]?).getD 0 := by
    rw [setW_eq hi]; exact if_neg (by omega)
  have e2 : wordS s j = (s.words[j.toNat]?).getD 0 := if_neg (by omega)
  rw [e1, e2]
  by_cases h : i = j
  · subst h
    rw [if_pos rfl, List.getElem?_set_self (by omega)]; rfl
  · rw [if_neg h, List.getElem?_set_ne (by omega)]
theorem setW_big {s : Sto} {i v : Int} (hi : 0 ≤ i) (hl : s.words.length ≤ i) : setW s i v = s := by
  rw [setW_eq hi, List.set_eq_of_length_le (by omega)]
theorem setW_slots (s : Sto) (i v : Int) : (setW s i v).slots = s.slots := by unfold setW; split <;> rfl
theorem setW_mus (s : Sto) (i v : Int) : (setW s i v).mus = s.mus := by unfold setW; split <;> rfl
theorem setW_idle (s : Sto) (i v : Int) : (setW s i v).idle = s.idle := by unfold setW; split <;> rfl
theorem setW_next (s : Sto) (i v : Int) : (setW s i v).next = s.next := by unfold setW; split <;> rfl
theorem setW_q (s : Sto) (i v : Int) : (setW s i v).q = s.q := by unfold setW; split <;> rfl
theorem setW_wl (s : Sto) (i v : Int) : (setW s i v).words.length = s.words.length := by unfold setW; split <;> simp
theorem wordS_setW_le {s : Sto} {i v j : Int} (hj : 0 ≤ j) : wordS (setW s i v) j = v ∨ wordS (setW s i v) j = wordS s j := by
  by_cases hi : 0 ≤ i
  · by_cases hl : i < s.words.length
    · rw [wordS_setW hi hl hj]; split
      · exact .inl rfl
      · exact .inr rfl
    · rw [setW_big hi (by omega)]; exact .inr rfl
  · rw [show setW s i v = s from if_pos (by omega)]; exact .inr rfl
theorem SOk.setw {s : Sto} {K : Int} (h : SOk s K) {i v : Int} (hv : 0 ≤ v ∧ v ≤ 4 * K + 3) : SOk (setW s i v) K where
  wl := by rw [setW_wl, setW_slots]; exact h.wl
  ml := by rw [setW_mus]; exact h.ml
  sl := by rw [setW_slots]; exact h.sl
  il := by rw [setW_idle]; exact h.il
  idle := by rw [setW_slots, setW_idle]; exact h.idle
  wd := fun j hj => by
    rcases wordS_setW_le (s := s) (i := i) (v := v) (j := 1 + j) (by omega) with e | e
    · rw [e]; exact hv
    · rw [e]; exact h.wd j hj
  nx := by rw [setW_next]; exact h.nx
  q := by rw [setW_q]; exact h.q
  qn := by rw [setW_q]; exact h.qn
theorem SOk.cas {s : Sto} {K : Int} (h : SOk s K) {i a b : Int} (hv : 0 ≤ b ∧ b ≤ 4 * K + 3) : SOk (casS s i a b).1 K := by
  unfold casS; split
  · exact h.setw hv
  · exact h
theorem wordS_set0 {s : Sto} {v : Int} {j : Int} (hj : 0 ≤ j) : wordS (setW s 0 v) (1 + j) = wordS s (1 + j) := by
  by_cases hl : (0 : Int) < s.words.length
  · rw [wordS_setW (by omega) hl (by omega), if_neg (by omega)]
  · rw [setW_big (by omega) (by omega)]
theorem replS_slots (s : Sto) (l : Ld) : (replS s l).slots = s.slots := by
  unfold replS; split
  · exact setW_slots s 0 l.ts
  · rfl
theorem replS_mus (s : Sto) (l : Ld) : (replS s l).mus = s.mus := by
  unfold replS; split
  · exact setW_mus s 0 l.ts
  · rfl
theorem replS_idle (s : Sto) (l : Ld) : (replS s l).idle = s.idle := by
  unfold replS; split
  · exact setW_idle s 0 l.ts
  · rfl
theorem replS_next (s : Sto) (l : Ld) : (replS s l).next = s.next := by
  unfold replS; split
  · exact setW_next s 0 l.ts
  · rfl
theorem replS_q (s : Sto) (l : Ld) : (replS s l).q = l := by
  unfold replS; split <;> rfl
theorem replS_word (s : Sto) (l : Ld) {j : Int} (hj : 0 ≤ j) : wordS (replS s l) (1 + j) = wordS s (1 + j) := by
  unfold replS; split
  · exact wordS_set0 (s := s) (v := l.ts) hj
  · rfl
theorem replS_wl (s : Sto) (l : Ld) : (replS s l).words.length = s.words.length := by
  unfold replS; split
  · exact setW_wl s 0 l.ts
  · rfl
theorem SOk.repl {s : Sto} {K : Int} (h : SOk s K) {l : Ld} (hl : LdOk l) (hn : (allL l).length ≤ 18) : SOk (replS s l) K where
  wl := by rw [replS_wl, replS_slots]; exact h.wl
  ml := by rw [replS_mus]; exact h.ml
  sl := by rw [replS_slots]; exact h.sl
  il := by rw [replS_idle]; exact h.il
  idle := by rw [replS_slots, replS_idle]; exact h.idle
  wd := fun j hj => by rw [replS_word s l hj]; exact h.wd j hj
  nx := by rw [replS_next]; exact h.nx
  q := by rw [replS_q]; exact hl
  qn := by rw [replS_q]; exact hn
theorem SOk.peek {s : Sto} {K : Int} (h : SOk s K) : SOk (peekS s).1 K := by
  have hp := (peekL_ok h.q).1
  exact h.repl hp.ok (by rw [hp.perm.length_eq]; exact h.qn)
theorem SOk.drop {s : Sto} {K : Int} (h : SOk s K) : SOk (dropS s) K := by
  have hp := (peekL_ok h.q).1
  refine h.repl (popL_ok h.q) ?_
  have hsub : (allL (popL s.q)).Sublist (allL (peekL s.q)) := by
    rw [allL_eq, allL_eq]
    exact (List.Sublist.refl _).append (List.drop_sublist _ _)
  have := hsub.length_le
  rw [hp.perm.length_eq] at this
  exact Nat.le_trans this h.qn
end PQ
