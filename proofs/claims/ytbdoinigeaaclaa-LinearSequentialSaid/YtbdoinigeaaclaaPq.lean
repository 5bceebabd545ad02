/- The sequential model of the pending-event set, and the search for a linearization, in plain Lean. Conditions: none; no program in sight.
   Where an entry is put: the law of the binary search's point. Conditions: the entries are sorted by time.
   Replaying an order, searching for a linearization: plain Lean. Conditions: none.
   The search for a linearization is sound, complete, finds the first order, and follows a sequential history: plain Lean. Conditions: as each theorem says. -/
import Derived.Test.YtbdoinigeaaclaaK15
set_option linter.all false
namespace PQ
structure Ev where
  time : Int
  handle : Int
  deriving DecidableEq
structure Call where
  kind : Int
  time : Int
  handle : Int
  max : Int
  bound : Int
structure Res where
  err : Int := 0
  rh : Int := 0
  canc : Bool := false
  evs : List Ev := []
  deriving DecidableEq
structure Done where
  thread : Int
  call : Call
  res : Res
  beg : Int
  point : Int
  fin : Int
structure Ent where
  time : Int
  seq : Int
  handle : Int
  dead : Bool
  deriving DecidableEq
structure Mod where
  cap : Int
  ents : List Ent
  next : Int
  issued : List Int
  deriving DecidableEq
def validH (h : Int) : Bool := decide (0 ≤ h) && decide (h ≤ 70368744177727)
def pos (l : List Ent) (t : Int) : Nat := (l.takeWhile fun e => decide (e.time ≤ t)).length
def insE (l : List Ent) (e : Ent) : List Ent := l.take (pos l e.time) ++ e :: l.drop (pos l e.time)
def insM (m : Mod) (c : Call) (h : Int) : Mod × Res :=
  if c.time < 0 ∨ 1152921504606846976 < c.time then (m, { err := 1 })
  else if (m.ents.length : Int) = m.cap then (m, { err := 10 })
  else if validH h = false ∨ m.issued.contains h = true then (m, { err := 1 })
  else ({ m with ents := insE m.ents ⟨c.time, m.next, h, false⟩, next := m.next + 1, issued := m.issued ++ [h] }, { rh := h })
def canP (h : Int) (e : Ent) : Bool := decide (e.handle = h) && !e.dead
def canM (m : Mod) (c : Call) : Mod × Res :=
  match m.ents.findIdx? (canP c.handle) with
  | none => (m, {})
  | some i => ({ m with ents := m.ents.modify i fun e => { e with dead := true } }, { canc := true })
def batL (bound max : Int) : List Ent → List Ev → List Ev × List Ent
  | [], out => (out, [])
  | e :: r, out => if e.time < bound ∧ (out.length : Int) < max then batL bound max r (if e.dead then out else out ++ [⟨e.time, e.handle⟩]) else (out, e :: r)
def batM (m : Mod) (c : Call) : Mod × Res :=
  if c.max < 0 ∨ 64 < c.max then (m, { err := 1 })
  else ({ m with ents := (batL c.bound c.max m.ents []).2 }, { evs := (batL c.bound c.max m.ents []).1 })
def doM (m : Mod) (c : Call) (h : Int) : Mod × Res :=
  if c.kind = 1 then insM m c h else if c.kind = 2 then canM m c else if c.kind = 3 then batM m c else (m, { err := 1 })
def accM (m : Mod) (c : Call) (r : Res) : Mod × Bool :=
  if (doM m c r.rh).2 = r then ((doM m c r.rh).1, true) else (m, false)
/-- What holds of every model that comes up; 'n': at most so many handles were issued. -/
structure Inv (n : Nat) (m : Mod) : Prop where
  cap1 : 1 ≤ m.cap
  cap2 : m.cap ≤ 64
  len : (m.ents.length : Int) ≤ m.cap
  next : m.next = m.issued.length
  issued : m.issued.length ≤ n
  sorted : m.ents.Pairwise fun a b => a.time ≤ b.time
  seqs : ∀ e ∈ m.ents, e.seq < m.next
theorem takeWhile_pos {l : List Ent} {t : Int} : pos l t ≤ l.length := by
  unfold pos; exact (List.takeWhile_sublist _).length_le
theorem insE_length (l : List Ent) (e : Ent) : (insE l e).length = l.length + 1 := by
  have := @takeWhile_pos l e.time
  unfold insE
  simp only [List.length_append, List.length_take, List.length_cons, List.length_drop]; omega
theorem mem_insE {l : List Ent} {e x : Ent} : x ∈ insE l e ↔ x = e ∨ x ∈ l := by
  unfold insE
  rw [List.mem_append, List.mem_cons]
  have : x ∈ l ↔ x ∈ l.take (pos l e.time) ∨ x ∈ l.drop (pos l e.time) := by
    rw [← List.mem_append, List.take_append_drop]
  rw [this]
  constructor
  · rintro (h | h | h)
    · exact .inr (.inl h)
    · exact .inl h
    · exact .inr (.inr h)
  · rintro (h | h | h)
    · exact .inr (.inl h)
    · exact .inl h
    · exact .inr (.inr h)
theorem take_pos (l : List Ent) (t : Int) : l.take (pos l t) = l.takeWhile fun e => decide (e.time ≤ t) := by
  unfold pos
  induction l with
  | nil => rfl
  | cons e l ih => by_cases h : e.time ≤ t <;> simp [List.takeWhile_cons, h]; exact ih
theorem drop_pos (l : List Ent) (t : Int) : l.drop (pos l t) = l.dropWhile fun e => decide (e.time ≤ t) := by
  unfold pos
  induction l with
  | nil => rfl
  | cons e l ih => by_cases h : e.time ≤ t <;> simp [List.takeWhile_cons, List.dropWhile_cons, h]; exact ih
theorem sorted_insE {l : List Ent} {e : Ent} (h : l.Pairwise fun a b => a.time ≤ b.time) : (insE l e).Pairwise fun a b => a.time ≤ b.time := by
  unfold insE
  rw [take_pos, drop_pos]
  induction l with
  | nil => simp
  | cons x l ih =>
    rw [List.pairwise_cons] at h
    by_cases hx : x.time ≤ e.time
    · simp only [List.takeWhile_cons, List.dropWhile_cons, hx, decide_true, if_true, List.cons_append]
      rw [List.pairwise_cons]
      refine ⟨fun y hy => ?_, ih h.2⟩
      have : y = e ∨ y ∈ l := by
        rw [← mem_insE (l := l), insE, take_pos, drop_pos]; exact hy
      rcases this with rfl | hy
      · exact hx
      · exact h.1 y hy
    · simp only [List.takeWhile_cons, List.dropWhile_cons, hx, decide_false, Bool.false_eq_true, if_false, List.nil_append]
      rw [List.pairwise_cons]
      refine ⟨fun y hy => ?_, List.pairwise_cons.2 h⟩
      rcases List.mem_cons.1 hy with rfl | hy
      · omega
      · have := h.1 y hy; omega
theorem batL_suffix (bound max : Int) : ∀ (l : List Ent) (out : List Ev), (batL bound max l out).2 <:+ l
  | [], out => List.suffix_refl _
  | e :: r, out => by
    unfold batL
    split
    · exact (batL_suffix bound max r _).trans (List.suffix_cons _ _)
    · exact List.suffix_refl _
theorem Inv.mono {n k : Nat} {m : Mod} (h : Inv n m) (hk : n ≤ k) : Inv k m := ⟨h.cap1, h.cap2, h.len, h.next, Nat.le_trans h.issued hk, h.sorted, h.seqs⟩
theorem Inv.do {n : Nat} {m : Mod} (h : Inv n m) (c : Call) (hd : Int) : Inv (n + 1) (doM m c hd).1 := by
  have hm := h.mono (Nat.le_succ n)
  unfold doM
  split
  · unfold insM
    split
    · exact hm
    · split
      · exact hm
      · split
        · exact hm
        · rename_i h1 h2 h3
          have hl := h.len
          have hn := h.next
          have hi := h.issued
          refine ⟨h.cap1, h.cap2, ?_, ?_, ?_, sorted_insE h.sorted, fun e he => ?_⟩
          · simp only [insE_length]; omega
          · simp only [List.length_append, List.length_cons, List.length_nil]; omega
          · simp only [List.length_append, List.length_cons, List.length_nil]; omega
          · rcases mem_insE.1 he with rfl | he
            · show m.next < m.next + 1; omega
            · have := h.seqs e he
              show e.seq < m.next + 1; omega
  · split
    · unfold canM
      split
      · exact hm
      · rename_i i hi
        have key : ∀ x ∈ m.ents.modify i (fun e => { e with dead := true }), ∃ y ∈ m.ents, x.time = y.time ∧ x.seq = y.seq := by
          intro x hx
          obtain ⟨j, hj, rfl⟩ := List.mem_iff_getElem.1 hx
          simp only [List.length_modify] at hj
          refine ⟨m.ents[j], List.getElem_mem hj, ?_⟩
          rw [List.getElem_modify]; split <;> exact ⟨rfl, rfl⟩
        refine ⟨h.cap1, h.cap2, by simpa using h.len, h.next, Nat.le_trans h.issued (Nat.le_succ n), ?_, fun e he => ?_⟩
        · rw [List.pairwise_iff_getElem]
          intro a b ha hb hab
          simp only [List.length_modify] at ha hb
          have := List.pairwise_iff_getElem.1 h.sorted a b ha hb hab
          simp only [List.getElem_modify]
          split <;> split <;> exact this
        · obtain ⟨y, hy, _, h2⟩ := key e he
          show e.seq < m.next
          rw [h2]; exact h.seqs y hy
    · split
      · unfold batM
        split
        · exact hm
        · have hs := batL_suffix c.bound c.max m.ents []
          refine ⟨h.cap1, h.cap2, ?_, h.next, Nat.le_trans h.issued (Nat.le_succ n), h.sorted.sublist hs.sublist, fun e he => h.seqs e (hs.subset he)⟩
          have := hs.length_le
          have hl := h.len
          show ((batL c.bound c.max m.ents []).2.length : Int) ≤ m.cap
          omega
      · exact hm
theorem Inv.acc {n : Nat} {m : Mod} (h : Inv n m) (c : Call) (r : Res) : Inv (n + 1) (accM m c r).1 := by
  unfold accM
  split
  · exact h.do c r.rh
  · exact h.mono (Nat.le_succ n)
def prec (a b : Done) : Bool := decide (a.fin < b.beg)
def overl (a b : Done) : Bool := !prec a b && !prec b a
def okAt (l : List Done) (i : Nat) : Bool := match l[i]? with
  | some a => decide (0 ≤ a.beg) && decide (a.beg ≤ a.fin) && decide (a.fin ≤ 1099511627776) && !(l.take i).any fun b => decide (a.thread = b.thread) && overl a b
  | none => true
def validL (l : List Done) : Bool := decide (l.length ≤ 10) && (List.range l.length).all (okAt l)
theorem validL_of {l : List Done} (h : l.length ≤ 10) (hall : ∀ i, i < l.length → okAt l i = true) : validL l = true := by
  simp only [validL, h, decide_true, Bool.true_and, List.all_eq_true, List.mem_range]
  exact hall
theorem validL_not {l : List Done} {i : Nat} (hi : i < l.length) (h : okAt l i = false) : validL l = false := by
  cases hv : validL l with
  | false => rfl
  | true =>
    simp only [validL, Bool.and_eq_true, List.all_eq_true, List.mem_range] at hv
    rw [hv.2 i hi] at h; cases h
theorem validL_long {l : List Done} (h : 10 < l.length) : validL l = false := by
  simp only [validL, decide_eq_false (show ¬ l.length ≤ 10 by omega), Bool.false_and]
end PQ
namespace PQ
theorem pos_lo : ∀ {l : List Ent} {t : Int} {j : Nat} (_ : j < pos l t) (hj' : j < l.length), l[j].time ≤ t
  | [], _, _, _, hj' => absurd hj' (Nat.not_lt_zero _)
  | e :: l, t, j, hj, hj' => by
    unfold pos at hj
    by_cases he : e.time ≤ t
    · cases j with
      | zero => exact he
      | succ j =>
        simp only [List.takeWhile_cons, he, decide_true, if_true, List.length_cons] at hj
        have := pos_lo (l := l) (t := t) (j := j) (by unfold pos; omega) (by simpa using hj')
        simpa using this
    · simp [List.takeWhile_cons, he] at hj
theorem pos_hi : ∀ {l : List Ent} {t : Int} {j : Nat} (_ : l.Pairwise fun a b => a.time ≤ b.time) (_ : pos l t ≤ j) (hj' : j < l.length), t < l[j].time
  | [], _, _, _, _, hj' => absurd hj' (Nat.not_lt_zero _)
  | e :: l, t, j, hs, hj, hj' => by
    unfold pos at hj
    rw [List.pairwise_cons] at hs
    by_cases he : e.time ≤ t
    · simp only [List.takeWhile_cons, he, decide_true, if_true, List.length_cons] at hj
      cases j with
      | zero => omega
      | succ j =>
        have := pos_hi (l := l) (t := t) (j := j) hs.2 (by unfold pos; omega) (by simpa using hj')
        simpa using this
    · cases j with
      | zero => simp; omega
      | succ j =>
        have := hs.1 (l[j]'(by simpa using hj')) (List.getElem_mem _)
        simp; omega
end PQ
namespace PQ
def done0 : Done := ⟨0, ⟨0, 0, 0, 0, 0⟩, {}, 0, 0, 0⟩
def dat (l : List Done) (i : Nat) : Done := (l[i]?).getD done0
theorem dat_get {l : List Done} {i : Nat} (h : i < l.length) : dat l i = l[i] := by simp [dat, h]
def capBad (cap : Int) : Prop := cap < 1 ∨ 64 < cap
instance (cap : Int) : Decidable (capBad cap) := inferInstanceAs (Decidable (_ ∨ _))
/-- The model behind an order's first calls: none where one does not replay. -/
def repL (l : List Done) : Mod → List Int → List Int → Option Mod
  | m, _, [] => some m
  | m, seen, i :: r =>
    if i < 0 ∨ (l.length : Int) ≤ i ∨ seen.contains i = true then none
    else if seen.any (fun j => prec (dat l i.toNat) (dat l j.toNat)) = true then none
    else if (accM m (dat l i.toNat).call (dat l i.toNat).res).2 = true then repL l (accM m (dat l i.toNat).call (dat l i.toNat).res).1 (seen ++ [i]) r
    else none
def replayL (cap : Int) (l : List Done) (ord : List Int) : Bool :=
  if capBad cap ∨ ord.length ≠ l.length then false else (repL l ⟨cap, [], 0, []⟩ [] ord).isSome
/-- May call 'i' come next, behind the calls of 'used'? -/
def readyL (l : List Done) (used : List Nat) (i : Nat) : Bool :=
  !used.contains i && (List.range l.length).all fun j => used.contains j || !prec (dat l j) (dat l i)
/-- The first order, in the order of words, that goes on from 'ord' by k calls. -/
def searchL (l : List Done) : Nat → Mod → List Nat → Option (List Nat)
  | 0, _, ord => some ord
  | k + 1, m, ord => (List.range l.length).findSome? fun i =>
    if readyL l ord i = true then
      if (accM m (dat l i).call (dat l i).res).2 = true then searchL l k (accM m (dat l i).call (dat l i).res).1 (ord ++ [i]) else none
    else none
def checkL (cap : Int) (l : List Done) : Option (List Nat) := if capBad cap then none else searchL l l.length ⟨cap, [], 0, []⟩ []
end PQ
namespace PQ
/-- What an order that replays obeys. -/
structure Obeys (l : List Done) (seen t : List Int) : Prop where
  rng : ∀ i ∈ t, 0 ≤ i ∧ i < (l.length : Int)
  new : ∀ i ∈ t, i ∉ seen
  nodup : t.Nodup
  old : ∀ i ∈ t, ∀ j ∈ seen, prec (dat l i.toNat) (dat l j.toNat) = false
  ord : t.Pairwise fun j i => prec (dat l i.toNat) (dat l j.toNat) = false
theorem repL_cons {l : List Done} {m : Mod} {seen r : List Int} {i : Int} (h : (repL l m seen (i :: r)).isSome = true) :
    0 ≤ i ∧ i < (l.length : Int) ∧ i ∉ seen ∧ (∀ j ∈ seen, prec (dat l i.toNat) (dat l j.toNat) = false) ∧
    (accM m (dat l i.toNat).call (dat l i.toNat).res).2 = true ∧ (repL l (accM m (dat l i.toNat).call (dat l i.toNat).res).1 (seen ++ [i]) r).isSome = true := by
  unfold repL at h
  split at h
  · cases h
  · rename_i h1
    split at h
    · cases h
    · rename_i h2
      split at h
      · rename_i h3
        refine ⟨by omega, by omega, fun hx => h1 (.inr (.inr (by simpa using hx))), fun j hj => ?_, h3, h⟩
        cases hp : prec (dat l i.toNat) (dat l j.toNat) with
        | false => rfl
        | true => exact absurd (List.any_eq_true.2 ⟨j, hj, hp⟩) h2
      · cases h
theorem repL_obeys {l : List Done} : ∀ {t : List Int} {m : Mod} {seen : List Int}, (repL l m seen t).isSome = true → Obeys l seen t
  | [], _, _, _ => ⟨by simp, by simp, List.nodup_nil, by simp, List.Pairwise.nil⟩
  | i :: r, m, seen, h => by
    obtain ⟨h1, h2, h3, h4, _, h6⟩ := repL_cons h
    have ih := repL_obeys h6
    refine ⟨?_, ?_, ?_, ?_, ?_⟩
    · rintro x hx
      rcases List.mem_cons.1 hx with rfl | hx
      · exact ⟨h1, h2⟩
      · exact ih.rng x hx
    · rintro x hx
      rcases List.mem_cons.1 hx with rfl | hx
      · exact h3
      · exact fun hs => ih.new x hx (List.mem_append_left _ hs)
    · rw [List.nodup_cons]
      exact ⟨fun hx => ih.new i hx (List.mem_append_right _ (List.mem_singleton.2 rfl)), ih.nodup⟩
    · rintro x hx j hj
      rcases List.mem_cons.1 hx with rfl | hx
      · exact h4 j hj
      · exact ih.old x hx j (List.mem_append_left _ hj)
    · rw [List.pairwise_cons]
      exact ⟨fun x hx => ih.old x hx i (List.mem_append_right _ (List.mem_singleton.2 rfl)), ih.ord⟩
def oI (l : List Nat) : List Int := l.map fun (n : Nat) => (n : Int)
theorem oI_mem {l : List Nat} {n : Nat} : (n : Int) ∈ oI l ↔ n ∈ l := by
  unfold oI
  rw [List.mem_map]
  constructor
  · rintro ⟨x, hx, h⟩
    have : x = n := by omega
    exact this ▸ hx
  · exact fun h => ⟨n, h, rfl⟩
/-- What the search keeps of the calls that it used. -/
structure Used (l : List Done) (used : List Nat) : Prop where
  rng : ∀ i ∈ used, i < l.length
  free : ∀ i, i < l.length → i ∉ used → ∀ j ∈ used, prec (dat l i) (dat l j) = false
theorem Used.nil (l : List Done) : Used l [] := ⟨by simp, by simp⟩
theorem ready_iff {l : List Done} {used : List Nat} {i : Nat} : readyL l used i = true ↔ i ∉ used ∧ ∀ j, j < l.length → j ∈ used ∨ prec (dat l j) (dat l i) = false := by
  unfold readyL
  simp
theorem Used.step {l : List Done} {used : List Nat} {i : Nat} (h : Used l used) (hi : i < l.length) (hr : readyL l used i = true) : Used l (used ++ [i]) := by
  rw [ready_iff] at hr
  refine ⟨fun x hx => ?_, fun x hx hn j hj => ?_⟩
  · rcases List.mem_append.1 hx with hx | hx
    · exact h.rng x hx
    · rw [List.mem_singleton.1 hx]; exact hi
  · have hn1 : x ∉ used := fun hh => hn (List.mem_append_left _ hh)
    rcases List.mem_append.1 hj with hj | hj
    · exact h.free x hx hn1 j hj
    · rw [List.mem_singleton.1 hj]
      exact (hr.2 x hx).elim (fun hh => absurd hh hn1) id
theorem oI_append (a b : List Nat) : oI (a ++ b) = oI a ++ oI b := by rw [oI, List.map_append]; rfl
theorem search_sound {l : List Done} : ∀ {k : Nat} {m : Mod} {ord r : List Nat}, Used l ord → searchL l k m ord = some r →
    ∃ t, r = ord ++ t ∧ t.length = k ∧ (repL l m (oI ord) (oI t)).isSome = true
  | 0, m, ord, r, _, h => by
    unfold searchL at h
    cases h
    exact ⟨[], by simp, rfl, rfl⟩
  | k + 1, m, ord, r, hu, h => by
    unfold searchL at h
    obtain ⟨i, hi, h⟩ := List.exists_of_findSome?_eq_some h
    rw [List.mem_range] at hi
    split at h
    · rename_i hr
      split at h
      · rename_i ha
        obtain ⟨t, ht, hk, hs⟩ := search_sound (hu.step hi hr) h
        refine ⟨i :: t, by rw [ht]; simp, by simp [hk], ?_⟩
        rw [ready_iff] at hr
        show (repL l m (oI ord) ((i : Int) :: oI t)).isSome = true
        unfold repL
        rw [if_neg, if_neg, Int.toNat_natCast, if_pos ha]
        · rw [oI_append] at hs; exact hs
        · rw [List.any_eq_true]
          rintro ⟨j, hj, hp⟩
          obtain ⟨n, hn, rfl⟩ := List.mem_map.1 hj
          rw [Int.toNat_natCast, Int.toNat_natCast, hu.free i hi hr.1 n hn] at hp
          cases hp
        · rintro (h1 | h1 | h1)
          · omega
          · omega
          · exact hr.1 (oI_mem.1 (by simpa using h1))
      · cases h
    · cases h
theorem check_sound {cap : Int} {l : List Done} {r : List Nat} (h : checkL cap l = some r) : r.length = l.length ∧ replayL cap l (oI r) = true := by
  unfold checkL at h
  split at h
  · cases h
  · rename_i hc
    obtain ⟨t, ht, hk, hs⟩ := search_sound (Used.nil l) h
    rw [List.nil_append] at ht
    subst ht
    refine ⟨hk, ?_⟩
    unfold replayL
    rw [if_neg]
    · exact hs
    · rintro (h1 | h1)
      · exact hc h1
      · exact h1 (by rw [oI, List.length_map]; exact hk)
def LexLe : List Nat → List Nat → Prop
  | a :: x, b :: y => a < b ∨ (a = b ∧ LexLe x y)
  | _, _ => True
/-- As many different numbers below n as n are all of them. -/
theorem all_of_nodup {n : Nat} {a : List Nat} (hn : a.Nodup) (hr : ∀ i ∈ a, i < n) (hl : a.length = n) {j : Nat} (hj : j < n) : j ∈ a := by
  refine Decidable.byContradiction fun hx => ?_
  have h1 : (j :: a).Nodup := List.nodup_cons.2 ⟨hx, hn⟩
  have h2 := h1.length_le_of_subset (l₂ := List.range n) (fun x hx => List.mem_range.2 (by
    rcases List.mem_cons.1 hx with rfl | hx
    · exact hj
    · exact hr x hx))
  rw [List.length_range, List.length_cons] at h2
  omega
theorem oI_nodup {a : List Nat} : (oI a).Nodup ↔ a.Nodup := by
  induction a with
  | nil => simp [oI]
  | cons x r ih =>
    rw [show oI (x :: r) = (x : Int) :: oI r from rfl, List.nodup_cons, List.nodup_cons, ih, oI_mem]
theorem oI_length (a : List Nat) : (oI a).length = a.length := by rw [oI, List.length_map]
theorem prec_irrefl {a : Done} (h : a.beg ≤ a.fin) : prec a a = false := decide_eq_false (by omega)
theorem findSome_range {α : Type} {f : Nat → Option α} {n i : Nat} {x : α} (hi : i < n) (hx : f i = some x) :
    ∃ j y, j ≤ i ∧ f j = some y ∧ (List.range n).findSome? f = some y ∧ (j = i → y = x) := by
  cases hf : (List.range n).findSome? f with
  | none =>
    rw [List.findSome?_eq_none_iff] at hf
    rw [hf i (List.mem_range.2 hi)] at hx
    cases hx
  | some y =>
    rw [List.findSome?_eq_some_iff] at hf
    obtain ⟨a, j, b, hab, hy, hnone⟩ := hf
    have hj : j = a.length := by
      have h1 : (List.range n)[a.length]? = some j := by rw [hab]; simp
      rw [List.getElem?_range] at h1
      · simpa using h1.symm
      · have := congrArg List.length hab
        simp only [List.length_range, List.length_append, List.length_cons] at this
        omega
    refine ⟨j, y, ?_, hy, rfl, fun e => ?_⟩
    · refine Nat.le_of_not_lt fun hlt => ?_
      have hm : i ∈ a := by
        have h1 : (List.range n)[i]? = some i := by rw [List.getElem?_range hi]
        rw [hab, List.getElem?_append_left (by omega)] at h1
        exact List.mem_of_getElem? h1
      rw [hnone i hm] at hx
      cases hx
    · rw [e, hx] at hy
      exact (Option.some.inj hy).symm
theorem search_complete {l : List Done} (hv : ∀ d ∈ l, d.beg ≤ d.fin) : ∀ {k : Nat} {m : Mod} {ord t : List Nat}, Used l ord → ord.Nodup → ord.length + k = l.length → t.length = k →
    (repL l m (oI ord) (oI t)).isSome = true → ∃ r, searchL l k m ord = some (ord ++ r) ∧ r.length = k ∧ LexLe r t
  | 0, m, ord, t, _, _, _, ht, _ => by
    rw [List.length_eq_zero_iff] at ht
    subst ht
    exact ⟨[], by rw [searchL, List.append_nil], rfl, trivial⟩
  | k + 1, m, ord, [], _, _, _, ht, _ => by cases ht
  | k + 1, m, ord, i :: t, hu, hnd, hk, ht, h => by
    obtain ⟨_, h2, h3, h4, h5, h6⟩ := repL_cons (show (repL l m (oI ord) ((i : Int) :: oI t)).isSome = true from h)
    have hob := repL_obeys h6
    have hin : i < l.length := by omega
    have h3' : i ∉ ord := fun hx => h3 (oI_mem.2 hx)
    have htl : t.length = k := by simpa using ht
    have hnd' : (ord ++ [i]).Nodup := by
      rw [List.nodup_append]
      exact ⟨hnd, by simp, fun a ha b hb e => by rw [List.mem_singleton.1 hb] at e; exact h3' (e ▸ ha)⟩
    have hall : (ord ++ [i] ++ t).Nodup := by
      rw [List.nodup_append]
      refine ⟨hnd', oI_nodup.1 hob.nodup, fun a ha b hb e => ?_⟩
      subst e
      have := hob.new (a : Int) (oI_mem.2 hb)
      exact this (by
        have := oI_mem.2 ha
        rw [oI_append] at this
        exact this)
    have hready : readyL l ord i = true := by
      rw [ready_iff]
      refine ⟨h3', fun j hj => ?_⟩
      have hm : j ∈ ord ++ [i] ++ t := all_of_nodup hall (fun x hx => by
        rcases List.mem_append.1 hx with hx | hx
        · rcases List.mem_append.1 hx with hx | hx
          · exact hu.rng x hx
          · rw [List.mem_singleton.1 hx]; exact hin
        · have := (hob.rng (x : Int) (oI_mem.2 hx)).2
          omega) (by simp only [List.length_append, List.length_cons, List.length_nil]; omega) hj
      rcases List.mem_append.1 hm with hm | hm
      · rcases List.mem_append.1 hm with hm | hm
        · exact .inl hm
        · rw [List.mem_singleton.1 hm]
          refine .inr (prec_irrefl ?_)
          rw [dat_get hin]
          exact hv _ (List.getElem_mem hin)
      · have := hob.old (j : Int) (oI_mem.2 hm) (i : Int) (List.mem_append_right _ (List.mem_singleton.2 rfl))
        rw [Int.toNat_natCast, Int.toNat_natCast] at this
        exact .inr this
    obtain ⟨r, hr, hrl, hle⟩ := search_complete hv (hu.step hin hready) hnd' (by simp only [List.length_append, List.length_cons, List.length_nil]; omega) htl
      (by rw [oI_append]; exact h6)
    rw [Int.toNat_natCast] at h5
    have hfi : (if readyL l ord i = true then
      if (accM m (dat l i).call (dat l i).res).2 = true then searchL l k (accM m (dat l i).call (dat l i).res).1 (ord ++ [i]) else none
      else none) = some (ord ++ [i] ++ r) := by
      rw [if_pos hready, if_pos h5]
      rw [Int.toNat_natCast] at hr
      exact hr
    obtain ⟨j, y, hji, hy, hsome, heq⟩ := findSome_range (f := fun i => if readyL l ord i = true then
      if (accM m (dat l i).call (dat l i).res).2 = true then searchL l k (accM m (dat l i).call (dat l i).res).1 (ord ++ [i]) else none
      else none) hin hfi
    have hs : searchL l (k + 1) m ord = some y := by rw [searchL]; exact hsome
    rcases Nat.lt_or_ge j i with hlt | hge
    · have hjn : j < l.length := by omega
      split at hy
      · rename_i hrj
        split at hy
        · obtain ⟨q, hq, hql, _⟩ := search_sound (hu.step hjn hrj) hy
          exact ⟨j :: q, by rw [hs, hq]; simp, by simp [hql], .inl hlt⟩
        · cases hy
      · cases hy
    · have : j = i := by omega
      subst this
      exact ⟨j :: r, by rw [hs, heq rfl]; simp, by simp [hrl], .inr ⟨rfl, hle⟩⟩
theorem repL_toNat {l : List Done} {m : Mod} {t : List Int} (h : (repL l m [] t).isSome = true) : t = oI (t.map Int.toNat) := by
  have ho := repL_obeys h
  have : ∀ {u : List Int}, (∀ i ∈ u, 0 ≤ i) → u = oI (u.map Int.toNat) := by
    intro u
    induction u with
    | nil => exact fun _ => rfl
    | cons x r ih =>
      intro hu
      show x :: r = ((x.toNat : Nat) : Int) :: oI (r.map Int.toNat)
      rw [← ih fun i hi => hu i (List.mem_cons_of_mem _ hi), Int.toNat_of_nonneg (hu x List.mem_cons_self)]
  exact this fun i hi => (ho.rng i hi).1
theorem check_complete {cap : Int} {l : List Done} {ord : List Int} (hv : ∀ d ∈ l, d.beg ≤ d.fin) (h : replayL cap l ord = true) :
    ∃ r t, checkL cap l = some r ∧ r.length = l.length ∧ ord = oI t ∧ t.length = l.length ∧ LexLe r t := by
  unfold replayL at h
  split at h
  · cases h
  · rename_i hc
    have ht := repL_toNat h
    rw [ht] at h
    have hlen : (ord.map Int.toNat).length = l.length := by
      rw [List.length_map]
      exact Decidable.byContradiction fun hx => hc (.inr hx)
    obtain ⟨r, hr, hrl, hle⟩ := search_complete (ord := []) hv (Used.nil l) List.nodup_nil (by simp) hlen h
    refine ⟨r, ord.map Int.toNat, ?_, hrl, ht, hlen, hle⟩
    rw [checkL, if_neg fun hx => hc (.inl hx), hr, List.nil_append]
theorem valid_fin {l : List Done} (h : validL l = true) : ∀ d ∈ l, d.beg ≤ d.fin := by
  intro d hd
  obtain ⟨i, hi, rfl⟩ := List.mem_iff_getElem.1 hd
  simp only [validL, Bool.and_eq_true, List.all_eq_true, List.mem_range] at h
  have := h.2 i hi
  unfold okAt at this
  rw [List.getElem?_eq_getElem hi] at this
  simp only [Bool.and_eq_true, decide_eq_true_eq] at this
  exact this.1.1.2
/-- Do the calls, in this order, replay on the model? -/
def fitsL : Mod → List Done → Bool
  | _, [] => true
  | m, x :: r => (accM m x.call x.res).2 && fitsL (accM m x.call x.res).1 r
/-- Every call precedes the next ones. -/
def Seqd (l : List Done) : Prop := ∀ i j, i < l.length → j < l.length → (prec (dat l i) (dat l j) = true ↔ i < j)
theorem search_seq {l : List Done} (hs : Seqd l) : ∀ {k i : Nat} {m : Mod}, i + k = l.length →
    searchL l k m (List.range i) = if fitsL m (l.drop i) = true then some (List.range l.length) else none
  | 0, i, m, h => by
    rw [searchL, List.drop_eq_nil_of_le (by omega), if_pos (show fitsL m [] = true from rfl), show i = l.length by omega]
  | k + 1, i, m, h => by
    have hi : i < l.length := by omega
    have hready : readyL l (List.range i) i = true := by
      rw [ready_iff]
      refine ⟨by simp, fun j hj => ?_⟩
      rcases Nat.lt_or_ge j i with hji | hji
      · exact .inl (List.mem_range.2 hji)
      · right
        cases hp : prec (dat l j) (dat l i) with
        | false => rfl
        | true => have := (hs j i hj hi).1 hp; omega
    have hnot : ∀ j, j < l.length → j ≠ i → ¬ readyL l (List.range i) j = true := by
      intro j hj hne hr
      rw [ready_iff] at hr
      have hji : i < j := by
        have : ¬ j < i := fun hx => hr.1 (List.mem_range.2 hx)
        omega
      rcases hr.2 i hi with hx | hx
      · simp at hx
      · rw [(hs i j hi hj).2 hji] at hx; cases hx
    have hd : l.drop i = dat l i :: l.drop (i + 1) := by rw [dat_get hi]; exact List.drop_eq_getElem_cons hi
    rw [hd]
    have hf : fitsL m (dat l i :: l.drop (i + 1)) = ((accM m (dat l i).call (dat l i).res).2 && fitsL (accM m (dat l i).call (dat l i).res).1 (l.drop (i + 1))) := rfl
    rw [hf, searchL]
    have ih := search_seq hs (k := k) (i := i + 1) (m := (accM m (dat l i).call (dat l i).res).1) (by omega)
    rw [List.range_succ] at ih
    cases hx : (List.range l.length).findSome? fun j =>
      if readyL l (List.range i) j = true then
        if (accM m (dat l j).call (dat l j).res).2 = true then searchL l k (accM m (dat l j).call (dat l j).res).1 (List.range i ++ [j]) else none
      else none with
    | none =>
      have := List.findSome?_eq_none_iff.1 hx i (List.mem_range.2 hi)
      rw [if_pos hready] at this
      cases ha : (accM m (dat l i).call (dat l i).res).2 with
      | false => rfl
      | true =>
        rw [if_pos ha, ih] at this
        rw [Bool.true_and, this]
    | some y =>
      obtain ⟨j, hj, hy⟩ := List.exists_of_findSome?_eq_some hx
      have hj := List.mem_range.1 hj
      by_cases hji : j = i
      · subst hji
        rw [if_pos hready] at hy
        cases ha : (accM m (dat l j).call (dat l j).res).2 with
        | false => rw [ha] at hy; cases hy
        | true =>
          rw [if_pos ha, ih] at hy
          rw [Bool.true_and, hy]
      · rw [if_neg (hnot j hj hji)] at hy
        cases hy
theorem check_seq {cap : Int} {l : List Done} (hc : ¬ capBad cap) (hs : Seqd l) :
    checkL cap l = if fitsL ⟨cap, [], 0, []⟩ l = true then some (List.range l.length) else none := by
  rw [checkL, if_neg hc]
  exact search_seq hs (i := 0) (by omega)
end PQ
