/- The moves of a walk: what is known of memory (a sealed part, a list of own blocks), loads, stores, new blocks, indexing, tests. Conditions: none. -/
import Derived.Test.YtbdoinigeaaclaaGreatK8
set_option linter.all false
namespace RL
open Go

/-! ### Small moves -/
theorem ArO.i64 {z : Int} {K : Value → Prop} (h : K (.int .i64 z)) (h1 : -9223372036854775808 ≤ z := by omega) (h2 : z ≤ 9223372036854775807 := by omega) : ArO .i64 z K := by
  refine ⟨?_⟩; rw [wrap64_in _ h1 h2]; exact h
theorem CondT.dec {p : Prop} [Decidable p] {f : Bool → Prop} (h1 : p → f true) (h2 : ¬ p → f false) : CondT (decide p) f := by
  refine ⟨?_⟩
  by_cases h : p
  · rw [decide_eq_true h]; exact h1 h
  · rw [decide_eq_false h]; exact h2 h
theorem CondT.bool {t : Bool} {f : Bool → Prop} (h1 : t = true → f true) (h2 : t = false → f false) : CondT t f := by
  refine ⟨?_⟩
  cases t
  · exact h2 rfl
  · exact h1 rfl
theorem CondT.of {t u : Bool} {f : Bool → Prop} (h : t = u) (k : f u) : CondT t f := by
  subst h; exact ⟨k⟩
theorem Ret.mono {P : Program} {f : FuncId} {args : List Value} {w : World} {K K' : Value → World → Prop} (h : Ret P f args w K) (hm : ∀ v w', K v w' → K' v w') : Ret P f args w K' := Ret_mono h hm

theorem findIdx_at {α : Type} {p : α → Bool} : ∀ {l : List α} {i : Nat} (hi : i < l.length), (∀ j, (hj : j < i) → p (l[j]'(by omega)) = false) → p l[i] = true → l.findIdx? p = some i
  | x :: l, 0, _, _, h => by simp at h; simp [List.findIdx?_cons, h]
  | x :: l, i + 1, hi, hno, h => by
    have h0 := hno 0 (by omega)
    simp at h0
    have := findIdx_at (l := l) (i := i) (by simpa using hi) (fun j hj => by have := hno (j + 1) (by omega); simpa using this) (by simpa using h)
    simp [List.findIdx?_cons, h0, this]
theorem findIdx_no {α : Type} {p : α → Bool} {l : List α} (h : ∀ x ∈ l, p x = false) : l.findIdx? p = none := by
  rw [List.findIdx?_eq_none_iff]; exact h
/-- An index, or -1. -/
def ix : Option Nat → Int
  | none => -1
  | some i => i
theorem ix_nonneg (o : Option Nat) : decide (0 ≤ ix o) = o.isSome := by cases o <;> simp [ix]
/-! ### What is known of memory -/
/-- Blocks that are known and that nobody writes any more. -/
abbrev Hp := Nat → Option Obj
def Hp.le (h h' : Hp) : Prop := ∀ b o, h b = some o → h' b = some o
theorem Hp.le_refl (h : Hp) : h.le h := fun _ _ e => e
theorem Hp.le_trans {a b c : Hp} (h : a.le b) (h' : b.le c) : a.le c := fun _ _ e => h' _ _ (h _ _ e)
def Hp.add (h : Hp) (b : Nat) (o : Obj) : Hp := fun k => bif Nat.beq k b then some o else h k
theorem Hp.add_same (h : Hp) (b : Nat) (o : Obj) : h.add b o b = some o := by simp [Hp.add]
theorem Hp.add_ne (h : Hp) {b k : Nat} (o : Obj) (hk : k ≠ b) : h.add b o k = h k := by unfold Hp.add; rw [nbeq_ne hk]; rfl
theorem Hp.le_add {h : Hp} {b : Nat} {o : Obj} (hb : h b = none) : h.le (h.add b o) := fun k u e => by
  by_cases hk : k = b
  · subst hk; rw [hb] at e; cases e
  · rw [Hp.add_ne _ _ hk]; exact e
/-- The state of memory: 'g' is the world at the very beginning; 'h' what is sealed; 'L' the blocks that are owned, each with what it holds. -/
structure St (g : World) (h : Hp) (w : World) (L : List (Nat × Obj)) : Prop where
  os : w.os = g.os
  tape : w.tape = g.tape
  output : w.output = g.output
  size : g.heap.size ≤ w.heap.size
  agree : ∀ b o, h b = some o → w.heap[b]? = some o
  own : ∀ p ∈ L, w.heap[p.1]? = some p.2
  apart : ∀ p ∈ L, h p.1 = none
  nodup : (L.map (·.1)).Nodup
theorem St.start (w : World) : St w (fun b => w.heap[b]?) w [] :=
  ⟨rfl, rfl, rfl, Nat.le_refl _, fun _ _ e => e, fun _ h => (by cases h), fun _ h => (by cases h), List.nodup_nil⟩
section
variable {g : World} {h h' : Hp} {w w' : World} {L L' : List (Nat × Obj)} {b o : Nat} {ob : Obj}
theorem lt_of_heap {w : World} {b : Nat} {o : Obj} (h : w.heap[b]? = some o) : b < w.heap.size := (Array.getElem?_eq_some_iff.1 h).1
theorem St.sealed_lt (H : St g h w L) (hb : h b = some ob) : b < w.heap.size := lt_of_heap (H.agree _ _ hb)
theorem St.own_lt (H : St g h w L) {p : Nat × Obj} (hp : p ∈ L) : p.1 < w.heap.size := lt_of_heap (H.own _ hp)
theorem St.drew (H : St g h w L) : St g h w.drew L := ⟨H.os, H.tape, H.output, H.size, H.agree, H.own, H.apart, H.nodup⟩
theorem St.perm (H : St g h w L) (hp : L.Perm L') : St g h w L' :=
  ⟨H.os, H.tape, H.output, H.size, H.agree, fun p hm => H.own p (hp.mem_iff.2 hm), fun p hm => H.apart p (hp.mem_iff.2 hm), (hp.map _).nodup_iff.1 H.nodup⟩
theorem St.sub (H : St g h w L) (hs : L'.Sublist L) : St g h w L' :=
  ⟨H.os, H.tape, H.output, H.size, H.agree, fun p hm => H.own p (hs.subset hm), fun p hm => H.apart p (hs.subset hm), (hs.map _).nodup H.nodup⟩
theorem St.tail {p : Nat × Obj} (H : St g h w (p :: L)) : St g h w L := H.sub (List.sublist_cons_self _ _)
theorem St.less (H : St g h' w L) (hl : h.le h') : St g h w L :=
  ⟨H.os, H.tape, H.output, H.size, fun b o e => H.agree b o (hl _ _ e), H.own, (fun p hm => by
    have := H.apart p hm
    cases hp : h p.1 with
    | none => rfl
    | some o => rw [hl _ _ hp] at this; cases this), H.nodup⟩
theorem heap_alloc_lt {w : World} {o : Obj} {k : Nat} (hk : k < w.heap.size) : (w.alloc o).heap[k]? = w.heap[k]? := by
  show (w.heap.push o)[k]? = _
  rw [Array.getElem?_push, if_neg (by omega)]
theorem heap_alloc_new {w : World} {o : Obj} : (w.alloc o).heap[w.heap.size]? = some o := by
  show (w.heap.push o)[w.heap.size]? = _
  rw [Array.getElem?_push, if_pos rfl]
theorem St.alloc (H : St g h w L) (o : Obj) : St g h (w.alloc o) ((w.heap.size, o) :: L) := by
  refine ⟨H.os, H.tape, H.output, Nat.le_trans H.size (by show _ ≤ (w.heap.push o).size; simp), fun b u e => ?_, fun p hm => ?_, fun p hm => ?_, ?_⟩
  · rw [heap_alloc_lt (H.sealed_lt e)]; exact H.agree b u e
  · rcases List.mem_cons.1 hm with rfl | hm
    · exact heap_alloc_new
    · rw [heap_alloc_lt (H.own_lt hm)]; exact H.own p hm
  · rcases List.mem_cons.1 hm with rfl | hm
    · cases hp : h w.heap.size with
      | none => rfl
      | some u => exact absurd (H.sealed_lt hp) (by omega)
    · exact H.apart p hm
  · simp only [List.map_cons, List.nodup_cons]
    refine ⟨fun hm => ?_, H.nodup⟩
    obtain ⟨p, hp, he⟩ := List.mem_map.1 hm
    have := H.own_lt hp
    omega
/-- An owned block is sealed. -/
theorem St.sealIt (H : St g h w ((b, ob) :: L)) : St g (h.add b ob) w L := by
  refine ⟨H.os, H.tape, H.output, H.size, fun k u e => ?_, fun p hm => H.own p (.tail _ hm), fun p hm => ?_, (List.nodup_cons.1 (by simpa using H.nodup)).2⟩
  · by_cases hk : k = b
    · subst hk; rw [Hp.add_same] at e; cases e; exact H.own _ (.head _)
    · rw [Hp.add_ne _ _ hk] at e; exact H.agree k u e
  · have hne : p.1 ≠ b := fun e => by
      have := H.nodup
      simp only [List.map_cons, List.nodup_cons] at this
      exact this.1 (by rw [← e]; exact List.mem_map_of_mem hm)
    rw [Hp.add_ne _ _ hne]; exact H.apart p (.tail _ hm)
theorem St.seal_le (H : St g h w ((b, ob) :: L)) : h.le (h.add b ob) := Hp.le_add (H.apart _ (.head _))
/-- What a run has turned lies among the new blocks and the owned ones. -/
theorem St.keeps (H : St g h w L) (hl : ∀ b o, g.heap[b]? = some o → h b = some o) : Go.RowKit.Below g.heap.size g w :=
  ⟨H.os, H.tape, H.output, H.size, fun k hk => by
    have : g.heap[k]? = some g.heap[k] := Array.getElem?_eq_getElem hk
    rw [this]; exact H.agree _ _ (hl _ _ this)⟩

/-! ### Cells of sealed and of owned blocks -/
/-- A row of cells in a sealed block. -/
def HC (h : Hp) (b o : Nat) (vs : List Value) : Prop := ∃ c e fz, h b = some (.cells c e fz) ∧ ∀ i, i < vs.length → c[o + i]? = vs[i]?
theorem HC.le {vs : List Value} (hc : HC h b o vs) (hl : h.le h') : HC h' b o vs := by
  obtain ⟨c, e, fz, h1, h2⟩ := hc
  exact ⟨c, e, fz, hl _ _ h1, h2⟩
theorem HC.sub {vs : List Value} (hc : HC h b o vs) (k n : Nat) : HC h b (o + k) ((vs.drop k).take n) := by
  obtain ⟨c, e, fz, h1, h2⟩ := hc
  refine ⟨c, e, fz, h1, fun i hi => ?_⟩
  simp only [List.length_take, List.length_drop] at hi
  rw [Nat.add_assoc, h2 (k + i) (by omega), List.getElem?_take, if_pos (by omega), List.getElem?_drop]
theorem St.hcell (H : St g h w L) {vs : List Value} (hc : HC h b o vs) {j : Nat} {v : Value} (hv : vs[j]? = some v) : w.cell? ⟨b, o + j, none⟩ = some v := by
  obtain ⟨c, e, fz, h1, h2⟩ := hc
  have := H.agree _ _ h1
  simp only [World.cell?, this]
  rw [if_neg (by simp), h2 j (List.getElem?_eq_some_iff.1 hv).1, hv]
theorem St.hcells (H : St g h w L) {vs : List Value} (hc : HC h b o vs) : Cells w b o vs := fun i hi => by
  rw [H.hcell hc (List.getElem?_eq_getElem hi), List.getElem?_eq_getElem hi]
theorem LdO.hc (H : St g h w L) {vs : List Value} (hc : HC h b o vs) {j : Nat} {v : Value} (hv : nth vs j = some v) {n : Nat} {K : Value → Prop} (k : K v) :
    LdO false n w (.pointer (some ⟨b, o + j, none⟩)) K := ⟨⟨v, ⟨b, o + j, rfl, H.hcell hc (by rwa [nth_eq] at hv)⟩, k⟩⟩
theorem LdO.hcs (H : St g h w L) {vs : List Value} (hc : HC h b o vs) {j n : Nat} (hn : Nat.beq ((vs.drop j).take n).length n = true) {K : Value → Prop} (k : K (.agg ((vs.drop j).take n).toArray)) :
    LdO true n w (.pointer (some ⟨b, o + j, none⟩)) K :=
  ⟨⟨_, ⟨b, o + j, rfl, (vs.drop j).take n, rfl, Nat.eq_of_beq_eq_true hn, H.hcells (hc.sub j n)⟩, k⟩⟩
theorem LdQ.hc {vs : List Value} (hc : HC h b o vs) {j : Nat} {v : Value} (hv : nth vs j = some v) {n : Nat} {K : Value → Prop} (k : K v) :
    LdQ (fun w => St g h w L) false n (.pointer (some ⟨b, o + j, none⟩)) K := ⟨⟨v, fun w H => ⟨b, o + j, rfl, H.hcell hc (by rwa [nth_eq] at hv)⟩, k⟩⟩
theorem LdQ.hcs {vs : List Value} (hc : HC h b o vs) {j n : Nat} (hn : Nat.beq ((vs.drop j).take n).length n = true) {K : Value → Prop} (k : K (.agg ((vs.drop j).take n).toArray)) :
    LdQ (fun w => St g h w L) true n (.pointer (some ⟨b, o + j, none⟩)) K :=
  ⟨⟨_, fun w H => ⟨b, o + j, rfl, (vs.drop j).take n, rfl, Nat.eq_of_beq_eq_true hn, H.hcells (hc.sub j n)⟩, k⟩⟩
/-- A place in a list of owned blocks. -/
inductive At (p : Nat × Obj) : Nat → List (Nat × Obj) → Prop
  | head {l : List (Nat × Obj)} : At p 0 (p :: l)
  | tail {q : Nat × Obj} {l : List (Nat × Obj)} {n : Nat} (h : At p n l) : At p (n + 1) (q :: l)
theorem At.mem {p : Nat × Obj} {n : Nat} : ∀ {l : List (Nat × Obj)}, At p n l → p ∈ l
  | _, .head => .head _
  | _, .tail h => .tail _ h.mem
theorem St.ocell (H : St g h w L) {c : Array Value} {e : TypeId} {fz : Nat × Nat} {k : Nat} (ha : At (b, .cells c e fz) k L) {v : Value} (hv : nth c.toList o = some v) : w.cell? ⟨b, o, none⟩ = some v := by
  have := H.own _ ha.mem
  simp only [World.cell?, this]
  rw [if_neg (by simp)]
  rw [nth_eq] at hv
  simpa using hv
theorem St.ocells (H : St g h w L) {c : Array Value} {e : TypeId} {fz : Nat × Nat} {k : Nat} (ha : At (b, .cells c e fz) k L) (n : Nat) : Cells w b o ((c.toList.drop o).take n) := fun i hi => by
  have := H.own _ ha.mem
  simp only [World.cell?, this]
  rw [if_neg (by simp)]
  simp only [List.length_take, List.length_drop] at hi
  rw [List.getElem?_take, if_pos (by omega), List.getElem?_drop]
  simp
theorem LdO.own (H : St g h w L) {c : Array Value} {e : TypeId} {fz : Nat × Nat} {k : Nat} (ha : At (b, .cells c e fz) k L) {v : Value} (hv : nth c.toList o = some v) {n : Nat} {K : Value → Prop} (kk : K v) :
    LdO false n w (.pointer (some ⟨b, o, none⟩)) K := ⟨⟨v, ⟨b, o, rfl, H.ocell ha hv⟩, kk⟩⟩
theorem LdO.owns (H : St g h w L) {c : Array Value} {e : TypeId} {fz : Nat × Nat} {k : Nat} (ha : At (b, .cells c e fz) k L) {n : Nat} (hn : Nat.beq ((c.toList.drop o).take n).length n = true) {K : Value → Prop}
    (kk : K (.agg ((c.toList.drop o).take n).toArray)) : LdO true n w (.pointer (some ⟨b, o, none⟩)) K := ⟨⟨_, ⟨b, o, rfl, _, rfl, Nat.eq_of_beq_eq_true hn, H.ocells ha n⟩, kk⟩⟩
theorem LdQ.own {c : Array Value} {e : TypeId} {fz : Nat × Nat} {k : Nat} (ha : At (b, .cells c e fz) k L) {v : Value} (hv : nth c.toList o = some v) {n : Nat} {K : Value → Prop} (kk : K v) :
    LdQ (fun w => St g h w L) false n (.pointer (some ⟨b, o, none⟩)) K := ⟨⟨v, fun w H => ⟨b, o, rfl, H.ocell ha hv⟩, kk⟩⟩
theorem LdQ.owns {c : Array Value} {e : TypeId} {fz : Nat × Nat} {k : Nat} (ha : At (b, .cells c e fz) k L) {n : Nat} (hn : Nat.beq ((c.toList.drop o).take n).length n = true) {K : Value → Prop}
    (kk : K (.agg ((c.toList.drop o).take n).toArray)) : LdQ (fun w => St g h w L) true n (.pointer (some ⟨b, o, none⟩)) K := ⟨⟨_, fun w H => ⟨b, o, rfl, _, rfl, Nat.eq_of_beq_eq_true hn, H.ocells ha n⟩, kk⟩⟩
/-- A new block. -/
theorem AllocO.own (H : St g h w L) {o : Obj} {K : Nat → World → Prop} (k : ∀ b w', St g h w' ((b, o) :: L) → K b w') : AllocO w o K := ⟨fun b w' hb hw => by
  subst hb hw; exact k _ _ (H.alloc o)⟩
/-- What a list of owned blocks is behind a store. -/
def setAt : Nat → Obj → List (Nat × Obj) → List (Nat × Obj)
  | _, _, [] => []
  | 0, o, p :: l => (p.1, o) :: l
  | n + 1, o, p :: l => p :: setAt n o l
theorem setAt_keys (n : Nat) (o : Obj) : ∀ l : List (Nat × Obj), (setAt n o l).map (·.1) = l.map (·.1) := by
  induction n with
  | zero => intro l; cases l <;> rfl
  | succ n ih => intro l; cases l <;> simp [setAt, ih]
theorem mem_setAt {p q : Nat × Obj} {n : Nat} {o : Obj} : ∀ {l : List (Nat × Obj)}, At p n l → (l.map (·.1)).Nodup → q ∈ setAt n o l → q = (p.1, o) ∨ (q ∈ l ∧ q.1 ≠ p.1)
  | _, .head, hn, hq => by
    simp only [setAt] at hq
    simp only [List.map_cons, List.nodup_cons] at hn
    rcases List.mem_cons.1 hq with rfl | hq
    · exact .inl rfl
    · exact .inr ⟨.tail _ hq, fun e => hn.1 (by rw [← e]; exact List.mem_map_of_mem hq)⟩
  | _, .tail ha, hn, hq => by
    simp only [setAt] at hq
    simp only [List.map_cons, List.nodup_cons] at hn
    rcases List.mem_cons.1 hq with rfl | hq
    · exact .inr ⟨.head _, fun e => hn.1 (by rw [e]; exact List.mem_map_of_mem ha.mem)⟩
    · rcases mem_setAt ha hn.2 hq with h | ⟨h, h'⟩
      · exact .inl h
      · exact .inr ⟨.tail _ h, h'⟩
/-- The cells of a block behind a row of stores. -/
def putA (c : Array Value) (o : Nat) (vs : List Value) : Array Value := (setR c.toList o vs).toArray
theorem setR_nil (l : List Value) (o : Nat) : setR l o [] = l := by unfold setR; rfl
theorem setR_length (vs : List Value) : ∀ (l : List Value) (o : Nat), (setR l o vs).length = l.length := by
  intro l
  induction l generalizing vs with
  | nil => intro o; unfold setR; split <;> simp_all
  | cons x l ih =>
    intro o
    cases vs with
    | nil => rw [setR_nil]
    | cons v vs => cases o <;> simp [setR, ih]
theorem setR_step (v : Value) (vs : List Value) : ∀ (l : List Value) (o : Nat), setR l o (v :: vs) = setR (l.set o v) (o + 1) vs := by
  intro l
  induction l with
  | nil => intro o; cases vs <;> simp [setR]
  | cons x l ih =>
    intro o
    cases o with
    | zero => cases vs <;> simp [setR, setR_nil]
    | succ o =>
      simp only [setR, List.set_cons_succ]
      rw [ih o]
      cases vs <;> simp [setR, setR_nil]
theorem putA_step (c : Array Value) (o : Nat) (v : Value) (vs : List Value) : putA c o (v :: vs) = putA (c.setIfInBounds o v) (o + 1) vs := by
  unfold putA
  rw [setR_step]
  simp
theorem putA_nil (c : Array Value) (o : Nat) : putA c o [] = c := by unfold putA; rw [setR_nil]
theorem World.put_spec {w : World} {b : Nat} {e : TypeId} {fz : Nat × Nat} : ∀ (vs : List Value) (c : Array Value) (o : Nat) (w : World), w.heap[b]? = some (.cells c e fz) →
    (World.put w b o vs).heap[b]? = some (.cells (putA c o vs) e fz) ∧ (∀ k, k ≠ b → (World.put w b o vs).heap[k]? = w.heap[k]?) ∧
    (World.put w b o vs).os = w.os ∧ (World.put w b o vs).tape = w.tape ∧ (World.put w b o vs).output = w.output ∧ (World.put w b o vs).heap.size = w.heap.size
  | [], c, o, w, hb => ⟨by rw [putA_nil]; exact hb, fun _ _ => rfl, rfl, rfl, rfl, rfl⟩
  | v :: vs, c, o, w, hb => by
    obtain ⟨h1, h2, h3, h4, h5, h6⟩ := World.put_spec (w := w) (e := e) (fz := fz) vs _ (o + 1) _ (heap_setCell w b o v hb)
    refine ⟨by rw [putA_step]; exact h1, fun k hk => ?_, h3, h4, h5, ?_⟩
    · show (World.put (w.setCell ⟨b, o, none⟩ v) b (o + 1) vs).heap[k]? = _
      rw [h2 k hk, heap_setCell_ne w b o v hk]
    · show (World.put (w.setCell ⟨b, o, none⟩ v) b (o + 1) vs).heap.size = _
      rw [h6]; simp [World.setCell]
theorem St.put (H : St g h w L) {c : Array Value} {e : TypeId} {fz : Nat × Nat} {k : Nat} (ha : At (b, .cells c e fz) k L) (vs : List Value) :
    St g h (World.put w b o vs) (setAt k (.cells (putA c o vs) e fz) L) := by
  obtain ⟨h1, h2, h3, h4, h5, h6⟩ := World.put_spec (w := w) (o := o) vs c w (H.own _ ha.mem)
  refine ⟨h3.trans H.os, h4.trans H.tape, h5.trans H.output, by rw [h6]; exact H.size, fun k' u e' => ?_, fun p hp => ?_, fun p hp => ?_, by rw [setAt_keys]; exact H.nodup⟩
  · have hne : k' ≠ b := fun e0 => by subst e0; rw [H.apart _ ha.mem] at e'; cases e'
    rw [h2 _ hne]; exact H.agree _ _ e'
  · rcases mem_setAt ha H.nodup hp with rfl | ⟨hp, hne⟩
    · exact h1
    · rw [h2 _ hne]; exact H.own _ hp
  · rcases mem_setAt ha H.nodup hp with rfl | ⟨hp, hne⟩
    · exact H.apart (b, .cells c e fz) ha.mem
    · exact H.apart _ hp
/-- A store into an owned block. -/
theorem StO.own (H : St g h w L) {c : Array Value} {e : TypeId} {k n : Nat} (ha : At (b, .cells c e (0, 0)) k L) {v : Value} (hn : Nat.beq v.cells.toList.length n = true) (h1 : oneCells v.cells.toList = true)
    (hs : Nat.ble (o + n) c.size = true) {K : World → Prop} (kk : ∀ w', St g h w' (setAt k (.cells (putA c o v.cells.toList) e (0, 0)) L) → K w') : StO n w (.pointer (some ⟨b, o, none⟩)) v K :=
  ⟨⟨b, o, rfl, Nat.eq_of_beq_eq_true hn, h1, ⟨c, e, (0, 0), H.own _ ha.mem, Nat.le_of_ble_eq_true hs, rfl⟩, fun w' hw => by subst hw; exact kk _ (H.put ha _)⟩⟩

/-! ### Slices over sealed memory -/
/-- A slice value over sealed memory: its rows. -/
def Sl (h : Hp) (sz : Nat) (v : Value) (rows : List (List Value)) : Prop :=
  ∃ a cap, v = .slice a rows.length cap ∧ rows.length ≤ cap ∧ (∀ r ∈ rows, r.length = sz) ∧ (rows ≠ [] → ∃ b o, a = some ⟨b, o, none⟩ ∧ HC h b o rows.flatten)
theorem Sl.le {sz : Nat} {v : Value} {rows : List (List Value)} (hs : Sl h sz v rows) (hl : h.le h') : Sl h' sz v rows := by
  obtain ⟨a, cap, h1, h2, h3, h4⟩ := hs
  exact ⟨a, cap, h1, h2, h3, fun hne => by obtain ⟨b, o, hb, hc⟩ := h4 hne; exact ⟨b, o, hb, hc.le hl⟩⟩
theorem Sl.nil (h : Hp) (sz : Nat) : Sl h sz (.slice none 0 0) [] := ⟨none, 0, rfl, by simp, by simp, fun hne => absurd rfl hne⟩
theorem flatten_take_drop {sz : Nat} : ∀ (rows : List (List Value)) (i : Nat), (∀ r ∈ rows, r.length = sz) → (hi : i < rows.length) → (rows.flatten.drop (i * sz)).take sz = rows[i]
  | r :: rows, 0, hr, _ => by
    have := hr r (.head _)
    simp [← this]
  | r :: rows, i + 1, hr, hi => by
    have h1 := hr r (.head _)
    have := flatten_take_drop rows i (fun r' hr' => hr r' (.tail _ hr')) (by simpa using hi)
    simp only [List.flatten_cons, List.getElem_cons_succ]
    rw [← this, Nat.succ_mul, List.drop_append, List.drop_eq_nil_of_le (by omega), List.nil_append, show i * sz + sz - r.length = i * sz by omega]
theorem Sl.idx {sz : Nat} {v : Value} {rows : List (List Value)} (hs : Sl h sz v rows) {i : Nat} (hi : i < rows.length) :
    ∃ b o, (∀ (k : IntKind) (n : Int) (K : Value → Prop), n = i → K (.pointer (some ⟨b, o, none⟩)) → IdxO sz v (.int k n) K) ∧ HC h b o rows[i] := by
  obtain ⟨a, cap, rfl, h2, h3, h4⟩ := hs
  obtain ⟨b, o, rfl, hc⟩ := h4 (by intro e; rw [e] at hi; simp at hi)
  refine ⟨b, o + i * sz, fun k n K hn hK => ?_, ?_⟩
  · subst hn
    exact ⟨⟨b, o, rows.length, cap, k, (i : Int), rfl, rfl, by omega, by omega, by simpa using hK⟩⟩
  · have := hc.sub (i * sz) sz
    rwa [flatten_take_drop rows i h3 hi] at this
theorem Sl.rlen {sz : Nat} {v : Value} {rows : List (List Value)} (hs : Sl h sz v rows) : ∀ r ∈ rows, r.length = sz := by
  obtain ⟨_, _, _, _, h3, _⟩ := hs; exact h3
theorem LdO.hrow (H : St g h w L) {n : Nat} {vs : List Value} (hc : HC h b o vs) (hn : vs.length = n) {K : Value → Prop} (k : K (.agg vs.toArray)) :
    LdO true n w (.pointer (some ⟨b, o, none⟩)) K := ⟨⟨_, ⟨b, o, rfl, vs, rfl, hn, H.hcells hc⟩, k⟩⟩
theorem LdQ.hrow {n : Nat} {vs : List Value} (hc : HC h b o vs) (hn : vs.length = n) {K : Value → Prop} (k : K (.agg vs.toArray)) :
    LdQ (fun w => St g h w L) true n (.pointer (some ⟨b, o, none⟩)) K := ⟨⟨_, fun w H => ⟨b, o, rfl, vs, rfl, hn, H.hcells hc⟩, k⟩⟩
theorem closeOk_none (ops : Array Oper) : closeOk ops (fun _ => false) = true := by simp [closeOk]
theorem DrawO.st {P : Program} {tab : Tab} {ops : Array Oper} {K : Env → List Deferred → World → Prop} {e : Env} {ds : List Deferred} (H : St g h w L) (p : Plan) (hp : planAll ops p = true)
    (k : ∀ w', St g h w' L → TD P tab ops.toList (fun w => St g h w L) (fun _ => false) p [] K e ds w') : DrawO P tab ops K e ds w := ⟨⟨_, _, p, closeOk_none _, hp, H.drew, k _ H.drew⟩⟩
theorem Sl.len {sz : Nat} {v : Value} {rows : List (List Value)} (hs : Sl h sz v rows) : ∃ a cap, v = .slice a rows.length cap := by
  obtain ⟨a, cap, h1, _⟩ := hs
  exact ⟨a, cap, h1⟩
theorem Sl.lenM {α : Type} {f : α → List Value} {sz : Nat} {v : Value} {xs : List α} (hs : Sl h sz v (xs.map f)) : ∃ a cap, v = .slice a xs.length cap := by
  obtain ⟨a, cap, h1⟩ := hs.len
  rw [List.length_map] at h1
  exact ⟨a, cap, h1⟩
theorem Sl.idxM {α : Type} {f : α → List Value} {sz : Nat} {v : Value} {xs : List α} (hs : Sl h sz v (xs.map f)) {i : Nat} (hi : i < xs.length) :
    ∃ b o, (∀ (k : IntKind) (n : Int) (K : Value → Prop), n = i → K (.pointer (some ⟨b, o, none⟩)) → IdxO sz v (.int k n) K) ∧ HC h b o (f xs[i]) := by
  obtain ⟨b, o, h1, h2⟩ := hs.idx (i := i) (by rwa [List.length_map])
  rw [List.getElem_map] at h2
  exact ⟨b, o, h1, h2⟩
theorem map_add_zero (a : Option Addr) : a.map (·.add 0) = a := by
  cases a with
  | none => rfl
  | some a => simp [Addr.add]
/-- 'x[:n]'. -/
theorem Sl.takeO {sz n : Nat} {v : Value} {rows : List (List Value)} {kk : IntKind} (hs : Sl h sz v rows) (hn : n ≤ rows.length) {K : Value → Prop} (k : ∀ v', Sl h sz v' (rows.take n) → K v') :
    SlcO sz v none (some (.int kk (n : Int))) none K := by
  obtain ⟨a, cap, rfl, h2, h3, h4⟩ := hs
  refine ⟨⟨a, rows.length, cap, 0, n, cap, rfl, by omega, by omega, by omega, rfl, ⟨kk, rfl⟩, rfl, k _ ⟨a, cap, ?_, ?_, fun r hr => h3 r (List.mem_of_mem_take hr), fun hne => ?_⟩⟩⟩
  · have hl : (rows.take n).length = n := by rw [List.length_take]; omega
    rw [hl, Nat.zero_mul, map_add_zero]; simp
  · rw [List.length_take]; omega
  · obtain ⟨b, o, hb, hc⟩ := h4 (by rintro rfl; simp at hne)
    refine ⟨b, o, hb, ?_⟩
    obtain ⟨c, e, fz, h1, h2⟩ := hc
    refine ⟨c, e, fz, h1, fun i hi => ?_⟩
    have hp : (rows.take n).flatten <+: rows.flatten := ⟨(rows.drop n).flatten, by rw [← List.flatten_append, List.take_append_drop]⟩
    have := hp.length_le
    rw [h2 i (by omega)]
    obtain ⟨t, ht⟩ := hp
    rw [← ht, List.getElem?_append_left hi]
/-- 'x[n:]'. -/
theorem Sl.dropO {sz n : Nat} {v : Value} {rows : List (List Value)} {kk : IntKind} (hs : Sl h sz v rows) (hn : n ≤ rows.length) {K : Value → Prop} (k : ∀ v', Sl h sz v' (rows.drop n) → K v') :
    SlcO sz v (some (.int kk (n : Int))) none none K := by
  obtain ⟨a, cap, rfl, h2, h3, h4⟩ := hs
  refine ⟨⟨a, rows.length, cap, n, rows.length, cap, rfl, hn, h2, Nat.le_refl _, rfl, ⟨rfl, rfl⟩, ⟨kk, rfl⟩, k _ ⟨_, cap - n, by rw [List.length_drop], ?_, fun r hr => h3 r (List.mem_of_mem_drop hr), fun hne => ?_⟩⟩⟩
  · rw [List.length_drop]; omega
  · have hlt : n < rows.length := by
      rcases Nat.lt_or_ge n rows.length with h' | h'
      · exact h'
      · exact absurd (List.drop_eq_nil_of_le h') hne
    obtain ⟨b, o, rfl, hc⟩ := h4 (by rintro rfl; simp at hlt)
    refine ⟨b, o + n * sz, ?_, ?_⟩
    · rw [if_neg (by omega)]; simp [addr_add]
    · obtain ⟨c, e, fz, h1, h2⟩ := hc
      refine ⟨c, e, fz, h1, fun i hi => ?_⟩
      have hfl : ∀ (l : List (List Value)), (∀ r ∈ l, r.length = sz) → l.flatten.length = l.length * sz := by
        intro l
        induction l with
        | nil => simp
        | cons r l ih =>
          intro hr
          simp only [List.flatten_cons, List.length_append, ih (fun x hx => hr x (.tail _ hx)), hr r (.head _), List.length_cons, Nat.succ_mul]; omega
      have e1 : rows.flatten = (rows.take n).flatten ++ (rows.drop n).flatten := by rw [← List.flatten_append, List.take_append_drop]
      have e2 : (rows.take n).flatten.length = n * sz := by
        rw [hfl _ (fun r hr => h3 r (List.mem_of_mem_take hr)), List.length_take, Nat.min_eq_left (by omega)]
      have := congrArg List.length e1
      rw [List.length_append, e2] at this
      rw [Nat.add_assoc, h2 (n * sz + i) (by omega), e1, List.getElem?_append_right (by omega), e2, Nat.add_sub_cancel_left]
end
end RL
