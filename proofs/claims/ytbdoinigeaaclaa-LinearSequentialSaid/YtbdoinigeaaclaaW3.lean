/- The reference's sequential model: small functions. Conditions: slices are short.
   The reference's insert. Conditions: the model holds its invariant.
   The reference's cancel. Conditions: the model holds its invariant.
   The reference's batch. Conditions: the model holds its invariant.
   One call of the reference's model; a result accepted. Conditions: the model holds its invariant. -/
import Derived.Test.YtbdoinigeaaclaaW2
set_option linter.all false
namespace Go.Proofs.Ytbdoinigeaaclaa
open Go RL PQ
variable {g : World} {h : Hp} {w : World} {L : List (Nat × Obj)}
theorem refValidH (H : St g h w L) (x : Int) : Ret Try.prog 48 [.int .i64 x] w fun v w' => v = .bool (validH x) ∧ St g h w' L := by
  refine Ret.enter tabOk Try.func48 rfl (by rfl) rfl (by rfl) (by kernel_rfl) ?_
  refine CondT.dec (fun h1 => ?_) (fun h1 => ?_)
  · exact ⟨Eq.trans (b := .bool (decide (x ≤ 70368744177727))) rfl (by rw [validH, decide_eq_true h1, Bool.true_and]), H⟩
  · exact ⟨Eq.trans (b := .bool false) rfl (by rw [validH, decide_eq_false h1, Bool.false_and]), H⟩
theorem refNew (H : St g h w L) (cap : Int) : Ret Try.prog 18 [.int .i64 cap] w fun v w' =>
    v = (if cap < 1 ∨ 64 < cap then .tuple #[(newP 0).val, .int .i64 1] else .tuple #[(newP cap).val, .int .i64 0]) ∧ St g h w' L := by
  refine Ret.enter tabOk Try.func18 rfl (by rfl) rfl (by rfl) (by kernel_rfl) ?_
  refine AllocO.own H fun b1 w H => ?_
  refine CondT.dec (fun h1 => ?_) (fun h1 => ?_)
  · refine CondT.mk ?_
    refine StO.own H .head rfl rfl rfl fun w H => ?_
    refine LdO.owns H .head rfl ?_
    exact ⟨Eq.trans (b := .tuple #[(newP 0).val, .int .i64 1]) rfl (by rw [if_pos (.inl h1)]), H.tail⟩
  · refine CondT.dec (fun h2 => ?_) (fun h2 => ?_)
    · refine StO.own H .head rfl rfl rfl fun w H => ?_
      refine LdO.owns H .head rfl ?_
      exact ⟨Eq.trans (b := .tuple #[(newP 0).val, .int .i64 1]) rfl (by rw [if_pos (.inr h2)]), H.tail⟩
    · refine StO.own H .head rfl rfl rfl fun w H => ?_
      refine LdO.owns H .head rfl ?_
      exact ⟨Eq.trans (b := .tuple #[(newP cap).val, .int .i64 0]) rfl (by rw [if_neg (by omega)]), H.tail⟩
theorem refHas (H : St g h w L) {sv : Value} {xs : List Int} (hs : IntS h sv xs) (hl : xs.length ≤ 4611686018427387904) (x : Int) :
    Ret Try.prog 49 [sv, .int .i64 x] w fun v w' => v = .bool (xs.contains x) ∧ St g h w' L := by
  refine Ret.enter tabOk Try.func49 rfl (by rfl) rfl (by rfl) (by kernel_rfl) ?_
  obtain ⟨a, cap, rfl⟩ := hs.lenM
  refine LoopO.run (σ := Nat) (fun i => [(0, .slice a xs.length cap), (1, .int .i64 x), (5, .int .i64 i)])
    (fun i w => St g h w L ∧ i ≤ xs.length ∧ ∀ j (hj : j < i) (hx : j < xs.length), xs[j] ≠ x) (fun i => xs.length - i) 0 (by exact ⟨rfl, rfl, rfl, trivial⟩) ⟨H, Nat.zero_le _, fun j hj => absurd hj (Nat.not_lt_zero j)⟩ ?_
  rintro i w e ⟨H, hi, hno⟩
  refine CondT.dec (fun hlt => ?_) (fun hge => ?_)
  · have hlt' : i < xs.length := by omega
    obtain ⟨b, o, hidx, hrow⟩ := hs.idxM hlt'
    refine hidx _ _ _ rfl ?_
    refine LdO.hc H hrow (j := 0) rfl ?_
    refine CondT.dec (fun ht => ?_) (fun ht => ?_)
    · exact ⟨Eq.trans (b := .bool true) rfl (by rw [Eq.comm, Value.bool.injEq, List.contains_iff_mem, ← ht]; exact List.getElem_mem hlt'), H⟩
    · refine ArO.i64 ?_
      refine ⟨rfl, i + 1, ⟨rfl, rfl, rfl, trivial⟩, ⟨H, by omega, fun j hj hx => ?_⟩, by omega⟩
      rcases Nat.lt_or_ge j i with hji | hji
      · exact hno j hji hx
      · have : j = i := by omega
        subst this
        exact ht
  · refine ⟨Eq.trans (b := .bool false) rfl (congrArg Value.bool (Eq.symm ?_)), H⟩
    cases hc : xs.contains x with
    | false => rfl
    | true =>
      rw [List.contains_iff_mem] at hc
      obtain ⟨j, hj, hx⟩ := List.mem_iff_getElem.1 hc
      exact absurd hx (hno j (by omega) hj)
theorem refEqual (H : St g h w L) {a b : RP} (ha : a.ok h) (hb : b.ok h) (hl : a.r.evs.length ≤ 4611686018427387904) :
    Ret Try.prog 34 [a.val, b.val] w fun v w' => v = .bool (decide (a.r = b.r)) ∧ St g h w' L := by
  have key : decide (a.r = b.r) = (decide (a.r.err = b.r.err) && decide (a.r.rh = b.r.rh) && (a.r.canc == b.r.canc) && decide (a.r.evs = b.r.evs)) := by
    obtain ⟨⟨e1, r1, c1, v1⟩, _, _⟩ := a
    obtain ⟨⟨e2, r2, c2, v2⟩, _, _⟩ := b
    rw [Bool.eq_iff_iff]; simp [and_assoc]
  refine Ret.enter tabOk Try.func34 rfl (by rfl) rfl (by rfl) (by kernel_rfl) ?_
  refine AllocO.own H fun b2 w H => ?_
  refine AllocO.own H fun b3 w H => ?_
  refine LdO.own H (.tail .head) rfl ?_
  refine LdO.own H .head rfl ?_
  refine CondT.dec (fun h1 => ?_) (fun h1 => ?_)
  · refine CondT.mk ?_
    refine CondT.mk ?_
    refine CondT.mk ?_
    exact ⟨Eq.trans (b := .bool false) rfl (by rw [key, decide_eq_false h1]; simp), H.tail.tail⟩
  have h1 : a.r.err = b.r.err := Classical.not_not.1 h1
  refine LdO.own H (.tail .head) rfl ?_
  refine LdO.own H .head rfl ?_
  refine CondT.dec (fun h2 => ?_) (fun h2 => ?_)
  · refine CondT.mk ?_
    refine CondT.mk ?_
    exact ⟨Eq.trans (b := .bool false) rfl (by rw [key, decide_eq_false h2]; simp), H.tail.tail⟩
  have h2 : a.r.rh = b.r.rh := Classical.not_not.1 h2
  refine LdO.own H (.tail .head) rfl ?_
  refine LdO.own H .head rfl ?_
  refine CondT.bool (fun h3 => ?_) (fun h3 => ?_)
  · refine CondT.mk ?_
    exact ⟨Eq.trans (b := .bool false) rfl (by rw [key]; simp at h3; simp [h3]), H.tail.tail⟩
  have h3 : (a.r.canc == b.r.canc) = true := by simpa using h3
  refine LdO.own H (.tail .head) rfl ?_
  refine LdO.own H .head rfl ?_
  refine CondT.dec (fun h4 => ?_) (fun h4 => ?_)
  · exact ⟨Eq.trans (b := .bool false) rfl (by
      have : ¬ a.r.evs = b.r.evs := fun he => h4 (by rw [he])
      rw [key, decide_eq_false this]; simp), H.tail.tail⟩
  have h4 : a.r.evs.length = b.r.evs.length := by have := Classical.not_not.1 h4; omega
  refine LoopO.run (σ := Nat) (fun i => [(2, .pointer (some ⟨b2, 0, none⟩)), (3, .pointer (some ⟨b3, 0, none⟩)), (5, .int .i64 i)])
    (fun i w => St g h w ((b3, .cells b.row.toArray 29 (0, 0)) :: (b2, .cells a.row.toArray 29 (0, 0)) :: L) ∧ i ≤ a.r.evs.length ∧ ∀ j (hj : j < i) (hx : j < a.r.evs.length), a.r.evs[j] = b.r.evs[j]) (fun i => a.r.evs.length - i) 0 (by exact ⟨rfl, rfl, rfl, trivial⟩) ⟨H, Nat.zero_le _, fun j hj => absurd hj (Nat.not_lt_zero j)⟩ ?_
  rintro i w e ⟨H, hi, hno⟩
  refine LdO.own H (.tail .head) rfl ?_
  refine CondT.dec (fun hlt => ?_) (fun hge => ?_)
  · have hlt1 : i < a.r.evs.length := by omega
    have hlt2 : i < b.r.evs.length := by omega
    obtain ⟨c1, o1, hidx1, hrow1⟩ := Sl.idxM ha hlt1
    obtain ⟨c2, o2, hidx2, hrow2⟩ := Sl.idxM hb hlt2
    refine DrawO.st H (pl [0, 1, 2, 3, 4, 5, 6, 7, 8, 9, 10] .nil) (by kernel_rfl) fun w H => ?_
    refine LdQ.own (.tail .head) rfl ?_
    refine hidx1 _ _ _ rfl ?_
    refine LdQ.hrow hrow1 rfl ?_
    refine LdQ.own .head rfl ?_
    refine hidx2 _ _ _ rfl ?_
    refine LdQ.hrow hrow2 rfl ?_
    refine evNeqO (a := a.r.evs[i]) (b := b.r.evs[i]) rfl rfl ?_
    refine CondT.dec (fun h5 => ?_) (fun h5 => ?_)
    · exact ⟨Eq.trans (b := .bool false) rfl (by
        have : ¬ a.r.evs = b.r.evs := fun he => h5 (by simp only [he])
        rw [key, decide_eq_false this]; simp), H.tail.tail⟩
    · refine ArO.i64 ?_
      refine ⟨rfl, i + 1, ⟨rfl, rfl, rfl, trivial⟩, ⟨H, by omega, fun j hj hx => ?_⟩, by omega⟩
      rcases Nat.lt_or_ge j i with hji | hji
      · exact hno j hji hx
      · have : j = i := by omega
        subst this
        exact Classical.not_not.1 h5
  · exact ⟨Eq.trans (b := .bool true) rfl (by
      have : a.r.evs = b.r.evs := List.ext_getElem h4 (fun j hj hj' => hno j (by omega) hj)
      rw [key, decide_eq_true h1, decide_eq_true h2, h3, decide_eq_true this]; rfl), H.tail.tail⟩
end Go.Proofs.Ytbdoinigeaaclaa
namespace Go.Proofs.Ytbdoinigeaaclaa
open Go RL PQ
variable {g : World} {h : Hp} {w : World} {L : List (Nat × Obj)}
set_option maxHeartbeats 1000000 in
set_option maxRecDepth 10000 in
theorem refInsert (H : St g h w L) {p : MP} (hp : p.ok h) (c : PQ.Call) (hd : Int) {n : Nat} (hi : Inv n p.m) (hn : n ≤ 1000) :
    Ret Try.prog 40 [p.val, callV c, .int .i64 hd] w (DoPost g h L (insM p.m c hd)) := by
  have hcap := hi.cap2
  have hlen := hi.len
  have hiss := hi.issued
  refine Ret.enter tabOk Try.func40 rfl (by rfl) rfl (by rfl) (by kernel_rfl) ?_
  refine AllocO.own H fun b3 w H => ?_
  refine AllocO.own H fun b4 w H => ?_
  refine AllocO.own H fun b6 w H => ?_
  refine AllocO.own H fun b7 w H => ?_
  have bad : ∀ (w : World) (e : Int), St g h w L → DoPost g h L (p.m, { err := e }) (.tuple #[p.val, (failR e).val]) w := fun w e H => ⟨h, p, failR e, Hp.le_refl h, rfl, hp, failR_ok h e, rfl, H⟩
  refine LdO.own H (.tail (.tail .head)) rfl ?_
  refine CondT.dec (fun h1 => ?_) (fun h1 => ?_)
  · refine CondT.mk ?_
    refine LdO.owns H (.tail (.tail (.tail .head))) rfl ?_
    refine StO.own H (.tail .head) rfl rfl rfl fun w H => ?_
    refine StO.own H .head rfl rfl rfl fun w H => ?_
    refine LdO.owns H (.tail .head) rfl ?_
    refine LdO.owns H .head rfl ?_
    have := bad w 1 H.tail.tail.tail.tail
    rw [insM, if_pos (.inl h1)]
    exact this
  refine LdO.own H (.tail (.tail .head)) rfl ?_
  refine CondT.dec (fun h2 => ?_) (fun h2 => ?_)
  · refine LdO.owns H (.tail (.tail (.tail .head))) rfl ?_
    refine StO.own H (.tail .head) rfl rfl rfl fun w H => ?_
    refine StO.own H .head rfl rfl rfl fun w H => ?_
    refine LdO.owns H (.tail .head) rfl ?_
    refine LdO.owns H .head rfl ?_
    have := bad w 1 H.tail.tail.tail.tail
    rw [insM, if_pos (.inr h2)]
    exact this
  have h12 : ¬ (c.time < 0 ∨ 1152921504606846976 < c.time) := by omega
  refine LdO.own H (.tail (.tail (.tail .head))) rfl ?_
  refine LdO.own H (.tail (.tail (.tail .head))) rfl ?_
  refine CondT.dec (fun h3 => ?_) (fun h3 => ?_)
  · refine LdO.owns H (.tail (.tail (.tail .head))) rfl ?_
    refine StO.own H (.tail .head) rfl rfl rfl fun w H => ?_
    refine StO.own H .head rfl rfl rfl fun w H => ?_
    refine LdO.owns H (.tail .head) rfl ?_
    refine LdO.owns H .head rfl ?_
    have := bad w 10 H.tail.tail.tail.tail
    rw [insM, if_neg h12, if_pos (by omega)]
    exact this
  have h3 : ¬ (p.m.ents.length : Int) = p.m.cap := by omega
  refine (refValidH H hd).mono ?_; rintro _ w ⟨rfl, H⟩
  refine CondT.bool (fun h4 => ?_) (fun h4 => ?_)
  · refine CondT.mk ?_
    refine LdO.owns H (.tail (.tail (.tail .head))) rfl ?_
    refine StO.own H (.tail .head) rfl rfl rfl fun w H => ?_
    refine StO.own H .head rfl rfl rfl fun w H => ?_
    refine LdO.owns H (.tail .head) rfl ?_
    refine LdO.owns H .head rfl ?_
    have := bad w 1 H.tail.tail.tail.tail
    rw [insM, if_neg h12, if_neg h3, if_pos (.inl (by simpa using h4))]
    exact this
  refine LdO.own H (.tail (.tail (.tail .head))) rfl ?_
  refine (refHas H hp.i (by omega) hd).mono ?_; rintro _ w ⟨rfl, H⟩
  refine CondT.bool (fun h5 => ?_) (fun h5 => ?_)
  · refine LdO.owns H (.tail (.tail (.tail .head))) rfl ?_
    refine StO.own H (.tail .head) rfl rfl rfl fun w H => ?_
    refine StO.own H .head rfl rfl rfl fun w H => ?_
    refine LdO.owns H (.tail .head) rfl ?_
    refine LdO.owns H .head rfl ?_
    have := bad w 1 H.tail.tail.tail.tail
    rw [insM, if_neg h12, if_neg h3, if_pos (.inr h5)]
    exact this
  have hM : insM p.m c hd = ({ p.m with ents := insE p.m.ents ⟨c.time, p.m.next, hd, false⟩, next := p.m.next + 1, issued := p.m.issued ++ [hd] }, { rh := hd }) := by
    rw [insM, if_neg h12, if_neg h3, if_neg (by rw [h5]; simp at h4; simp [h4])]
  have hpos : pos p.m.ents c.time ≤ p.m.ents.length := takeWhile_pos
  have hone : ∀ r ∈ p.m.ents.map entR, oneCells r = true := fun r hr => by
    obtain ⟨e, _, rfl⟩ := List.mem_map.1 hr; rfl
  have hml : (p.m.ents.map entR).length = p.m.ents.length := List.length_map ..
  refine LdO.own H (.tail (.tail (.tail .head))) rfl ?_
  refine LoopO.run (σ := Nat) (fun i => [(2, .int .i64 hd), (3, .pointer (some ⟨b3, 0, none⟩)), (4, .pointer (some ⟨b4, 0, none⟩)), (6, .pointer (some ⟨b6, 0, none⟩)), (7, .pointer (some ⟨b7, 0, none⟩)), (8, .int .i64 i)])
    (fun i w => St g h w ((b7, .cells ti29.zero.cells 29 (0, 0)) :: (b6, .cells ti46.zero.cells 46 (0, 0)) :: (b4, .cells (callL c).toArray 25 (0, 0)) :: (b3, .cells p.row.toArray 46 (0, 0)) :: L) ∧ pos p.m.ents c.time ≤ i ∧ i ≤ p.m.ents.length)
    (fun i => i) p.m.ents.length (by exact ⟨rfl, rfl, rfl, rfl, rfl, rfl, trivial⟩) ⟨H, hpos, Nat.le_refl _⟩ ?_
  rintro i w e ⟨H, hi1, hi2⟩
  refine DrawO.st H (pl [0, 1, 2, 3, 4, 5, 6, 7, 8, 9, 10, 11, 12, 13] .nil) (by kernel_rfl) fun w H => ?_
  refine CondT.dec (fun h6 => ?_) (fun h6 => ?_)
  · have h6' : 0 < i := by omega
    have hlt : i - 1 < p.m.ents.length := by omega
    refine LdQ.own (.tail (.tail (.tail .head))) rfl ?_
    refine ArO.i64 ?_
    obtain ⟨be, oe, hidx, hrow⟩ := hp.e.idxM hlt
    refine hidx _ _ _ (by omega) ?_
    refine LdQ.hc hrow (j := 0) rfl ?_
    refine LdQ.own (.tail (.tail .head)) rfl ?_
    refine CondT.dec (fun h7 => ?_) (fun h7 => ?_)
    · refine ArO.i64 ?_
      have hz : (i : Int) - 1 = ((i - 1 : Nat) : Int) := by omega
      refine ⟨rfl, i - 1, ⟨rfl, rfl, rfl, rfl, rfl, congrArg (Value.int .i64) hz, trivial⟩, ⟨H, ?_, by omega⟩, by omega⟩
      refine Classical.not_not.1 fun hnn => ?_
      have := pos_lo (l := p.m.ents) (t := c.time) (j := i - 1) (by omega) hlt
      omega
    · have hpi : i = pos p.m.ents c.time := by
        refine Classical.not_not.1 fun hnn => ?_
        have := pos_hi (t := c.time) hi.sorted (j := i - 1) (by omega) hlt
        exact h7 this
      subst hpi
      refine LdO.own H (.tail (.tail (.tail .head))) rfl ?_
      refine Sl.takeO (n := pos p.m.ents c.time) hp.e (by omega) fun vT hsT => ?_
      have hoT : ∀ r ∈ (p.m.ents.map entR).take (pos p.m.ents c.time), oneCells r = true := fun r hr => hone r (List.mem_of_mem_take hr)
      have hoD : ∀ r ∈ (p.m.ents.map entR).drop (pos p.m.ents c.time), oneCells r = true := fun r hr => hone r (List.mem_of_mem_drop hr)
      have hlT : ((p.m.ents.map entR).take (pos p.m.ents c.time)).length = pos p.m.ents c.time := by rw [List.length_take, hml]; omega
      have hlD : ((p.m.ents.map entR).drop (pos p.m.ents c.time)).length = p.m.ents.length - pos p.m.ents c.time := by rw [List.length_drop, hml]
      refine RunO.apps (xx := []) (n := 0) tabOk rfl rfl rfl rfl rfl rfl rfl H (OwnSl.nil _ _) (hsT.src H) hoT rfl hlT (by omega) fun v1 w x1 ho1 H => ?_
      have H := St.pull (x := [_, _, _, _]) H
      refine LdO.own H (.tail (.tail .head)) rfl ?_
      refine LdO.own H (.tail (.tail (.tail .head))) rfl ?_
      refine AllocO.own H fun bE w H => ?_
      have hsrc : Src w 4 (.slice (some ⟨bE, 0, none⟩) 1 1) [entR ⟨c.time, p.m.next, hd, false⟩] := H.srcOwn .head (by simp [entR]) rfl rfl
      have H := St.pull (A := [_, _, _, _, _]) H
      have hl1 := hlT
      refine RunO.apps (m := 1) tabOk rfl rfl rfl rfl rfl rfl rfl H ho1 hsrc (by simp [oneCells, entR, Value.oneCell']) hl1 rfl (by omega) fun v2 w x2 ho2 H => ?_
      have H := St.pull (x := [_, _, _, _, _]) H
      refine LdO.own H (.tail (.tail (.tail (.tail .head)))) rfl ?_
      refine Sl.dropO (n := pos p.m.ents c.time) hp.e (by omega) fun vD hsD => ?_
      have H := St.pull (A := [_, _, _, _, _]) H
      have hl2 : ([] ++ (p.m.ents.map entR).take (pos p.m.ents c.time) ++ [entR ⟨c.time, p.m.next, hd, false⟩]).length = pos p.m.ents c.time + 1 := by simp only [List.nil_append, List.length_append, List.length_cons, List.length_nil, hlT]
      refine RunO.apps tabOk rfl rfl rfl rfl rfl rfl rfl H ho2 (hsD.src H) hoD hl2 hlD (by omega) fun v3 w x3 ho3 H => ?_
      have H := St.pull (x := [_, _, _, _, _]) H
      have ho3 : OwnSl 74 4 v3 ((insE p.m.ents ⟨c.time, p.m.next, hd, false⟩).map entR) x3 := by
        rw [← insE_rows]
        have : ([] ++ (p.m.ents.map entR).take (pos p.m.ents c.time) ++ [entR ⟨c.time, p.m.next, hd, false⟩]) ++ (p.m.ents.map entR).drop (pos p.m.ents c.time) = (p.m.ents.map entR).take (pos p.m.ents c.time) ++ entR ⟨c.time, p.m.next, hd, false⟩ :: (p.m.ents.map entR).drop (pos p.m.ents c.time) := by simp
        rw [← this]; exact ho3
      refine AllocO.own H fun b11 w H => ?_
      have ho4 : OwnSl 3 1 (.slice (some ⟨b11, 0, none⟩) 0 0) [] [(b11, .cells #[] 3 (0, 0))] := ⟨by simp, .inr ⟨b11, #[], 0, rfl, Nat.le_refl _, rfl, rfl, rfl⟩⟩
      have hil : (p.m.issued.map intR).length = p.m.issued.length := List.length_map ..
      refine LdO.own H (.tail (.tail (.tail (.tail (.tail .head))))) rfl ?_
      refine RunO.apps (xx := [(b11, .cells #[] 3 (0, 0))]) (n := 0) tabOk rfl rfl rfl rfl rfl rfl rfl H ho4 (hp.i.src H) (fun r hr => by obtain ⟨z, _, rfl⟩ := List.mem_map.1 hr; rfl) rfl hil (by omega) fun v4 w x4 ho4 H => ?_
      refine AllocO.own H fun b12 w H => ?_
      have hsrc2 : Src w 1 (.slice (some ⟨b12, 0, none⟩) 1 1) [[.int .i64 hd]] := H.srcOwn .head (by simp) rfl rfl
      have H := St.pull (A := [_]) H
      refine RunO.apps (m := 1) tabOk rfl rfl rfl rfl rfl rfl rfl H ho4 hsrc2 (by simp [oneCells, Value.oneCell']) hil rfl (by omega) fun v5 w x5 ho5 H => ?_
      have ho5 : OwnSl 3 1 v5 ((p.m.issued ++ [hd]).map intR) x5 := by
        have : (p.m.issued ++ [hd]).map intR = ([] ++ p.m.issued.map intR) ++ [[.int .i64 hd]] := by simp [intR]
        rw [this]; exact ho5
      refine (OwnSl.sealIt ho5 H).elim fun h2 q => ?_
      have hle2 := q.1; have H := q.2.1; have hs5 := q.2.2
      have H := St.pull (A := [_, _, _, _, _, _]) H
      refine (OwnSl.sealIt ho3 H).elim fun h3' q => ?_
      have hle3 := q.1; have H := q.2.1; have hs3 := q.2.2
      refine (Sl.lenM hs5).elim fun ia q2 => q2.elim fun ic q2 => ?_
      subst q2
      refine (Sl.lenM hs3).elim fun ea q2 => q2.elim fun ec q2 => ?_
      subst q2
      refine LdO.own H (.tail (.tail (.tail (.tail (.tail .head))))) rfl ?_
      refine LdO.own H (.tail (.tail (.tail (.tail (.tail .head))))) rfl ?_
      have hnext := hi.next
      refine ArO.i64 ?_
      refine StO.own H (.tail (.tail (.tail .head))) rfl rfl rfl fun w H => ?_
      refine StO.own H (.tail (.tail .head)) rfl rfl rfl fun w H => ?_
      refine LdO.owns H (.tail (.tail (.tail .head))) rfl ?_
      refine LdO.owns H (.tail (.tail .head)) rfl ?_
      refine ⟨h3', ⟨⟨p.m.cap, insE p.m.ents ⟨c.time, p.m.next, hd, false⟩, p.m.next + 1, p.m.issued ++ [hd]⟩, ea, ec, ia, ic⟩, ⟨{ rh := hd }, none, 0⟩, Hp.le_trans hle2 hle3, rfl, ⟨hs3, hs5.le hle3⟩, Sl.nil h3' 2, hM.symm, H.tail.tail.tail.tail.tail.tail⟩
  · refine CondT.mk ?_
    have hpi : i = pos p.m.ents c.time := by omega
    subst hpi
    refine LdO.own H (.tail (.tail (.tail .head))) rfl ?_
    refine Sl.takeO (n := pos p.m.ents c.time) hp.e (by omega) fun vT hsT => ?_
    have hoT : ∀ r ∈ (p.m.ents.map entR).take (pos p.m.ents c.time), oneCells r = true := fun r hr => hone r (List.mem_of_mem_take hr)
    have hoD : ∀ r ∈ (p.m.ents.map entR).drop (pos p.m.ents c.time), oneCells r = true := fun r hr => hone r (List.mem_of_mem_drop hr)
    have hlT : ((p.m.ents.map entR).take (pos p.m.ents c.time)).length = pos p.m.ents c.time := by rw [List.length_take, hml]; omega
    have hlD : ((p.m.ents.map entR).drop (pos p.m.ents c.time)).length = p.m.ents.length - pos p.m.ents c.time := by rw [List.length_drop, hml]
    refine RunO.apps (xx := []) (n := 0) tabOk rfl rfl rfl rfl rfl rfl rfl H (OwnSl.nil _ _) (hsT.src H) hoT rfl hlT (by omega) fun v1 w x1 ho1 H => ?_
    have H := St.pull (x := [_, _, _, _]) H
    refine LdO.own H (.tail (.tail .head)) rfl ?_
    refine LdO.own H (.tail (.tail (.tail .head))) rfl ?_
    refine AllocO.own H fun bE w H => ?_
    have hsrc : Src w 4 (.slice (some ⟨bE, 0, none⟩) 1 1) [entR ⟨c.time, p.m.next, hd, false⟩] := H.srcOwn .head (by simp [entR]) rfl rfl
    have H := St.pull (A := [_, _, _, _, _]) H
    have hl1 := hlT
    refine RunO.apps (m := 1) tabOk rfl rfl rfl rfl rfl rfl rfl H ho1 hsrc (by simp [oneCells, entR, Value.oneCell']) hl1 rfl (by omega) fun v2 w x2 ho2 H => ?_
    have H := St.pull (x := [_, _, _, _, _]) H
    refine LdO.own H (.tail (.tail (.tail (.tail .head)))) rfl ?_
    refine Sl.dropO (n := pos p.m.ents c.time) hp.e (by omega) fun vD hsD => ?_
    have H := St.pull (A := [_, _, _, _, _]) H
    have hl2 : ([] ++ (p.m.ents.map entR).take (pos p.m.ents c.time) ++ [entR ⟨c.time, p.m.next, hd, false⟩]).length = pos p.m.ents c.time + 1 := by simp only [List.nil_append, List.length_append, List.length_cons, List.length_nil, hlT]
    refine RunO.apps tabOk rfl rfl rfl rfl rfl rfl rfl H ho2 (hsD.src H) hoD hl2 hlD (by omega) fun v3 w x3 ho3 H => ?_
    have H := St.pull (x := [_, _, _, _, _]) H
    have ho3 : OwnSl 74 4 v3 ((insE p.m.ents ⟨c.time, p.m.next, hd, false⟩).map entR) x3 := by
      rw [← insE_rows]
      have : ([] ++ (p.m.ents.map entR).take (pos p.m.ents c.time) ++ [entR ⟨c.time, p.m.next, hd, false⟩]) ++ (p.m.ents.map entR).drop (pos p.m.ents c.time) = (p.m.ents.map entR).take (pos p.m.ents c.time) ++ entR ⟨c.time, p.m.next, hd, false⟩ :: (p.m.ents.map entR).drop (pos p.m.ents c.time) := by simp
      rw [← this]; exact ho3
    refine AllocO.own H fun b11 w H => ?_
    have ho4 : OwnSl 3 1 (.slice (some ⟨b11, 0, none⟩) 0 0) [] [(b11, .cells #[] 3 (0, 0))] := ⟨by simp, .inr ⟨b11, #[], 0, rfl, Nat.le_refl _, rfl, rfl, rfl⟩⟩
    have hil : (p.m.issued.map intR).length = p.m.issued.length := List.length_map ..
    refine LdO.own H (.tail (.tail (.tail (.tail (.tail .head))))) rfl ?_
    refine RunO.apps (xx := [(b11, .cells #[] 3 (0, 0))]) (n := 0) tabOk rfl rfl rfl rfl rfl rfl rfl H ho4 (hp.i.src H) (fun r hr => by obtain ⟨z, _, rfl⟩ := List.mem_map.1 hr; rfl) rfl hil (by omega) fun v4 w x4 ho4 H => ?_
    refine AllocO.own H fun b12 w H => ?_
    have hsrc2 : Src w 1 (.slice (some ⟨b12, 0, none⟩) 1 1) [[.int .i64 hd]] := H.srcOwn .head (by simp) rfl rfl
    have H := St.pull (A := [_]) H
    refine RunO.apps (m := 1) tabOk rfl rfl rfl rfl rfl rfl rfl H ho4 hsrc2 (by simp [oneCells, Value.oneCell']) hil rfl (by omega) fun v5 w x5 ho5 H => ?_
    have ho5 : OwnSl 3 1 v5 ((p.m.issued ++ [hd]).map intR) x5 := by
      have : (p.m.issued ++ [hd]).map intR = ([] ++ p.m.issued.map intR) ++ [[.int .i64 hd]] := by simp [intR]
      rw [this]; exact ho5
    refine (OwnSl.sealIt ho5 H).elim fun h2 q => ?_
    have hle2 := q.1; have H := q.2.1; have hs5 := q.2.2
    have H := St.pull (A := [_, _, _, _, _, _]) H
    refine (OwnSl.sealIt ho3 H).elim fun h3' q => ?_
    have hle3 := q.1; have H := q.2.1; have hs3 := q.2.2
    refine (Sl.lenM hs5).elim fun ia q2 => q2.elim fun ic q2 => ?_
    subst q2
    refine (Sl.lenM hs3).elim fun ea q2 => q2.elim fun ec q2 => ?_
    subst q2
    refine LdO.own H (.tail (.tail (.tail (.tail (.tail .head))))) rfl ?_
    refine LdO.own H (.tail (.tail (.tail (.tail (.tail .head))))) rfl ?_
    have hnext := hi.next
    refine ArO.i64 ?_
    refine StO.own H (.tail (.tail (.tail .head))) rfl rfl rfl fun w H => ?_
    refine StO.own H (.tail (.tail .head)) rfl rfl rfl fun w H => ?_
    refine LdO.owns H (.tail (.tail (.tail .head))) rfl ?_
    refine LdO.owns H (.tail (.tail .head)) rfl ?_
    refine ⟨h3', ⟨⟨p.m.cap, insE p.m.ents ⟨c.time, p.m.next, hd, false⟩, p.m.next + 1, p.m.issued ++ [hd]⟩, ea, ec, ia, ic⟩, ⟨{ rh := hd }, none, 0⟩, Hp.le_trans hle2 hle3, rfl, ⟨hs3, hs5.le hle3⟩, Sl.nil h3' 2, hM.symm, H.tail.tail.tail.tail.tail.tail⟩
end Go.Proofs.Ytbdoinigeaaclaa
namespace Go.Proofs.Ytbdoinigeaaclaa
open Go RL PQ
variable {g : World} {h : Hp} {w : World} {L : List (Nat × Obj)}
theorem refCancel (H : St g h w L) {p : MP} (hp : p.ok h) (c : PQ.Call) {n : Nat} (hi : Inv n p.m) :
    Ret Try.prog 41 [p.val, callV c] w (DoPost g h L (canM p.m c)) := by
  have hcap := hi.cap2
  have hlen := hi.len
  have hone : ∀ r ∈ p.m.ents.map entR, oneCells r = true := fun r hr => by
    obtain ⟨e, _, rfl⟩ := List.mem_map.1 hr; rfl
  have hml : (p.m.ents.map entR).length = p.m.ents.length := List.length_map ..
  refine Ret.enter tabOk Try.func41 rfl (by rfl) rfl (by rfl) (by kernel_rfl) ?_
  refine AllocO.own H fun b2 w H => ?_
  refine AllocO.own H fun b3 w H => ?_
  refine AllocO.own H fun b4 w H => ?_
  refine AllocO.own H fun b5 w H => ?_
  refine LoopO.run (σ := Nat) (fun i => [(2, .pointer (some ⟨b2, 0, none⟩)), (3, .pointer (some ⟨b3, 0, none⟩)), (4, .pointer (some ⟨b4, 0, none⟩)), (5, .pointer (some ⟨b5, 0, none⟩)), (6, .int .i64 i)])
    (fun i w => St g h w ((b5, .cells ti29.zero.cells 29 (0, 0)) :: (b4, .cells ti46.zero.cells 46 (0, 0)) :: (b3, .cells (callL c).toArray 25 (0, 0)) :: (b2, .cells p.row.toArray 46 (0, 0)) :: L) ∧ i ≤ p.m.ents.length ∧ ∀ j (hj : j < i) (hx : j < p.m.ents.length), canP c.handle p.m.ents[j] = false)
    (fun i => p.m.ents.length - i) 0 (by exact ⟨rfl, rfl, rfl, rfl, rfl, trivial⟩) ⟨H, Nat.zero_le _, fun j hj => absurd hj (Nat.not_lt_zero j)⟩ ?_
  rintro i w e ⟨H, hi2, hno⟩
  refine LdO.own H (.tail (.tail (.tail .head))) rfl ?_
  refine CondT.dec (fun hlt => ?_) (fun hge => ?_)
  · have hlt' : i < p.m.ents.length := by omega
    obtain ⟨be, oe, hidx, hrow⟩ := hp.e.idxM hlt'
    have next : canP c.handle p.m.ents[i] = false → ∀ j (hj : j < i + 1) (hx : j < p.m.ents.length), canP c.handle p.m.ents[j] = false := fun hf j hj hx => by
      rcases Nat.lt_or_ge j i with hji | hji
      · exact hno j hji hx
      · have : j = i := by omega
        subst this
        exact hf
    refine DrawO.st H (pl [0, 1, 2, 3, 4, 5, 6, 7, 8, 9, 10, 11, 12, 13, 14, 15, 16, 17] .nil) (by kernel_rfl) fun w H => ?_
    refine LdQ.own (.tail (.tail (.tail .head))) rfl ?_
    refine hidx _ _ _ rfl ?_
    refine LdQ.hc hrow (j := 2) rfl ?_
    refine LdQ.own (.tail (.tail .head)) rfl ?_
    refine CondT.dec (fun h1 => ?_) (fun h1 => ?_)
    · refine LdQ.own (.tail (.tail (.tail .head))) rfl ?_
      refine hidx _ _ _ rfl ?_
      refine LdQ.hc hrow (j := 3) rfl ?_
      refine CondT.bool (fun h2 => ?_) (fun h2 => ?_)
      · have hc : canP c.handle p.m.ents[i] = true := by rw [canP, decide_eq_true h1, Bool.true_and]; exact h2
        have hf : p.m.ents.findIdx? (canP c.handle) = some i := findIdx_at hlt' (fun j hj => hno j hj (by omega)) hc
        refine AllocO.own H fun b8 w H => ?_
        have ho0 : OwnSl 74 4 (.slice (some ⟨b8, 0, none⟩) 0 0) [] [(b8, .cells #[] 74 (0, 0))] := ⟨by simp, .inr ⟨b8, #[], 0, rfl, Nat.le_refl _, rfl, rfl, rfl⟩⟩
        refine LdO.own H (.tail (.tail (.tail (.tail .head)))) rfl ?_
        refine RunO.apps (xx := [(b8, .cells #[] 74 (0, 0))]) (n := 0) tabOk rfl rfl rfl rfl rfl rfl rfl H ho0 (hp.e.src H) hone rfl hml (by omega) fun v w x ho H => ?_
        have ho : OwnSl 74 4 v (p.m.ents.map entR) x := ho
        obtain ⟨hr, ⟨rfl, hnil, rfl⟩ | ⟨b, cs, cap, rfl, hcap', hcs, hc3, rfl⟩⟩ := ho
        · rw [List.map_eq_nil_iff] at hnil
          rw [hnil] at hlt'; exact absurd hlt' (Nat.not_lt_zero i)
        refine IdxO.at0 rfl (by omega) ?_
        refine StO.own H .head rfl rfl (Nat.ble_eq_true_of_le (by show i * 4 + 3 + 1 ≤ cs.size; omega)) fun w H => ?_
        have hrow4 : ∀ r ∈ p.m.ents.map entR, r.length = 4 := fun r hx => (hr r hx).1
        have ho2 : OwnSl 74 4 (.slice (some ⟨b, 0, none⟩) (p.m.ents.map entR).length cap) ((p.m.ents.modify i fun e => { e with dead := true }).map entR) [(b, .cells (putA cs (i * 4 + 3) [.bool true]) 74 (0, 0))] := by
          refine ownSl_mk (by simp) (fun r hx => ?_) hcap' (by rw [putA_size]; exact hcs) ?_
          · obtain ⟨e, _, rfl⟩ := List.mem_map.1 hx; exact ⟨rfl, rfl⟩
          · rw [putA_one, List.take_set, hc3, flatten_set _ (by decide) hrow4, modify_rows]
        have H : St g h w ([(b, .cells (putA cs (i * 4 + 3) [.bool true]) 74 (0, 0))] ++ _) := H
        refine (OwnSl.sealIt ho2 H).elim fun h' q => ?_
        have hle := q.1; have H := q.2.1; have hs' := q.2.2
        refine StO.own H (.tail (.tail (.tail .head))) rfl rfl rfl fun w H => ?_
        refine LdO.owns H (.tail (.tail (.tail .head))) rfl ?_
        refine StO.own H (.tail .head) rfl rfl rfl fun w H => ?_
        refine StO.own H .head rfl rfl rfl fun w H => ?_
        refine LdO.owns H (.tail .head) rfl ?_
        refine LdO.owns H .head rfl ?_
        have hv : Value.slice (some ⟨b, 0, none⟩) (p.m.ents.map entR).length cap = (⟨⟨p.m.cap, p.m.ents.modify i fun e => { e with dead := true }, p.m.next, p.m.issued⟩, some ⟨b, 0, none⟩, cap, p.ia, p.ic⟩ : MP).ents := by
          show _ = Value.slice _ _ _
          simp
        rw [hv] at hs' ⊢
        exact ⟨h', ⟨⟨p.m.cap, p.m.ents.modify i fun e => { e with dead := true }, p.m.next, p.m.issued⟩, some ⟨b, 0, none⟩, cap, p.ia, p.ic⟩, ⟨{ canc := true }, none, 0⟩, hle, rfl, ⟨hs', hp.i.le hle⟩, Sl.nil h' 2, by rw [canM, hf], H.tail.tail.tail.tail⟩
      · refine ArO.i64 ?_
        exact ⟨rfl, i + 1, ⟨rfl, rfl, rfl, rfl, rfl, trivial⟩, ⟨H, by omega, next (by rw [canP, decide_eq_true h1, Bool.true_and]; exact h2)⟩, by omega⟩
    · refine CondT.mk ?_
      refine ArO.i64 ?_
      exact ⟨rfl, i + 1, ⟨rfl, rfl, rfl, rfl, rfl, trivial⟩, ⟨H, by omega, next (by rw [canP, decide_eq_false h1, Bool.false_and])⟩, by omega⟩
  · have hf : p.m.ents.findIdx? (canP c.handle) = none := findIdx_no fun x hx => by
      obtain ⟨j, hj, rfl⟩ := List.mem_iff_getElem.1 hx
      exact hno j (by omega) hj
    refine LdO.owns H (.tail (.tail (.tail .head))) rfl ?_
    refine StO.own H (.tail .head) rfl rfl rfl fun w H => ?_
    refine StO.own H .head rfl rfl rfl fun w H => ?_
    refine LdO.owns H (.tail .head) rfl ?_
    refine LdO.owns H .head rfl ?_
    exact ⟨h, p, ⟨{}, none, 0⟩, Hp.le_refl h, rfl, hp, Sl.nil h 2, by rw [canM, hf], H.tail.tail.tail.tail⟩
end Go.Proofs.Ytbdoinigeaaclaa
namespace Go.Proofs.Ytbdoinigeaaclaa
open Go RL PQ
variable {g : World} {h : Hp} {w : World} {L : List (Nat × Obj)}
structure RBatS where
  i : Nat
  out : List Ev
  oa : Option Addr
  oc : Nat
  x : List (Nat × Obj)
theorem refBatch (H : St g h w L) {p : MP} (hp : p.ok h) (c : PQ.Call) {n : Nat} (hi : Inv n p.m) :
    Ret Try.prog 42 [p.val, callV c] w (DoPost g h L (batM p.m c)) := by
  have hcap := hi.cap2
  have hlen := hi.len
  have hone : ∀ r ∈ p.m.ents.map entR, oneCells r = true := fun r hr => by
    obtain ⟨e, _, rfl⟩ := List.mem_map.1 hr; rfl
  have hml : (p.m.ents.map entR).length = p.m.ents.length := List.length_map ..
  refine Ret.enter tabOk Try.func42 rfl (by rfl) rfl (by rfl) (by kernel_rfl) ?_
  refine AllocO.own H fun b2 w H => ?_
  refine AllocO.own H fun b3 w H => ?_
  refine AllocO.own H fun b4 w H => ?_
  refine AllocO.own H fun b5 w H => ?_
  have bad : ∀ (w : World) (e : Int), St g h w L → DoPost g h L (p.m, { err := e }) (.tuple #[p.val, (failR e).val]) w := fun w e H => ⟨h, p, failR e, Hp.le_refl h, rfl, hp, failR_ok h e, rfl, H⟩
  refine LdO.own H (.tail (.tail .head)) rfl ?_
  refine CondT.dec (fun h1 => ?_) (fun h1 => ?_)
  · refine CondT.mk ?_
    refine LdO.owns H (.tail (.tail (.tail .head))) rfl ?_
    refine StO.own H (.tail .head) rfl rfl rfl fun w H => ?_
    refine StO.own H .head rfl rfl rfl fun w H => ?_
    refine LdO.owns H (.tail .head) rfl ?_
    refine LdO.owns H .head rfl ?_
    have := bad w 1 H.tail.tail.tail.tail
    rw [batM, if_pos (.inl h1)]
    exact this
  refine LdO.own H (.tail (.tail .head)) rfl ?_
  refine CondT.dec (fun h2 => ?_) (fun h2 => ?_)
  · refine LdO.owns H (.tail (.tail (.tail .head))) rfl ?_
    refine StO.own H (.tail .head) rfl rfl rfl fun w H => ?_
    refine StO.own H .head rfl rfl rfl fun w H => ?_
    refine LdO.owns H (.tail .head) rfl ?_
    refine LdO.owns H .head rfl ?_
    have := bad w 1 H.tail.tail.tail.tail
    rw [batM, if_pos (.inr h2)]
    exact this
  have hM : batM p.m c = ({ p.m with ents := (batL c.bound c.max p.m.ents []).2 }, { evs := (batL c.bound c.max p.m.ents []).1 }) := by
    rw [batM, if_neg (by omega)]
  refine LoopO.run (σ := RBatS) (fun s => [(2, .pointer (some ⟨b2, 0, none⟩)), (3, .pointer (some ⟨b3, 0, none⟩)), (4, .pointer (some ⟨b4, 0, none⟩)), (5, .pointer (some ⟨b5, 0, none⟩)), (6, .slice s.oa s.out.length s.oc), (7, .int .i64 s.i)])
    (fun s w => St g h w ((b5, .cells ti29.zero.cells 29 (0, 0)) :: (b4, .cells ti46.zero.cells 46 (0, 0)) :: (b3, .cells (callL c).toArray 25 (0, 0)) :: (b2, .cells p.row.toArray 46 (0, 0)) :: (s.x ++ L))
      ∧ OwnSl 53 2 (.slice s.oa s.out.length s.oc) (s.out.map evR) s.x ∧ s.i ≤ p.m.ents.length ∧ s.out.length ≤ s.i ∧ batL c.bound c.max p.m.ents [] = batL c.bound c.max (p.m.ents.drop s.i) s.out)
    (fun s => p.m.ents.length - s.i) ⟨0, [], none, 0, []⟩ (by exact ⟨rfl, rfl, rfl, rfl, rfl, rfl, trivial⟩) ⟨H, OwnSl.nil _ _, Nat.zero_le _, Nat.le_refl _, rfl⟩ ?_
  rintro ⟨i, out, oa, oc, x⟩ w e ⟨H, ho, hin, hn, hb⟩
  simp only at H ho hin hn hb
  have hol : (out.map evR).length = out.length := List.length_map ..
  refine DrawO.st H (pl [0, 1, 2, 3, 4, 5, 6, 7, 8, 9, 10, 11, 12, 13, 14, 15, 16, 17, 18, 19, 20, 21, 22] .nil) (by kernel_rfl) fun w H => ?_
  refine LdQ.own (.tail (.tail (.tail .head))) rfl ?_
  refine CondT.dec (fun h3 => ?_) (fun h3 => ?_)
  · have h3' : i < p.m.ents.length := by simp only at h3; omega
    have hl : p.m.ents.drop i = p.m.ents[i] :: p.m.ents.drop (i + 1) := List.drop_eq_getElem_cons h3'
    refine LdQ.own (.tail (.tail (.tail .head))) rfl ?_
    obtain ⟨be, oe, hidx, hrow⟩ := hp.e.idxM h3'
    refine hidx _ _ _ rfl ?_
    refine LdQ.hc hrow (j := 0) rfl ?_
    refine LdQ.own (.tail (.tail .head)) rfl ?_
    refine CondT.dec (fun h4 => ?_) (fun h4 => ?_)
    · refine LdQ.own (.tail (.tail .head)) rfl ?_
      refine CondT.dec (fun h5 => ?_) (fun h5 => ?_)
      · have hb' : batL c.bound c.max (p.m.ents.drop i) out = batL c.bound c.max (p.m.ents.drop (i + 1)) (if p.m.ents[i].dead then out else out ++ [⟨p.m.ents[i].time, p.m.ents[i].handle⟩]) := by
          rw [hl, batL, if_pos ⟨h4, h5⟩]
        refine LdO.own H (.tail (.tail (.tail .head))) rfl ?_
        refine hidx _ _ _ rfl ?_
        refine LdO.hrow H hrow rfl ?_
        refine AllocO.own H fun b8 w H => ?_
        refine StO.own H .head rfl rfl rfl fun w H => ?_
        refine LdO.own H .head rfl ?_
        refine CondT.bool (fun h6 => ?_) (fun h6 => ?_)
        · have h6' : p.m.ents[i].dead = false := by cases hd : p.m.ents[i].dead <;> simp [hd] at h6 ⊢
          rw [h6'] at hb'
          refine LdO.own H .head rfl ?_
          refine LdO.own H .head rfl ?_
          refine AllocO.own H fun b9 w H => ?_
          have hsrc : Src w 2 (.slice (some ⟨b9, 0, none⟩) 1 1) [evR ⟨p.m.ents[i].time, p.m.ents[i].handle⟩] := H.srcOwn .head (by simp [evR]) rfl rfl
          have H := St.pull (A := [_, _, _, _, _, _]) H
          refine RunO.apps (m := 1) tabOk rfl rfl rfl rfl rfl rfl rfl H ho hsrc (by simp [oneCells, evR, Value.oneCell']) hol rfl (by omega) fun v w x' ho' H => ?_
          have H := St.pull (x := [_, _, _, _, _, _]) H
          have ho' : OwnSl 53 2 v ((out ++ [(⟨p.m.ents[i].time, p.m.ents[i].handle⟩ : Ev)]).map evR) x' := by
            rw [List.map_append]; exact ho'
          refine (OwnSl.lenM ho').elim fun oa' q2 => q2.elim fun oc' q2 => ?_
          subst q2
          refine ArO.i64 ?_
          exact ⟨rfl, ⟨i + 1, out ++ [(⟨p.m.ents[i].time, p.m.ents[i].handle⟩ : Ev)], oa', oc', x'⟩, ⟨rfl, rfl, rfl, rfl, rfl, rfl, trivial⟩, ⟨H.tail.tail, ho', h3', by simp only [List.length_append, List.length_cons, List.length_nil]; omega, hb.trans hb'⟩, by simp only; omega⟩
        · have h6' : p.m.ents[i].dead = true := by cases hd : p.m.ents[i].dead <;> simp [hd] at h6 ⊢
          rw [h6'] at hb'
          refine ArO.i64 ?_
          exact ⟨rfl, ⟨i + 1, out, oa, oc, x⟩, ⟨rfl, rfl, rfl, rfl, rfl, rfl, trivial⟩, ⟨H.tail, ho, h3', by simp only; omega, hb.trans hb'⟩, by simp only; omega⟩
      · have hb : batL c.bound c.max p.m.ents [] = (out, p.m.ents.drop i) := by
          rw [hb, hl, batL, if_neg (fun hh => h5 hh.2)]
        refine AllocO.own H fun b10 w H => ?_
        have ho0 : OwnSl 74 4 (.slice (some ⟨b10, 0, none⟩) 0 0) [] [(b10, .cells #[] 74 (0, 0))] := ⟨by simp, .inr ⟨b10, #[], 0, rfl, Nat.le_refl _, rfl, rfl, rfl⟩⟩
        refine LdO.own H (.tail (.tail (.tail (.tail .head)))) rfl ?_
        refine Sl.dropO (n := i) hp.e (by omega) fun vD hsD => ?_
        refine RunO.apps (xx := [(b10, .cells #[] 74 (0, 0))]) (n := 0) (m := p.m.ents.length - i) tabOk rfl rfl rfl rfl rfl rfl rfl H ho0 (hsD.src H) (fun r hr => hone r (List.mem_of_mem_drop hr)) rfl (by rw [List.length_drop, hml]) (by omega) fun v w x2 ho2 H => ?_
        have ho2 : OwnSl 74 4 v ((p.m.ents.drop i).map entR) x2 := by rw [List.map_drop]; exact ho2
        refine (OwnSl.sealIt ho2 H).elim fun h2 q => ?_
        have hle2 := q.1; have H := q.2.1; have hs2 := q.2.2
        refine (Sl.lenM hs2).elim fun ea q2 => q2.elim fun ec q2 => ?_
        subst q2
        refine StO.own H (.tail (.tail (.tail .head))) rfl rfl rfl fun w H => ?_
        refine LdO.owns H (.tail (.tail (.tail .head))) rfl ?_
        refine StO.own H (.tail .head) rfl rfl rfl fun w H => ?_
        refine StO.own H .head rfl rfl rfl fun w H => ?_
        refine LdO.owns H (.tail .head) rfl ?_
        refine LdO.owns H .head rfl ?_
        have H := H.tail.tail.tail.tail
        refine (OwnSl.sealIt ho H).elim fun h3 q => ?_
        have hle3 := q.1; have H := q.2.1; have hs3 := q.2.2
        exact ⟨h3, ⟨⟨p.m.cap, p.m.ents.drop i, p.m.next, p.m.issued⟩, ea, ec, p.ia, p.ic⟩, ⟨{ evs := out }, oa, oc⟩, Hp.le_trans hle2 hle3, rfl, ⟨hs2.le hle3, (hp.i.le hle2).le hle3⟩, hs3, by rw [hM, hb], H⟩
    · refine CondT.mk ?_
      have hb : batL c.bound c.max p.m.ents [] = (out, p.m.ents.drop i) := by
        rw [hb, hl, batL, if_neg (fun hh => h4 hh.1)]
      refine AllocO.own H fun b10 w H => ?_
      have ho0 : OwnSl 74 4 (.slice (some ⟨b10, 0, none⟩) 0 0) [] [(b10, .cells #[] 74 (0, 0))] := ⟨by simp, .inr ⟨b10, #[], 0, rfl, Nat.le_refl _, rfl, rfl, rfl⟩⟩
      refine LdO.own H (.tail (.tail (.tail (.tail .head)))) rfl ?_
      refine Sl.dropO (n := i) hp.e (by omega) fun vD hsD => ?_
      refine RunO.apps (xx := [(b10, .cells #[] 74 (0, 0))]) (n := 0) (m := p.m.ents.length - i) tabOk rfl rfl rfl rfl rfl rfl rfl H ho0 (hsD.src H) (fun r hr => hone r (List.mem_of_mem_drop hr)) rfl (by rw [List.length_drop, hml]) (by omega) fun v w x2 ho2 H => ?_
      have ho2 : OwnSl 74 4 v ((p.m.ents.drop i).map entR) x2 := by rw [List.map_drop]; exact ho2
      refine (OwnSl.sealIt ho2 H).elim fun h2 q => ?_
      have hle2 := q.1; have H := q.2.1; have hs2 := q.2.2
      refine (Sl.lenM hs2).elim fun ea q2 => q2.elim fun ec q2 => ?_
      subst q2
      refine StO.own H (.tail (.tail (.tail .head))) rfl rfl rfl fun w H => ?_
      refine LdO.owns H (.tail (.tail (.tail .head))) rfl ?_
      refine StO.own H (.tail .head) rfl rfl rfl fun w H => ?_
      refine StO.own H .head rfl rfl rfl fun w H => ?_
      refine LdO.owns H (.tail .head) rfl ?_
      refine LdO.owns H .head rfl ?_
      have H := H.tail.tail.tail.tail
      refine (OwnSl.sealIt ho H).elim fun h3 q => ?_
      have hle3 := q.1; have H := q.2.1; have hs3 := q.2.2
      exact ⟨h3, ⟨⟨p.m.cap, p.m.ents.drop i, p.m.next, p.m.issued⟩, ea, ec, p.ia, p.ic⟩, ⟨{ evs := out }, oa, oc⟩, Hp.le_trans hle2 hle3, rfl, ⟨hs2.le hle3, (hp.i.le hle2).le hle3⟩, hs3, by rw [hM, hb], H⟩
  · refine CondT.mk ?_
    refine CondT.mk ?_
    have hb : batL c.bound c.max p.m.ents [] = (out, p.m.ents.drop i) := by
      have hl0 : p.m.ents.drop i = [] := List.drop_eq_nil_of_le (by simp only at h3; omega)
      rw [hb, hl0]; rfl
    refine AllocO.own H fun b10 w H => ?_
    have ho0 : OwnSl 74 4 (.slice (some ⟨b10, 0, none⟩) 0 0) [] [(b10, .cells #[] 74 (0, 0))] := ⟨by simp, .inr ⟨b10, #[], 0, rfl, Nat.le_refl _, rfl, rfl, rfl⟩⟩
    refine LdO.own H (.tail (.tail (.tail (.tail .head)))) rfl ?_
    refine Sl.dropO (n := i) hp.e (by omega) fun vD hsD => ?_
    refine RunO.apps (xx := [(b10, .cells #[] 74 (0, 0))]) (n := 0) (m := p.m.ents.length - i) tabOk rfl rfl rfl rfl rfl rfl rfl H ho0 (hsD.src H) (fun r hr => hone r (List.mem_of_mem_drop hr)) rfl (by rw [List.length_drop, hml]) (by omega) fun v w x2 ho2 H => ?_
    have ho2 : OwnSl 74 4 v ((p.m.ents.drop i).map entR) x2 := by rw [List.map_drop]; exact ho2
    refine (OwnSl.sealIt ho2 H).elim fun h2 q => ?_
    have hle2 := q.1; have H := q.2.1; have hs2 := q.2.2
    refine (Sl.lenM hs2).elim fun ea q2 => q2.elim fun ec q2 => ?_
    subst q2
    refine StO.own H (.tail (.tail (.tail .head))) rfl rfl rfl fun w H => ?_
    refine LdO.owns H (.tail (.tail (.tail .head))) rfl ?_
    refine StO.own H (.tail .head) rfl rfl rfl fun w H => ?_
    refine StO.own H .head rfl rfl rfl fun w H => ?_
    refine LdO.owns H (.tail .head) rfl ?_
    refine LdO.owns H .head rfl ?_
    have H := H.tail.tail.tail.tail
    refine (OwnSl.sealIt ho H).elim fun h3 q => ?_
    have hle3 := q.1; have H := q.2.1; have hs3 := q.2.2
    exact ⟨h3, ⟨⟨p.m.cap, p.m.ents.drop i, p.m.next, p.m.issued⟩, ea, ec, p.ia, p.ic⟩, ⟨{ evs := out }, oa, oc⟩, Hp.le_trans hle2 hle3, rfl, ⟨hs2.le hle3, (hp.i.le hle2).le hle3⟩, hs3, by rw [hM, hb], H⟩
end Go.Proofs.Ytbdoinigeaaclaa
namespace Go.Proofs.Ytbdoinigeaaclaa
open Go RL PQ
variable {g : World} {h : Hp} {w : World} {L : List (Nat × Obj)}
theorem refDo (H : St g h w L) {p : MP} (hp : p.ok h) (c : PQ.Call) (hd : Int) {n : Nat} (hi : Inv n p.m) (hn : n ≤ 1000) :
    Ret Try.prog 33 [p.val, callV c, .int .i64 hd] w (DoPost g h L (doM p.m c hd)) := by
  refine Ret.enter tabOk Try.func33 rfl (by rfl) rfl (by rfl) (by kernel_rfl) ?_
  refine AllocO.own H fun b3 w H => ?_
  refine AllocO.own H fun b4 w H => ?_
  refine AllocO.own H fun b6 w H => ?_
  refine AllocO.own H fun b7 w H => ?_
  refine LdO.own H (.tail (.tail .head)) rfl ?_
  refine CondT.dec (fun h1 => ?_) (fun h1 => ?_)
  · have h1 : c.kind = 1 := h1
    have hd1 : doM p.m c hd = insM p.m c hd := by rw [doM, if_pos h1]
    rw [hd1]
    refine LdO.owns H (.tail (.tail (.tail .head))) rfl ?_
    refine LdO.owns H (.tail (.tail .head)) rfl ?_
    refine (refInsert H hp c hd hi hn).mono ?_; intro v w q
    refine q.elim fun h' q => q.elim fun p' q => q.elim fun r q => ?_
    have hle := q.1; have hv := q.2.1; have hp' := q.2.2.1; have hr' := q.2.2.2.1; have hx := q.2.2.2.2.1; have H := q.2.2.2.2.2
    clear q
    subst hv
    refine AllocO.own H fun b8 w H => ?_
    refine AllocO.own H fun b9 w H => ?_
    refine StO.own H (.tail .head) rfl rfl rfl fun w H => ?_
    refine StO.own H .head rfl rfl rfl fun w H => ?_
    refine DrawO.wi H (fun w => Cells w b8 0 p'.row ∧ Cells w b9 0 r.row) (fun w H => ⟨H.cellsMem (.tail _ (.head _)), H.cellsMem (.head _)⟩) (pl [0, 1, 1002, 1003] .nil) (by kernel_rfl) fun w H => ?_
    refine LdQ.cells (fun w h => h.1) rfl ?_
    refine LdQ.cells (fun w h => h.2) rfl ?_
    refine StO.own H (.tail (.tail (.tail .head))) rfl rfl rfl fun w H => ⟨⟨H.cellsMem (.tail _ (.head _)), H.cellsMem (.head _)⟩, ?_⟩
    refine StO.own H (.tail (.tail .head)) rfl rfl rfl fun w H => ⟨⟨H.cellsMem (.tail _ (.head _)), H.cellsMem (.head _)⟩, ?_⟩
    refine LdO.owns H (.tail (.tail (.tail .head))) rfl ?_
    refine LdO.owns H (.tail (.tail .head)) rfl ?_
    exact ⟨h', p', r, hle, rfl, hp', hr', hx, H.tail.tail.tail.tail.tail.tail⟩
  have h1 : ¬ c.kind = 1 := h1
  refine CondT.dec (fun h2 => ?_) (fun h2 => ?_)
  · have h2 : c.kind = 2 := h2
    have hd1 : doM p.m c hd = canM p.m c := by rw [doM, if_neg h1, if_pos h2]
    rw [hd1]
    refine LdO.owns H (.tail (.tail (.tail .head))) rfl ?_
    refine LdO.owns H (.tail (.tail .head)) rfl ?_
    refine (refCancel H hp c hi).mono ?_; intro v w q
    refine q.elim fun h' q => q.elim fun p' q => q.elim fun r q => ?_
    have hle := q.1; have hv := q.2.1; have hp' := q.2.2.1; have hr' := q.2.2.2.1; have hx := q.2.2.2.2.1; have H := q.2.2.2.2.2
    clear q
    subst hv
    refine AllocO.own H fun b8 w H => ?_
    refine AllocO.own H fun b9 w H => ?_
    refine StO.own H (.tail .head) rfl rfl rfl fun w H => ?_
    refine StO.own H .head rfl rfl rfl fun w H => ?_
    refine DrawO.wi H (fun w => Cells w b8 0 p'.row ∧ Cells w b9 0 r.row) (fun w H => ⟨H.cellsMem (.tail _ (.head _)), H.cellsMem (.head _)⟩) (pl [0, 1, 1002, 1003] .nil) (by kernel_rfl) fun w H => ?_
    refine LdQ.cells (fun w h => h.1) rfl ?_
    refine LdQ.cells (fun w h => h.2) rfl ?_
    refine StO.own H (.tail (.tail (.tail .head))) rfl rfl rfl fun w H => ⟨⟨H.cellsMem (.tail _ (.head _)), H.cellsMem (.head _)⟩, ?_⟩
    refine StO.own H (.tail (.tail .head)) rfl rfl rfl fun w H => ⟨⟨H.cellsMem (.tail _ (.head _)), H.cellsMem (.head _)⟩, ?_⟩
    refine LdO.owns H (.tail (.tail (.tail .head))) rfl ?_
    refine LdO.owns H (.tail (.tail .head)) rfl ?_
    exact ⟨h', p', r, hle, rfl, hp', hr', hx, H.tail.tail.tail.tail.tail.tail⟩
  have h2 : ¬ c.kind = 2 := h2
  refine CondT.dec (fun h3 => ?_) (fun h3 => ?_)
  · have h3 : c.kind = 3 := h3
    have hd1 : doM p.m c hd = batM p.m c := by rw [doM, if_neg h1, if_neg h2, if_pos h3]
    rw [hd1]
    refine LdO.owns H (.tail (.tail (.tail .head))) rfl ?_
    refine LdO.owns H (.tail (.tail .head)) rfl ?_
    refine (refBatch H hp c hi).mono ?_; intro v w q
    refine q.elim fun h' q => q.elim fun p' q => q.elim fun r q => ?_
    have hle := q.1; have hv := q.2.1; have hp' := q.2.2.1; have hr' := q.2.2.2.1; have hx := q.2.2.2.2.1; have H := q.2.2.2.2.2
    clear q
    subst hv
    refine AllocO.own H fun b8 w H => ?_
    refine AllocO.own H fun b9 w H => ?_
    refine StO.own H (.tail .head) rfl rfl rfl fun w H => ?_
    refine StO.own H .head rfl rfl rfl fun w H => ?_
    refine DrawO.wi H (fun w => Cells w b8 0 p'.row ∧ Cells w b9 0 r.row) (fun w H => ⟨H.cellsMem (.tail _ (.head _)), H.cellsMem (.head _)⟩) (pl [0, 1, 1002, 1003] .nil) (by kernel_rfl) fun w H => ?_
    refine LdQ.cells (fun w h => h.1) rfl ?_
    refine LdQ.cells (fun w h => h.2) rfl ?_
    refine StO.own H (.tail (.tail (.tail .head))) rfl rfl rfl fun w H => ⟨⟨H.cellsMem (.tail _ (.head _)), H.cellsMem (.head _)⟩, ?_⟩
    refine StO.own H (.tail (.tail .head)) rfl rfl rfl fun w H => ⟨⟨H.cellsMem (.tail _ (.head _)), H.cellsMem (.head _)⟩, ?_⟩
    refine LdO.owns H (.tail (.tail (.tail .head))) rfl ?_
    refine LdO.owns H (.tail (.tail .head)) rfl ?_
    exact ⟨h', p', r, hle, rfl, hp', hr', hx, H.tail.tail.tail.tail.tail.tail⟩
  have h3 : ¬ c.kind = 3 := h3
  rw [doM_bad h1 h2 h3]
  refine LdO.owns H (.tail (.tail (.tail .head))) rfl ?_
  refine StO.own H (.tail .head) rfl rfl rfl fun w H => ?_
  refine StO.own H .head rfl rfl rfl fun w H => ?_
  refine LdO.owns H (.tail .head) rfl ?_
  refine LdO.owns H .head rfl ?_
  exact ⟨h, p, failR 1, Hp.le_refl h, rfl, hp, failR_ok h 1, rfl, H.tail.tail.tail.tail⟩
theorem refAccepts (H : St g h w L) {p : MP} (hp : p.ok h) (c : PQ.Call) {r : RP} (hr : r.ok h) {n : Nat} (hi : Inv n p.m) (hn : n ≤ 1000) (hrl : r.r.evs.length ≤ 4611686018427387904) :
    Ret Try.prog 19 [p.val, callV c, r.val] w fun v w => ∃ (h' : Hp) (p' : MP), h.le h' ∧ v = .tuple #[p'.val, .bool (accM p.m c r.r).2] ∧ p'.ok h' ∧ p'.m = (accM p.m c r.r).1 ∧ St g h' w L := by
  refine Ret.enter tabOk Try.func19 rfl (by rfl) rfl (by rfl) (by kernel_rfl) ?_
  refine AllocO.own H fun b3 w H => ?_
  refine AllocO.own H fun b4 w H => ?_
  refine AllocO.own H fun b5 w H => ?_
  refine AllocO.own H fun b6 w H => ?_
  refine LdO.owns H (.tail (.tail (.tail .head))) rfl ?_
  refine LdO.owns H (.tail (.tail .head)) rfl ?_
  refine LdO.own H (.tail .head) rfl ?_
  refine (refDo H hp c r.r.rh hi hn).mono ?_; intro v w q
  refine q.elim fun h' q => q.elim fun p' q => q.elim fun r' q => ?_
  have hle := q.1; have hv := q.2.1; have hp' := q.2.2.1; have hr' := q.2.2.2.1; have hx := q.2.2.2.2.1; have H := q.2.2.2.2.2
  clear q
  subst hv
  refine AllocO.own H fun b8 w H => ?_
  refine AllocO.own H fun b9 w H => ?_
  refine StO.own H (.tail .head) rfl rfl rfl fun w H => ?_
  refine StO.own H .head rfl rfl rfl fun w H => ?_
  refine LdO.owns H (.tail (.tail (.tail .head))) rfl ?_
  refine LdO.owns H .head rfl ?_
  refine (refEqual H (hr.le hle) hr' hrl).mono ?_; rintro _ w ⟨rfl, H⟩
  have hx1 : p'.m = (doM p.m c r.r.rh).1 := by rw [← hx]
  have hx2 : r'.r = (doM p.m c r.r.rh).2 := by rw [← hx]
  refine CondT.bool (fun h1 => ?_) (fun h1 => ?_)
  · have h1 : ¬ (doM p.m c r.r.rh).2 = r.r := by rw [← hx2, eq_comm]; simpa using h1
    refine LdO.owns H (.tail (.tail (.tail (.tail (.tail .head))))) rfl ?_
    refine StO.own H (.tail (.tail .head)) rfl rfl rfl fun w H => ?_
    refine LdO.owns H (.tail (.tail .head)) rfl ?_
    exact ⟨h', p, hle, Eq.trans (b := .tuple #[p.val, .bool false]) rfl (by rw [accM, if_neg h1]), hp.le hle, by rw [accM, if_neg h1], H.tail.tail.tail.tail.tail.tail⟩
  · have h1 : (doM p.m c r.r.rh).2 = r.r := by rw [← hx2, eq_comm]; simpa using h1
    refine LdO.owns H (.tail .head) rfl ?_
    refine StO.own H (.tail (.tail .head)) rfl rfl rfl fun w H => ?_
    refine LdO.owns H (.tail (.tail .head)) rfl ?_
    exact ⟨h', p', hle, Eq.trans (b := .tuple #[p'.val, .bool true]) rfl (by rw [accM, if_pos h1]), hp', by rw [accM, if_pos h1]; exact hx1, H.tail.tail.tail.tail.tail.tail⟩
end Go.Proofs.Ytbdoinigeaaclaa
