/- The reference's checker: small functions. Conditions: slices are short.
   The reference's Valid. Conditions: none.
   The reference's ready and Replay. Conditions: slices are short.
   The reference's Replay. Conditions: slices are short.
   The reference's search and Check. Conditions: slices are short. -/
import Derived.Test.YtbdoinigeaaclaaW3
set_option linter.all false
namespace Go.Proofs.Ytbdoinigeaaclaa
open Go RL PQ
variable {g : World} {h : Hp} {w : World} {L : List (Nat × Obj)}
theorem refPrecedes (H : St g h w L) (a b : DP) : Ret Try.prog 12 [a.val, b.val] w fun v w' => v = .bool (prec a.d b.d) ∧ St g h w' L := by
  refine Ret.enter tabOk Try.func12 rfl (by rfl) rfl (by rfl) (by kernel_rfl) ?_
  refine AllocO.own H fun b1 w1 H => ?_
  refine AllocO.own H fun b2 w2 H => ?_
  refine LdO.own H (.tail .head) rfl ?_
  refine LdO.own H .head rfl ?_
  exact ⟨rfl, H.tail.tail⟩
theorem refHas17 (H : St g h w L) {sv : Value} {xs : List Int} (hs : IntS h sv xs) (hl : xs.length ≤ 9223372036854775807) (x : Int) :
    Ret Try.prog 32 [sv, .int .i64 x] w fun v w' => v = .bool (xs.contains x) ∧ St g h w' L := by
  refine Ret.enter tabOk Try.func32 rfl (by rfl) rfl (by rfl) (by kernel_rfl) ?_
  obtain ⟨a, cap, rfl⟩ := hs.lenM
  refine LoopO.run (σ := Nat) (fun i => [(0, .slice a xs.length cap), (1, .int .i64 x), (5, .int .i64 i)])
    (fun i w => St g h w L ∧ i ≤ xs.length ∧ ∀ j (hj : j < i) (hx : j < xs.length), xs[j] ≠ x) (fun i => xs.length - i) 0 (by exact ⟨rfl, rfl, rfl, trivial⟩) ⟨H, Nat.zero_le _, fun j hj => absurd hj (Nat.not_lt_zero j)⟩ ?_
  rintro i w e ⟨H, hi, hno⟩
  refine CondT.dec (fun hlt => ?_) (fun hge => ?_)
  · have hlt' : i < xs.length := by omega
    obtain ⟨b, o, hidx, hrow⟩ := hs.idxM hlt'
    refine hidx _ _ _ rfl ?_
    refine LdO.hc H hrow (j := 0) rfl ?_
    refine CondT.dec (fun ht => ?_) (fun ht => ?_)
    · exact ⟨Eq.trans (b := .bool true) rfl (by rw [Eq.comm, Value.bool.injEq, List.contains_iff_mem, ← ht]; exact List.getElem_mem hlt'), H⟩
    · refine ArO.i64 ?_
      refine ⟨rfl, i + 1, ⟨rfl, rfl, rfl, trivial⟩, ⟨H, by omega, fun j hj hx => ?_⟩, by omega⟩
      rcases Nat.lt_or_ge j i with hji | hji
      · exact hno j hji hx
      · have : j = i := by omega
        subst this
        exact ht
  · refine ⟨Eq.trans (b := .bool false) rfl (congrArg Value.bool (Eq.symm ?_)), H⟩
    cases hc : xs.contains x with
    | false => rfl
    | true =>
      rw [List.contains_iff_mem] at hc
      obtain ⟨j, hj, hx⟩ := List.mem_iff_getElem.1 hc
      exact absurd hx (hno j (by omega) hj)
theorem refSame (H : St g h w L) {v1 v2 : Value} {l1 l2 : List Int} (h1 : IntS h v1 l1) (h2 : IntS h v2 l2) (hl : l1.length ≤ 9223372036854775807) :
    Ret Try.prog 15 [v1, v2] w fun v w' => v = .bool (decide (l1 = l2)) ∧ St g h w' L := by
  refine Ret.enter tabOk Try.func15 rfl (by rfl) rfl (by rfl) (by kernel_rfl) ?_
  obtain ⟨a1, cap1, rfl⟩ := h1.lenM
  obtain ⟨a2, cap2, rfl⟩ := h2.lenM
  refine CondT.dec (fun hne => ?_) (fun heq => ?_)
  · exact ⟨Eq.trans (b := .bool false) rfl (by rw [decide_eq_false]; rintro rfl; exact hne rfl), H⟩
  have hll : l1.length = l2.length := by have := Classical.not_not.1 heq; omega
  refine LoopO.run (σ := Nat) (fun i => [(0, .slice a1 l1.length cap1), (1, .slice a2 l2.length cap2), (5, .int .i64 i)])
    (fun i w => St g h w L ∧ i ≤ l1.length ∧ ∀ j (hj : j < i) (hx : j < l1.length), l1[j] = l2[j]) (fun i => l1.length - i) 0 (by exact ⟨rfl, rfl, rfl, trivial⟩) ⟨H, Nat.zero_le _, fun j hj => absurd hj (Nat.not_lt_zero j)⟩ ?_
  rintro i w e ⟨H, hi, hno⟩
  refine CondT.dec (fun hlt => ?_) (fun hge => ?_)
  · have hlt1 : i < l1.length := by omega
    have hlt2 : i < l2.length := by omega
    obtain ⟨b1, o1, hidx1, hrow1⟩ := h1.idxM hlt1
    obtain ⟨b2, o2, hidx2, hrow2⟩ := h2.idxM hlt2
    refine DrawO.st H (pl [0, 1, 2, 3, 4, 5, 6, 7, 8] .nil) (by kernel_rfl) fun w H => ?_
    refine hidx1 _ _ _ rfl ?_
    refine LdQ.hc hrow1 (j := 0) rfl ?_
    refine hidx2 _ _ _ rfl ?_
    refine LdQ.hc hrow2 (j := 0) rfl ?_
    refine CondT.dec (fun h3 => ?_) (fun h3 => ?_)
    · exact ⟨Eq.trans (b := .bool false) rfl (by rw [decide_eq_false]; rintro rfl; exact h3 rfl), H⟩
    · refine ArO.i64 ?_
      refine ⟨rfl, i + 1, ⟨rfl, rfl, rfl, trivial⟩, ⟨H, by omega, fun j hj hx => ?_⟩, by omega⟩
      rcases Nat.lt_or_ge j i with hji | hji
      · exact hno j hji hx
      · have : j = i := by omega
        subst this
        exact Classical.not_not.1 h3
  · exact ⟨Eq.trans (b := .bool true) rfl (by rw [decide_eq_true]; exact List.ext_getElem hll (fun j hj hj' => hno j (by omega) hj)), H⟩
end Go.Proofs.Ytbdoinigeaaclaa
namespace Go.Proofs.Ytbdoinigeaaclaa
open Go RL PQ
variable {g : World} {h : Hp} {w : World} {L : List (Nat × Obj)}
theorem refValid (H : St g h w L) {sv : Value} {l : List DP} (hs : DnS h sv l) : Ret Try.prog 10 [sv] w fun v w' => v = .bool (validL (ds l)) ∧ St g h w' L := by
  refine Ret.enter tabOk Try.func10 rfl (by rfl) rfl (by rfl) (by kernel_rfl) ?_
  obtain ⟨a, cap, rfl⟩ := hs.sl.lenM
  have hdl : (ds l).length = l.length := by simp [ds]
  refine CondT.dec (fun h1 => ?_) (fun h1 => ?_)
  · exact ⟨Eq.trans (b := .bool false) rfl (by rw [validL_long (by omega)]), H⟩
  have hl10 : l.length ≤ 10 := by omega
  refine LoopO.run (σ := Nat) (fun i => [(0, .slice a l.length cap), (3, .int .i64 i)])
    (fun i w => St g h w L ∧ i ≤ l.length ∧ ∀ j, j < i → okAt (ds l) j = true) (fun i => l.length - i) 0 (by exact ⟨rfl, rfl, trivial⟩) ⟨H, Nat.zero_le _, fun j hj => absurd hj (Nat.not_lt_zero j)⟩ ?_
  rintro i w e ⟨H, hi, hno⟩
  refine CondT.dec (fun hlt => ?_) (fun hge => ?_)
  · have hlt' : i < l.length := by omega
    obtain ⟨b, o, hidx, hrow⟩ := hs.sl.idxM hlt'
    have hget : (ds l)[i]? = some l[i].d := by simp [ds, hlt']
    have hok : okAt (ds l) i = (decide (0 ≤ l[i].d.beg) && decide (l[i].d.beg ≤ l[i].d.fin) && decide (l[i].d.fin ≤ 1099511627776) && !((l.take i).any fun b => decide (l[i].d.thread = b.d.thread) && overl l[i].d b.d)) := by
      rw [okAt, hget]; simp only [any_ds]
    have hno' : okAt (ds l) i = false → validL (ds l) = false := fun h => validL_not (by omega) h
    refine DrawO.st H (pl [0, 1, 2, 3, 4, 5, 6, 7, 8, 9, 10, 11, 12, 13, 14, 15, 16, 17, 18, 19, 20, 21, 22, 23, 24, 25, 26] .nil) (by kernel_rfl) fun w H => ?_
    refine hidx _ _ _ rfl ?_
    refine LdQ.hc hrow (j := 10) rfl ?_
    refine CondT.dec (fun h2 => ?_) (fun h2 => ?_)
    · refine CondT.mk ?_
      refine CondT.mk ?_
      exact ⟨Eq.trans (b := .bool false) rfl (by rw [hno' (by rw [hok, decide_eq_false (show ¬ 0 ≤ l[i].d.beg by omega)]; rfl)]), H⟩
    refine hidx _ _ _ rfl ?_
    refine LdQ.hc hrow (j := 10) rfl ?_
    refine hidx _ _ _ rfl ?_
    refine LdQ.hc hrow (j := 12) rfl ?_
    refine CondT.dec (fun h3 => ?_) (fun h3 => ?_)
    · refine CondT.mk ?_
      exact ⟨Eq.trans (b := .bool false) rfl (by rw [hno' (by rw [hok, decide_eq_false (show ¬ l[i].d.beg ≤ l[i].d.fin by omega), Bool.and_false]; rfl)]), H⟩
    refine hidx _ _ _ rfl ?_
    refine LdQ.hc hrow (j := 12) rfl ?_
    refine CondT.dec (fun h4 => ?_) (fun h4 => ?_)
    · exact ⟨Eq.trans (b := .bool false) rfl (by rw [hno' (by rw [hok, decide_eq_false (show ¬ l[i].d.fin ≤ 1099511627776 by omega), Bool.and_false]; rfl)]), H⟩
    have hok2 : okAt (ds l) i = !((l.take i).any fun b => decide (l[i].d.thread = b.d.thread) && overl l[i].d b.d) := by
      rw [hok, decide_eq_true (show 0 ≤ l[i].d.beg by omega), decide_eq_true (show l[i].d.beg ≤ l[i].d.fin by omega), decide_eq_true (show l[i].d.fin ≤ 1099511627776 by omega)]; rfl
    refine LoopO.run (σ := Nat) (fun j => [(0, .slice a l.length cap), (3, .int .i64 i), (4, .int .i64 j)])
      (fun j w => St g h w L ∧ j ≤ i ∧ ∀ k (hk : k < j) (hx : k < l.length), (decide (l[i].d.thread = l[k].d.thread) && overl l[i].d l[k].d) = false) (fun j => i - j) 0 (by exact ⟨rfl, rfl, rfl, trivial⟩) ⟨H, Nat.zero_le _, fun j hj => absurd hj (Nat.not_lt_zero j)⟩ ?_
    rintro j w e ⟨H, hj, hnj⟩
    refine CondT.dec (fun hlt => ?_) (fun hge => ?_)
    · have hji : j < i := by omega
      have hjl : j < l.length := by omega
      obtain ⟨b2, o2, hidx2, hrow2⟩ := hs.sl.idxM hjl
      have bad : (decide (l[i].d.thread = l[j].d.thread) && overl l[i].d l[j].d) = true → validL (ds l) = false := fun hb => hno' (by
        rw [hok2]
        have : ((l.take i).any fun b => decide (l[i].d.thread = b.d.thread) && overl l[i].d b.d) = true := by
          rw [List.any_eq_true]
          exact ⟨l[j], by rw [List.mem_take_iff_getElem]; exact ⟨j, by omega, rfl⟩, hb⟩
        rw [this]; rfl)
      have next : (decide (l[i].d.thread = l[j].d.thread) && overl l[i].d l[j].d) = false → ∀ k (hk : k < j + 1) (hx : k < l.length), (decide (l[i].d.thread = l[k].d.thread) && overl l[i].d l[k].d) = false := fun hb k hk hx => by
        rcases Nat.lt_or_ge k j with hkj | hkj
        · exact hnj k hkj hx
        · have : k = j := by omega
          subst this
          exact hb
      refine DrawO.st H (pl [0, 1, 2, 3, 4, 5, 6, 7, 8, 9, 10, 11, 12, 13, 14, 15, 16, 17, 18, 19, 1020, 21, 22, 23, 24, 25, 26, 27, 28, 29, 30, 31, 1032, 33, 34] .nil) (by kernel_rfl) fun w H => ?_
      refine hidx2 _ _ _ rfl ?_
      refine LdQ.hc hrow2 (j := 0) rfl ?_
      refine hidx _ _ _ rfl ?_
      refine LdQ.hc hrow (j := 0) rfl ?_
      refine CondT.dec (fun h5 => ?_) (fun h5 => ?_)
      · have h5' : l[i].d.thread = l[j].d.thread := Eq.symm h5
        refine hidx _ _ _ rfl ?_
        refine LdQ.hrow hrow rfl ?_
        refine hidx2 _ _ _ rfl ?_
        refine LdQ.hrow hrow2 rfl ?_
        refine (refPrecedes H l[i] l[j]).mono ?_; rintro _ w ⟨rfl, H⟩; refine ⟨H, ?_⟩
        refine CondT.bool (fun h6 => ?_) (fun h6 => ?_)
        · refine hidx2 _ _ _ rfl ?_
          refine LdQ.hrow hrow2 rfl ?_
          refine hidx _ _ _ rfl ?_
          refine LdQ.hrow hrow rfl ?_
          refine (refPrecedes H l[j] l[i]).mono ?_; rintro _ w ⟨rfl, H⟩; refine ⟨H, ?_⟩
          refine CondT.bool (fun h7 => ?_) (fun h7 => ?_)
          · exact ⟨Eq.trans (b := .bool false) rfl (by rw [bad (by rw [decide_eq_true h5', overl, h7]; simpa using h6)]), H⟩
          · refine ArO.i64 ?_
            exact ⟨rfl, j + 1, ⟨rfl, rfl, rfl, trivial⟩, ⟨H, hji, next (by rw [overl, h7]; simp)⟩, by omega⟩
        · refine CondT.mk ?_
          refine ArO.i64 ?_
          exact ⟨rfl, j + 1, ⟨rfl, rfl, rfl, trivial⟩, ⟨H, hji, next (by rw [overl, h6]; simp)⟩, by omega⟩
      · refine CondT.mk ?_
        refine CondT.mk ?_
        refine ArO.i64 ?_
        exact ⟨rfl, j + 1, ⟨rfl, rfl, rfl, trivial⟩, ⟨H, hji, next (by rw [decide_eq_false (fun hh => h5 (Eq.symm hh))]; rfl)⟩, by omega⟩
    · refine ArO.i64 ?_
      have hij : j = i := by omega
      subst hij
      refine ⟨rfl, j + 1, ⟨rfl, rfl, trivial⟩, ⟨H, hlt', fun k hk => ?_⟩, by omega⟩
      rcases Nat.lt_or_ge k j with hkj | hkj
      · exact hno k hkj
      · have : k = j := by omega
        subst this
        rw [hok2, Bool.not_eq_true', List.any_eq_false]
        intro x hx
        obtain ⟨m, hm, rfl⟩ := List.mem_take_iff_getElem.1 hx
        rw [hnj m (by omega) (by omega)]; simp
  · refine ⟨Eq.trans (b := .bool true) rfl ?_, H⟩
    rw [validL_of (by omega) (fun j hj => hno j (by omega))]
end Go.Proofs.Ytbdoinigeaaclaa
namespace Go.Proofs.Ytbdoinigeaaclaa
open Go RL PQ
variable {g : World} {h : Hp} {w : World} {L : List (Nat × Obj)}
def oi (l : List Nat) : List Int := l.map fun (n : Nat) => (n : Int)
theorem oi_contains (l : List Nat) (i : Nat) : (oi l).contains (i : Int) = l.contains i := by
  rw [Bool.eq_iff_iff, List.contains_iff_mem, List.contains_iff_mem, oi, List.mem_map]
  constructor
  · rintro ⟨a, ha, he⟩; have : a = i := by omega
    subst this; exact ha
  · intro h; exact ⟨i, h, rfl⟩
theorem oi_length (l : List Nat) : (oi l).length = l.length := by simp [oi]
theorem dat_ds {l : List DP} {i : Nat} (h : i < l.length) : dat (ds l) i = l[i].d := by simp [dat, ds, h]
theorem ds_length (l : List DP) : (ds l).length = l.length := by simp [ds]
theorem refReady (H : St g h w L) {sv ov : Value} {l : List DP} (hs : DnS h sv l) (hl : l.length ≤ 1000) {ord : List Nat} (ho : IntS h ov (oi ord)) (hol : ord.length ≤ 1000) {i : Nat} (hi : i < l.length) :
    Ret Try.prog 38 [sv, ov, .int .i64 i] w fun v w' => v = .bool (readyL (ds l) ord i) ∧ St g h w' L := by
  have hoil := oi_length ord
  refine Ret.enter tabOk Try.func38 rfl (by rfl) rfl (by rfl) (by kernel_rfl) ?_
  obtain ⟨a, cap, rfl⟩ := hs.sl.lenM
  refine (refHas17 H ho (by omega) i).mono ?_; rintro _ w ⟨rfl, H⟩
  have hc0 := oi_contains ord i
  refine CondT.bool (fun h1 => ?_) (fun h1 => ?_)
  · exact ⟨Eq.trans (b := .bool false) rfl (by rw [readyL, ← hc0, h1]; rfl), H⟩
  refine LoopO.run (σ := Nat) (fun j => [(0, .slice a l.length cap), (1, ov), (2, .int .i64 i), (7, .int .i64 j)])
    (fun j w => St g h w L ∧ j ≤ l.length ∧ ∀ k (hk : k < j) (hx : k < l.length), (ord.contains k || !prec l[k].d l[i].d) = true) (fun j => l.length - j) 0 (by exact ⟨rfl, rfl, rfl, rfl, trivial⟩) ⟨H, Nat.zero_le _, fun j hj => absurd hj (Nat.not_lt_zero j)⟩ ?_
  rintro j w e ⟨H, hj, hnj⟩
  refine CondT.dec (fun hlt => ?_) (fun hge => ?_)
  · have hjl : j < l.length := by omega
    obtain ⟨b, o, hidx, hrow⟩ := hs.sl.idxM hi
    obtain ⟨b2, o2, hidx2, hrow2⟩ := hs.sl.idxM hjl
    have bad : (ord.contains j || !prec l[j].d l[i].d) = false → readyL (ds l) ord i = false := fun hb => by
      rw [readyL, Bool.and_eq_false_iff]
      right
      rw [List.all_eq_false]
      refine ⟨j, by rw [List.mem_range, ds_length]; exact hjl, ?_⟩
      rw [dat_ds hjl, dat_ds hi, hb]; simp
    have next : (ord.contains j || !prec l[j].d l[i].d) = true → ∀ k (hk : k < j + 1) (hx : k < l.length), (ord.contains k || !prec l[k].d l[i].d) = true := fun hb k hk hx => by
      rcases Nat.lt_or_ge k j with hkj | hkj
      · exact hnj k hkj hx
      · have : k = j := by omega
        subst this
        exact hb
    have hcj := oi_contains ord j
    refine DrawO.st H (pl [0, 1, 1002, 3, 4, 5, 6, 7, 8, 9, 10, 11, 12, 1013, 14] .nil) (by kernel_rfl) fun w H => ?_
    refine (refHas17 H ho (by omega) j).mono ?_; rintro _ w ⟨rfl, H⟩; refine ⟨H, ?_⟩
    refine CondT.bool (fun h2 => ?_) (fun h2 => ?_)
    · have h2 : ord.contains j = false := by rw [← hcj]; simpa using h2
      refine hidx2 _ _ _ rfl ?_
      refine LdQ.hrow hrow2 rfl ?_
      refine hidx _ _ _ rfl ?_
      refine LdQ.hrow hrow rfl ?_
      refine (refPrecedes H l[j] l[i]).mono ?_; rintro _ w ⟨rfl, H⟩; refine ⟨H, ?_⟩
      refine CondT.bool (fun h3 => ?_) (fun h3 => ?_)
      · exact ⟨Eq.trans (b := .bool false) rfl (by rw [bad (by rw [h2, h3]; rfl)]), H⟩
      · refine ArO.i64 ?_
        exact ⟨rfl, j + 1, ⟨rfl, rfl, rfl, rfl, trivial⟩, ⟨H, hjl, next (by rw [h3]; simp)⟩, by omega⟩
    · have h2 : ord.contains j = true := by rw [← hcj]; simpa using h2
      refine CondT.mk ?_
      refine ArO.i64 ?_
      exact ⟨rfl, j + 1, ⟨rfl, rfl, rfl, rfl, trivial⟩, ⟨H, hjl, next (by rw [h2]; rfl)⟩, by omega⟩
  · refine ⟨Eq.trans (b := .bool true) rfl (congrArg Value.bool (Eq.symm ?_)), H⟩
    rw [readyL, ← hc0, h1, Bool.not_false, Bool.true_and, List.all_eq_true]
    intro k hk
    rw [List.mem_range, ds_length] at hk
    rw [dat_ds hk, dat_ds hi]
    exact hnj k (by omega) hk
end Go.Proofs.Ytbdoinigeaaclaa
namespace Go.Proofs.Ytbdoinigeaaclaa
open Go RL PQ
variable {g : World} {h : Hp} {w : World} {L : List (Nat × Obj)}
def DP.rp (p : DP) : RP := ⟨p.d.res, p.ea, p.ec⟩
theorem repL_cons {l : List Done} {m : Mod} {seen : List Int} {i : Int} {r : List Int} : repL l m seen (i :: r) =
    if i < 0 ∨ (l.length : Int) ≤ i ∨ seen.contains i = true then none
    else if seen.any (fun j => prec (dat l i.toNat) (dat l j.toNat)) = true then none
    else if (accM m (dat l i.toNat).call (dat l i.toNat).res).2 = true then repL l (accM m (dat l i.toNat).call (dat l i.toNat).res).1 (seen ++ [i]) r
    else none := rfl
structure RepS where
  i : Nat
  p : MP
  h : Hp
theorem refReplay (H : St g h w L) (cap : Int) {sv ov : Value} {l : List DP} (hs : DnS h sv l) (hl : l.length ≤ 900) (hev : ∀ p ∈ l, p.d.res.evs.length ≤ 1000) {ord : List Int} (ho : IntS h ov ord) (hol : ord.length ≤ 9223372036854775807) :
    Ret Try.prog 17 [.int .i64 cap, sv, ov] w fun v w' => v = .bool (replayL cap (ds l) ord) ∧ St g h w' L := by
  have hdl := ds_length l
  refine Ret.enter tabOk Try.func17 rfl (by rfl) rfl (by rfl) (by kernel_rfl) ?_
  obtain ⟨a, sc, rfl⟩ := hs.sl.lenM
  obtain ⟨oa, oc, rfl⟩ := ho.lenM
  refine (refNew H cap).mono ?_; intro v w q
  have hv := q.1; have H := q.2; clear q
  by_cases hcb : cap < 1 ∨ 64 < cap
  · rw [if_pos hcb] at hv; subst hv
    refine AllocO.own H fun b7 w H => ?_
    refine StO.own H .head rfl rfl rfl fun w H => ?_
    refine CondT.dec (fun _ => ?_) (fun hh => absurd (show (1 : Int) ≠ 0 by decide) hh)
    refine CondT.mk ?_
    exact ⟨Eq.trans (b := .bool false) rfl (by rw [replayL, if_pos (.inl hcb)]), H.tail⟩
  rw [if_neg hcb] at hv; subst hv
  refine AllocO.own H fun b7 w H => ?_
  refine StO.own H .head rfl rfl rfl fun w H => ?_
  refine CondT.dec (fun hh => absurd rfl hh) (fun _ => ?_)
  refine CondT.dec (fun h1 => ?_) (fun h1 => ?_)
  · exact ⟨Eq.trans (b := .bool false) rfl (by rw [replayL, if_pos (.inr (by rw [hdl]; omega))]), H.tail⟩
  have hle0 : ord.length = l.length := by have := Classical.not_not.1 h1; omega
  have hfull : replayL cap (ds l) ord = (repL (ds l) (newM cap) [] ord).isSome := by
    rw [replayL, if_neg (by rintro (hh | hh); exact hcb hh; exact hh (by omega))]; rfl
  refine LoopO.run (σ := RepS) (fun s => [(1, .slice a l.length sc), (2, .slice oa ord.length oc), (7, .pointer (some ⟨b7, 0, none⟩)), (9, .int .i64 s.i)])
    (fun s w => h.le s.h ∧ s.p.ok s.h ∧ St g s.h w ((b7, .cells s.p.row.toArray 46 (0, 0)) :: L) ∧ s.i ≤ ord.length ∧ Inv s.i s.p.m ∧ (∀ k (hk : k < s.i), 0 ≤ (ord[k]?).getD 0 ∧ (ord[k]?).getD 0 < l.length) ∧ repL (ds l) (newM cap) [] ord = repL (ds l) s.p.m (ord.take s.i) (ord.drop s.i))
    (fun s => ord.length - s.i) ⟨0, newP cap, h⟩ (by exact ⟨rfl, rfl, rfl, rfl, trivial⟩)
    ⟨Hp.le_refl h, newP_ok h cap, H, Nat.zero_le _, newInv (by omega) (by omega), fun k hk => absurd hk (Nat.not_lt_zero k), rfl⟩ ?_
  rintro ⟨i, p, h'⟩ w e ⟨hle, hp, H, hi, hinv, hin, hrep⟩
  simp only at hle hp H hi hinv hin hrep
  refine CondT.dec (fun hlt => ?_) (fun hge => ?_)
  · have hlt' : i < ord.length := by simp only at hlt; omega
    have hdrop : ord.drop i = ord[i] :: ord.drop (i + 1) := List.drop_eq_getElem_cons hlt'
    have hsn : ord.take (i + 1) = ord.take i ++ [ord[i]] := by rw [List.take_succ_eq_append_getElem hlt']
    have hfin : replayL cap (ds l) ord = (repL (ds l) p.m (ord.take i) (ord[i] :: ord.drop (i + 1))).isSome := by rw [hfull, hrep, hdrop]
    rw [hdrop] at hrep
    obtain ⟨bo, oo, hidxo, hrowo⟩ := ho.idxM hlt'
    refine hidxo _ _ _ rfl ?_
    refine LdO.hc H (hrowo.le hle) (j := 0) rfl ?_
    have hseen : ((ord.map intR).take i).length = i := by rw [List.length_take, List.length_map]; omega
    refine CondT.dec (fun h2 => ?_) (fun h2 => ?_)
    · refine CondT.mk ?_
      exact ⟨Eq.trans (b := .bool false) rfl (by rw [hfin, repL_cons, if_pos (.inl h2)]; rfl), (H.less hle).tail⟩
    refine CondT.dec (fun h3 => ?_) (fun h3 => ?_)
    · exact ⟨Eq.trans (b := .bool false) rfl (by rw [hfin, repL_cons, if_pos (.inr (.inl (by rw [hdl]; omega)))]; rfl), (H.less hle).tail⟩
    refine Sl.takeO (n := i) ho (by rw [List.length_map]; omega) fun vT hsT => ?_
    have hsT : IntS h' vT (ord.take i) := by
      show Sl h' 1 vT ((ord.take i).map intR)
      rw [List.map_take]; exact hsT.le hle
    have htl : (ord.take i).length = i := by rw [List.length_take]; omega
    refine (refHas17 H hsT (by omega) ord[i]).mono ?_; intro v w q
    have hv := q.1; have H := q.2; clear q; subst hv
    refine CondT.bool (fun h4 => ?_) (fun h4 => ?_)
    · exact ⟨Eq.trans (b := .bool false) rfl (by rw [hfin, repL_cons, if_pos (.inr (.inr h4))]; rfl), (H.less hle).tail⟩
    have hx : ∃ x : Nat, ord[i] = (x : Int) := ⟨ord[i].toNat, by omega⟩
    refine hx.elim fun x hx => ?_
    have hxl : x < l.length := by omega
    have hdx : dat (ds l) ord[i].toNat = l[x].d := by rw [hx]; exact dat_ds hxl
    have hc0 : ¬ (ord[i] < 0 ∨ ((ds l).length : Int) ≤ ord[i] ∨ (ord.take i).contains ord[i] = true) := by
      rw [hdl, h4]; simp; omega
    have hmid : repL (ds l) p.m (ord.take i) (ord[i] :: ord.drop (i + 1)) = if (ord.take i).any (fun j => prec l[x].d (dat (ds l) j.toNat)) = true then none else if (accM p.m l[x].d.call l[x].d.res).2 = true then repL (ds l) (accM p.m l[x].d.call l[x].d.res).1 (ord.take i ++ [ord[i]]) (ord.drop (i + 1)) else none := by
      rw [repL_cons, if_neg hc0, hdx]
    obtain ⟨bx, ox, hidxx, hrowx⟩ := hs.sl.idxM hxl
    have hrowx := hrowx.le hle
    refine LoopO.run (σ := Nat) (fun j => [(1, .slice a l.length sc), (2, .slice oa ord.length oc), (7, .pointer (some ⟨b7, 0, none⟩)), (9, .int .i64 i), (10, .int .i64 ord[i]), (11, .int .i64 j)])
      (fun j w => St g h' w ((b7, .cells p.row.toArray 46 (0, 0)) :: L) ∧ j ≤ i ∧ ∀ k (hk : k < j), prec l[x].d (dat (ds l) ((ord[k]?).getD 0).toNat) = false) (fun j => i - j) 0 (by exact ⟨rfl, rfl, rfl, rfl, rfl, rfl, trivial⟩) ⟨H, Nat.zero_le _, fun j hj => absurd hj (Nat.not_lt_zero j)⟩ ?_
    rintro j w e ⟨H, hj, hnj⟩
    refine CondT.dec (fun hlt2 => ?_) (fun hge2 => ?_)
    · have hji : j < i := by omega
      have hjo : j < ord.length := by omega
      obtain ⟨b3, o3, hidx3, hrow3⟩ := ho.idxM hjo
      have hgj : (ord[j]?).getD 0 = ord[j] := by simp [hjo]
      have hr := hin j hji
      rw [hgj] at hr
      have hy : ∃ y : Nat, ord[j] = (y : Int) := ⟨ord[j].toNat, by omega⟩
      refine hy.elim fun y hy => ?_
      have hyl : y < l.length := by omega
      have hdy : dat (ds l) ((ord[j]?).getD 0).toNat = l[y].d := by rw [hgj, hy]; exact dat_ds hyl
      obtain ⟨b4, o4, hidx4, hrow4⟩ := hs.sl.idxM hyl
      refine DrawO.st H (pl [0, 1, 2, 3, 4, 5, 6, 7, 8, 9, 10, 1011] .nil) (by kernel_rfl) fun w H => ?_
      refine hidxx _ _ _ hx ?_
      refine LdQ.hrow hrowx rfl ?_
      refine hidx3 _ _ _ rfl ?_
      refine LdQ.hc (hrow3.le hle) (j := 0) rfl ?_
      refine hidx4 _ _ _ hy ?_
      refine LdQ.hrow (hrow4.le hle) rfl ?_
      refine (refPrecedes H l[x] l[y]).mono ?_; intro v w q
      have hv := q.1; have H := q.2; clear q; subst hv
      refine ⟨H, ?_⟩
      refine CondT.bool (fun h5 => ?_) (fun h5 => ?_)
      · have hany : (ord.take i).any (fun j => prec l[x].d (dat (ds l) j.toNat)) = true := by
          rw [List.any_eq_true]
          refine ⟨ord[j], by rw [List.mem_take_iff_getElem]; exact ⟨j, by omega, rfl⟩, ?_⟩
          rw [← hgj, hdy]; exact h5
        exact ⟨Eq.trans (b := .bool false) rfl (by rw [hfin, hmid, if_pos hany]; rfl), (H.less hle).tail⟩
      · refine ArO.i64 ?_
        refine ⟨rfl, j + 1, ⟨rfl, rfl, rfl, rfl, rfl, rfl, trivial⟩, ⟨H, hji, fun k hk => ?_⟩, by omega⟩
        rcases Nat.lt_or_ge k j with hkj | hkj
        · exact hnj k hkj
        · have : k = j := by omega
          subst this
          rw [hdy]; exact h5
    have hij : i = j := by omega
    subst hij
    have hany : ¬ (ord.take i).any (fun k => prec l[x].d (dat (ds l) k.toNat)) = true := by
      rw [List.any_eq_true]
      rintro ⟨z, hz, hp⟩
      obtain ⟨k, hk, rfl⟩ := List.mem_take_iff_getElem.1 hz
      have := hnj k (by omega)
      have hgk : (ord[k]?).getD 0 = ord[k] := by rw [List.getElem?_eq_getElem (by omega)]; rfl
      rw [hgk] at this
      rw [this] at hp; cases hp
    have hstep := hmid
    rw [if_neg hany] at hstep
    have hrok : (l[x].rp).ok h' := Sl.le (hs.ev _ (List.getElem_mem hxl)) hle
    have hrl : (l[x].rp).r.evs.length ≤ 4611686018427387904 := by have := hev _ (List.getElem_mem hxl); show l[x].d.res.evs.length ≤ _; omega
    refine DrawO.st H (pl [0, 1, 2, 3, 4, 5, 6, 7, 8, 9, 10] (.ll 11 (pl [12, 13, 14, 1015, 1016, 17] .nil) 15 (pl [1011, 12, 13, 14, 1016, 17] .nil))) (by kernel_rfl) fun w H => ?_
    refine LdQ.owns .head rfl ?_
    refine hidxx _ _ _ hx ?_
    refine LdQ.hcs hrowx (j := 1) rfl ?_
    refine hidxx _ _ _ hx ?_
    refine LdQ.hcs hrowx (j := 6) rfl ?_
    refine ⟨?_, ?_⟩
    · refine (refAccepts H hp l[x].d.call hrok hinv (by omega) hrl).mono ?_; intro v w q
      refine q.elim fun h2 q => q.elim fun p' q => ?_
      have hle2 := q.1; have hv := q.2.1; have hp' := q.2.2.1; have hpm := q.2.2.2.1; have H := q.2.2.2.2
      clear q
      subst hv
      refine ⟨H.less hle2, ?_⟩
      refine AllocO.own H fun b12 w H => ⟨(H.less hle2).tail, ?_⟩
      refine StO.own H .head rfl rfl rfl fun w H => ⟨(H.less hle2).tail, ?_⟩
      refine CondT.bool (fun h7 => ?_) (fun h7 => ?_)
      · have h7' : (!(accM p.m l[x].d.call l[x].d.res).2) = true := h7
        have h7 : ¬ (accM p.m l[x].d.call l[x].d.res).2 = true := by simpa using h7'
        exact ⟨Eq.trans (b := .bool false) rfl (by rw [hfin, hstep, if_neg h7]; rfl), (H.less (Hp.le_trans hle hle2)).tail.tail⟩
      · have h7' : (!(accM p.m l[x].d.call l[x].d.res).2) = false := h7
        have h7 : (accM p.m l[x].d.call l[x].d.res).2 = true := by simpa using h7'
        refine LdO.owns H .head rfl ?_
        refine StO.own H (.tail .head) rfl rfl rfl fun w H => ?_
        refine ArO.i64 ?_
        refine ⟨rfl, ⟨i + 1, p', h2⟩, ⟨rfl, rfl, rfl, rfl, trivial⟩, ⟨Hp.le_trans hle hle2, hp', H.tail, hlt', ?_, ?_, ?_⟩, by simp only; omega⟩
        · rw [hpm]; exact hinv.acc _ _
        · intro k hk
          have hk : k < i + 1 := hk
          rcases Nat.lt_or_ge k i with hki | hki
          · exact hin k hki
          · have : k = i := by omega
            subst this
            rw [List.getElem?_eq_getElem hlt', Option.getD_some]
            omega
        · show repL (ds l) (newM cap) [] ord = repL (ds l) p'.m (ord.take (i + 1)) (ord.drop (i + 1))
          rw [hrep, hstep, if_pos h7, hpm, hsn]; rfl
    · refine AllocO.own H fun b12 w H => ⟨H.tail, ?_⟩
      refine (refAccepts H hp l[x].d.call hrok hinv (by omega) hrl).mono ?_; intro v w q
      refine q.elim fun h2 q => q.elim fun p' q => ?_
      have hle2 := q.1; have hv := q.2.1; have hp' := q.2.2.1; have hpm := q.2.2.2.1; have H := q.2.2.2.2
      clear q
      subst hv
      refine ⟨(H.less hle2).tail, ?_⟩
      refine StO.own H .head rfl rfl rfl fun w H => ⟨(H.less hle2).tail, ?_⟩
      refine CondT.bool (fun h7 => ?_) (fun h7 => ?_)
      · have h7' : (!(accM p.m l[x].d.call l[x].d.res).2) = true := h7
        have h7 : ¬ (accM p.m l[x].d.call l[x].d.res).2 = true := by simpa using h7'
        exact ⟨Eq.trans (b := .bool false) rfl (by rw [hfin, hstep, if_neg h7]; rfl), (H.less (Hp.le_trans hle hle2)).tail.tail⟩
      · have h7' : (!(accM p.m l[x].d.call l[x].d.res).2) = false := h7
        have h7 : (accM p.m l[x].d.call l[x].d.res).2 = true := by simpa using h7'
        refine LdO.owns H .head rfl ?_
        refine StO.own H (.tail .head) rfl rfl rfl fun w H => ?_
        refine ArO.i64 ?_
        refine ⟨rfl, ⟨i + 1, p', h2⟩, ⟨rfl, rfl, rfl, rfl, trivial⟩, ⟨Hp.le_trans hle hle2, hp', H.tail, hlt', ?_, ?_, ?_⟩, by simp only; omega⟩
        · rw [hpm]; exact hinv.acc _ _
        · intro k hk
          have hk : k < i + 1 := hk
          rcases Nat.lt_or_ge k i with hki | hki
          · exact hin k hki
          · have : k = i := by omega
            subst this
            rw [List.getElem?_eq_getElem hlt', Option.getD_some]
            omega
        · show repL (ds l) (newM cap) [] ord = repL (ds l) p'.m (ord.take (i + 1)) (ord.drop (i + 1))
          rw [hrep, hstep, if_pos h7, hpm, hsn]; rfl
  · have hie : i = ord.length := by simp only at hge; omega
    refine ⟨Eq.trans (b := .bool true) rfl (congrArg Value.bool (Eq.symm ?_)), (H.less hle).tail⟩
    rw [hfull, hrep, hie, List.drop_length]; rfl
end Go.Proofs.Ytbdoinigeaaclaa
namespace Go.Proofs.Ytbdoinigeaaclaa
open Go RL PQ
variable {g : World} {h : Hp} {w : World} {L : List (Nat × Obj)}
theorem searchL_succ {l : List Done} {k : Nat} {m : Mod} {ord : List Nat} : searchL l (k + 1) m ord = (List.range l.length).findSome? fun i =>
    if readyL l ord i = true then
      if (accM m (dat l i).call (dat l i).res).2 = true then searchL l k (accM m (dat l i).call (dat l i).res).1 (ord ++ [i]) else none
    else none := rfl
theorem findSome_at {α β : Type} {f : α → Option β} : ∀ {l : List α} {i : Nat} (hi : i < l.length) {b : β}, (∀ j (hj : j < i), f (l[j]'(by omega)) = none) → f l[i] = some b → l.findSome? f = some b
  | x :: l, 0, _, b, _, h => by simp at h; simp [List.findSome?_cons, h]
  | x :: l, i + 1, hi, b, hno, h => by
    have h0 := hno 0 (by omega)
    simp at h0
    have := findSome_at (f := f) (l := l) (i := i) (by simpa using hi) (fun j hj => by have := hno (j + 1) (by omega); simpa using this) (by simpa using h)
    simp [List.findSome?_cons, h0, this]
theorem range_at {β : Type} {f : Nat → Option β} {n i : Nat} (hi : i < n) {b : β} (hno : ∀ j, j < i → f j = none) (h : f i = some b) : (List.range n).findSome? f = some b :=
  findSome_at (i := i) (by simpa using hi) (fun j hj => by simpa using hno j hj) (by simpa using h)
theorem range_none {β : Type} {f : Nat → Option β} {n : Nat} (hno : ∀ j, j < n → f j = none) : (List.range n).findSome? f = none := by
  rw [List.findSome?_eq_none_iff]
  intro x hx; exact hno x (by simpa using hx)
/-- What a search hands back. -/
def SeaPost (g : World) (h : Hp) (L : List (Nat × Obj)) (x : Option (List Nat)) : Value → World → Prop := fun v w =>
  ∃ (h' : Hp) (sv : Value), h.le h' ∧ v = .tuple #[sv, .bool x.isSome] ∧ IntS h' sv (oi (x.getD [])) ∧ St g h' w L
structure SeaS where
  i : Nat
  h : Hp
theorem refSearch (l : List DP) (hl : l.length ≤ 900) (hev : ∀ p ∈ l, p.d.res.evs.length ≤ 1000) : ∀ (k : Nat) (m : Mod) (ord : List Nat) {g : World} {h : Hp} {w : World} {L : List (Nat × Obj)} {sv ov : Value} {p : MP},
    St g h w L → p.ok h → DnS h sv l → IntS h ov (oi ord) → p.m = m → Inv ord.length m → ord.length + k = l.length →
    Ret Try.prog 29 [p.val, sv, ov] w (SeaPost g h L (searchL (ds l) k m ord)) := by
  intro k
  induction k with
  | zero =>
    intro m ord g h w L sv ov p H hp hs ho hm hinv hlen
    have hoil : ((oi ord).map intR).length = ord.length := by rw [List.length_map, oi_length]
    refine Ret.enter tabOk Try.func29 rfl (by rfl) rfl (by rfl) (by kernel_rfl) ?_
    obtain ⟨a, sc, rfl⟩ := hs.sl.lenM
    obtain ⟨oa, oc, hov⟩ := ho.len
    rw [hoil] at hov
    subst hov
    refine AllocO.own H fun b3 w H => ?_
    refine CondT.dec (fun h1 => ?_) (fun h1 => absurd (show (ord.length : Int) = l.length by omega) h1)
    exact ⟨h, .slice oa ord.length oc, Hp.le_refl h, rfl, ho, H.tail⟩
  | succ k ih =>
    intro m ord g h w L sv ov p H hp hs ho hm hinv hlen
    subst hm
    have hoil : ((oi ord).map intR).length = ord.length := by rw [List.length_map, oi_length]
    refine Ret.enter tabOk Try.func29 rfl (by rfl) rfl (by rfl) (by kernel_rfl) ?_
    obtain ⟨a, sc, rfl⟩ := hs.sl.lenM
    obtain ⟨oa, oc, hov⟩ := ho.len
    rw [hoil] at hov
    subst hov
    refine AllocO.own H fun b3 w H => ?_
    refine CondT.dec (fun h1 => absurd h1 (by omega)) (fun _ => ?_)
    refine LoopO.run (σ := SeaS) (fun s => [(1, .slice a l.length sc), (2, .slice oa ord.length oc), (3, .pointer (some ⟨b3, 0, none⟩)), (8, .int .i64 s.i)])
      (fun s w => h.le s.h ∧ St g s.h w ((b3, .cells p.row.toArray 46 (0, 0)) :: L) ∧ s.i ≤ l.length ∧ ∀ j, j < s.i → (if readyL (ds l) ord j = true then if (accM p.m (dat (ds l) j).call (dat (ds l) j).res).2 = true then searchL (ds l) k (accM p.m (dat (ds l) j).call (dat (ds l) j).res).1 (ord ++ [j]) else none else none) = none)
      (fun s => l.length - s.i) ⟨0, h⟩ (by exact ⟨rfl, rfl, rfl, rfl, trivial⟩) ⟨Hp.le_refl h, H, Nat.zero_le _, fun j hj => absurd hj (Nat.not_lt_zero j)⟩ ?_
    rintro ⟨i, h'⟩ w e ⟨hle, H, hi, hno⟩
    simp only at hle H hi hno
    refine CondT.dec (fun hlt => ?_) (fun hge => ?_)
    · have hlt' : i < l.length := by simp only at hlt; omega
      have hdi : dat (ds l) i = l[i].d := dat_ds hlt'
      obtain ⟨f, hf0⟩ : ∃ f : Nat → Option (List Nat), f = fun j => (if readyL (ds l) ord j = true then if (accM p.m (dat (ds l) j).call (dat (ds l) j).res).2 = true then searchL (ds l) k (accM p.m (dat (ds l) j).call (dat (ds l) j).res).1 (ord ++ [j]) else none else none) := ⟨_, rfl⟩
      have hf : f i = (if readyL (ds l) ord i = true then if (accM p.m l[i].d.call l[i].d.res).2 = true then searchL (ds l) k (accM p.m l[i].d.call l[i].d.res).1 (ord ++ [i]) else none else none) := by rw [hf0]; simp only [hdi]
      have hno' : ∀ j, j < i → f j = none := by rw [hf0]; exact hno
      have next : f i = none → ∀ j, j < i + 1 → (if readyL (ds l) ord j = true then if (accM p.m (dat (ds l) j).call (dat (ds l) j).res).2 = true then searchL (ds l) k (accM p.m (dat (ds l) j).call (dat (ds l) j).res).1 (ord ++ [j]) else none else none) = none := fun hn j hj => by
        rcases Nat.lt_or_ge j i with hji | hji
        · exact hno j hji
        · have : j = i := by omega
          subst this
          rw [hf0] at hn; exact hn
      have found : ∀ {r : List Nat}, f i = some r → searchL (ds l) (k + 1) p.m ord = some r := fun hr => by
        rw [searchL_succ, ds_length, ← hf0]; exact range_at hlt' hno' hr
      refine (refReady H (hs.le hle) (by omega) (ho.le hle) (by omega) hlt').mono ?_; intro v w q
      have hv := q.1; have H := q.2; clear q; subst hv
      refine CondT.bool (fun h1 => ?_) (fun h1 => ?_)
      · have h1' : (!readyL (ds l) ord i) = true := h1
        have h1 : ¬ readyL (ds l) ord i = true := by simpa using h1'
        refine ArO.i64 ?_
        refine ⟨rfl, ⟨i + 1, h'⟩, ⟨rfl, rfl, rfl, rfl, trivial⟩, ⟨hle, H, hlt', next (by rw [hf, if_neg h1])⟩, by simp only; omega⟩
      have h1' : (!readyL (ds l) ord i) = false := h1
      have h1 : readyL (ds l) ord i = true := by simpa using h1'
      obtain ⟨bx, ox, hidxx, hrowx⟩ := hs.sl.idxM hlt'
      have hrowx := hrowx.le hle
      have hrok : (l[i].rp).ok h' := Sl.le (hs.ev _ (List.getElem_mem hlt')) hle
      have hrl : (l[i].rp).r.evs.length ≤ 4611686018427387904 := by have := hev _ (List.getElem_mem hlt'); show l[i].d.res.evs.length ≤ _; omega
      refine DrawO.st H (pl [0, 1, 2, 3, 4, 5, 6, 7, 8, 9, 10] (.ll 11 (pl [12, 13, 14, 1015, 1016, 17] .nil) 15 (pl [1011, 12, 13, 14, 1016, 17] .nil))) (by kernel_rfl) fun w H => ?_
      refine LdQ.owns .head rfl ?_
      refine hidxx _ _ _ rfl ?_
      refine LdQ.hcs hrowx (j := 1) rfl ?_
      refine hidxx _ _ _ rfl ?_
      refine LdQ.hcs hrowx (j := 6) rfl ?_
      refine ⟨?_, ?_⟩
      · refine (refAccepts H (hp.le hle) l[i].d.call hrok hinv (by omega) hrl).mono ?_; intro v w q
        refine q.elim fun h2 q => q.elim fun p' q => ?_
        have hle2 := q.1; have hv := q.2.1; have hp' := q.2.2.1; have hpm := q.2.2.2.1; have H := q.2.2.2.2
        clear q
        subst hv
        refine ⟨H.less hle2, ?_⟩
        refine AllocO.own H fun b12 w H => ⟨(H.less hle2).tail, ?_⟩
        refine StO.own H .head rfl rfl rfl fun w H => ⟨(H.less hle2).tail, ?_⟩
        refine CondT.bool (fun h7 => ?_) (fun h7 => ?_)
        · have h7' : (!(accM p.m l[i].d.call l[i].d.res).2) = true := h7
          have h7 : ¬ (accM p.m l[i].d.call l[i].d.res).2 = true := by simpa using h7'
          refine ArO.i64 ?_
          refine ⟨rfl, ⟨i + 1, h2⟩, ⟨rfl, rfl, rfl, rfl, trivial⟩, ⟨Hp.le_trans hle hle2, H.tail, hlt', next (by rw [hf, if_pos h1, if_neg h7])⟩, by simp only; omega⟩
        · have h7' : (!(accM p.m l[i].d.call l[i].d.res).2) = false := h7
          have h7 : (accM p.m l[i].d.call l[i].d.res).2 = true := by simpa using h7'
          refine AllocO.own H fun b13 w H => ?_
          have ho4 : OwnSl 3 1 (.slice (some ⟨b13, 0, none⟩) 0 0) [] [(b13, .cells #[] 3 (0, 0))] := ⟨by simp, .inr ⟨b13, #[], 0, rfl, Nat.le_refl _, rfl, rfl, rfl⟩⟩
          have hle3 := Hp.le_trans hle hle2
          refine RunO.apps (xx := [(b13, .cells #[] 3 (0, 0))]) (n := 0) tabOk rfl rfl rfl rfl rfl rfl rfl H ho4 ((ho.le hle3).src H) (fun r hr => by obtain ⟨z, _, rfl⟩ := List.mem_map.1 hr; rfl) rfl hoil (by omega) fun v4 w x4 ho4 H => ?_
          refine AllocO.own H fun b14 w H => ?_
          have hsrc2 : Src w 1 (.slice (some ⟨b14, 0, none⟩) 1 1) [[.int .i64 i]] := H.srcOwn .head (by simp) rfl rfl
          have H := St.pull (A := [_]) H
          refine RunO.apps (m := 1) tabOk rfl rfl rfl rfl rfl rfl rfl H ho4 hsrc2 (by simp [oneCells, Value.oneCell']) hoil rfl (by omega) fun v5 w x5 ho5 H => ?_
          have ho5 : OwnSl 3 1 v5 ((oi (ord ++ [i])).map intR) x5 := by
            have : (oi (ord ++ [i])).map intR = ([] ++ (oi ord).map intR) ++ [[.int .i64 i]] := by simp [intR, oi]
            rw [this]; exact ho5
          refine (OwnSl.sealIt ho5 H).elim fun h5 q => ?_
          have hle5 := q.1; have H := q.2.1; have hs5 := q.2.2
          refine LdO.owns H (.tail .head) rfl ?_
          have hle6 := Hp.le_trans hle3 hle5
          refine (ih (accM p.m l[i].d.call l[i].d.res).1 (ord ++ [i]) H (hp'.le hle5) (hs.le hle6) hs5 hpm (by rw [List.length_append]; exact hinv.acc _ _) (by simp only [List.length_append, List.length_cons, List.length_nil]; omega)).mono ?_; intro v w q
          refine q.elim fun h8 q => q.elim fun rv q => ?_
          have hle8 := q.1; have hv := q.2.1; have hrv := q.2.2.1; have H := q.2.2.2; clear q
          subst hv
          refine CondT.bool (fun h9 => ?_) (fun h9 => ?_)
          · refine (Option.isSome_iff_exists.1 h9).elim fun r hsea => ?_
            rw [hsea] at hrv
            exact ⟨h8, rv, Hp.le_trans hle6 hle8, Eq.trans (b := .tuple #[rv, .bool true]) rfl (by rw [found (by rw [hf, if_pos h1, if_pos h7, hsea])]; rfl), by rw [found (by rw [hf, if_pos h1, if_pos h7, hsea])]; exact hrv, H.tail.tail.tail⟩
          · have hsea := Option.not_isSome_iff_eq_none.1 (by rw [h9]; decide)
            refine ArO.i64 ?_
            exact ⟨rfl, ⟨i + 1, h8⟩, ⟨rfl, rfl, rfl, rfl, trivial⟩, ⟨Hp.le_trans hle6 hle8, H.tail.tail, hlt', next (by rw [hf, if_pos h1, if_pos h7, hsea])⟩, by simp only; omega⟩
      · refine AllocO.own H fun b12 w H => ⟨H.tail, ?_⟩
        refine (refAccepts H (hp.le hle) l[i].d.call hrok hinv (by omega) hrl).mono ?_; intro v w q
        refine q.elim fun h2 q => q.elim fun p' q => ?_
        have hle2 := q.1; have hv := q.2.1; have hp' := q.2.2.1; have hpm := q.2.2.2.1; have H := q.2.2.2.2
        clear q
        subst hv
        refine ⟨(H.less hle2).tail, ?_⟩
        refine StO.own H .head rfl rfl rfl fun w H => ⟨(H.less hle2).tail, ?_⟩
        refine CondT.bool (fun h7 => ?_) (fun h7 => ?_)
        · have h7' : (!(accM p.m l[i].d.call l[i].d.res).2) = true := h7
          have h7 : ¬ (accM p.m l[i].d.call l[i].d.res).2 = true := by simpa using h7'
          refine ArO.i64 ?_
          refine ⟨rfl, ⟨i + 1, h2⟩, ⟨rfl, rfl, rfl, rfl, trivial⟩, ⟨Hp.le_trans hle hle2, H.tail, hlt', next (by rw [hf, if_pos h1, if_neg h7])⟩, by simp only; omega⟩
        · have h7' : (!(accM p.m l[i].d.call l[i].d.res).2) = false := h7
          have h7 : (accM p.m l[i].d.call l[i].d.res).2 = true := by simpa using h7'
          refine AllocO.own H fun b13 w H => ?_
          have ho4 : OwnSl 3 1 (.slice (some ⟨b13, 0, none⟩) 0 0) [] [(b13, .cells #[] 3 (0, 0))] := ⟨by simp, .inr ⟨b13, #[], 0, rfl, Nat.le_refl _, rfl, rfl, rfl⟩⟩
          have hle3 := Hp.le_trans hle hle2
          refine RunO.apps (xx := [(b13, .cells #[] 3 (0, 0))]) (n := 0) tabOk rfl rfl rfl rfl rfl rfl rfl H ho4 ((ho.le hle3).src H) (fun r hr => by obtain ⟨z, _, rfl⟩ := List.mem_map.1 hr; rfl) rfl hoil (by omega) fun v4 w x4 ho4 H => ?_
          refine AllocO.own H fun b14 w H => ?_
          have hsrc2 : Src w 1 (.slice (some ⟨b14, 0, none⟩) 1 1) [[.int .i64 i]] := H.srcOwn .head (by simp) rfl rfl
          have H := St.pull (A := [_]) H
          refine RunO.apps (m := 1) tabOk rfl rfl rfl rfl rfl rfl rfl H ho4 hsrc2 (by simp [oneCells, Value.oneCell']) hoil rfl (by omega) fun v5 w x5 ho5 H => ?_
          have ho5 : OwnSl 3 1 v5 ((oi (ord ++ [i])).map intR) x5 := by
            have : (oi (ord ++ [i])).map intR = ([] ++ (oi ord).map intR) ++ [[.int .i64 i]] := by simp [intR, oi]
            rw [this]; exact ho5
          refine (OwnSl.sealIt ho5 H).elim fun h5 q => ?_
          have hle5 := q.1; have H := q.2.1; have hs5 := q.2.2
          refine LdO.owns H (.tail .head) rfl ?_
          have hle6 := Hp.le_trans hle3 hle5
          refine (ih (accM p.m l[i].d.call l[i].d.res).1 (ord ++ [i]) H (hp'.le hle5) (hs.le hle6) hs5 hpm (by rw [List.length_append]; exact hinv.acc _ _) (by simp only [List.length_append, List.length_cons, List.length_nil]; omega)).mono ?_; intro v w q
          refine q.elim fun h8 q => q.elim fun rv q => ?_
          have hle8 := q.1; have hv := q.2.1; have hrv := q.2.2.1; have H := q.2.2.2; clear q
          subst hv
          refine CondT.bool (fun h9 => ?_) (fun h9 => ?_)
          · refine (Option.isSome_iff_exists.1 h9).elim fun r hsea => ?_
            rw [hsea] at hrv
            exact ⟨h8, rv, Hp.le_trans hle6 hle8, Eq.trans (b := .tuple #[rv, .bool true]) rfl (by rw [found (by rw [hf, if_pos h1, if_pos h7, hsea])]; rfl), by rw [found (by rw [hf, if_pos h1, if_pos h7, hsea])]; exact hrv, H.tail.tail.tail⟩
          · have hsea := Option.not_isSome_iff_eq_none.1 (by rw [h9]; decide)
            refine ArO.i64 ?_
            exact ⟨rfl, ⟨i + 1, h8⟩, ⟨rfl, rfl, rfl, rfl, trivial⟩, ⟨Hp.le_trans hle6 hle8, H.tail.tail, hlt', next (by rw [hf, if_pos h1, if_pos h7, hsea])⟩, by simp only; omega⟩
    · have hie : i = l.length := by simp only at hge; omega
      subst hie
      have hn : searchL (ds l) (k + 1) p.m ord = none := by
        rw [searchL_succ, ds_length]; exact range_none hno
      exact ⟨h', .slice none 0 0, hle, Eq.trans (b := .tuple #[.slice none 0 0, .bool false]) rfl (by rw [hn]; rfl), by rw [hn]; exact Sl.nil h' 1, H.tail⟩
theorem refCheck (H : St g h w L) (cap : Int) {sv : Value} {l : List DP} (hs : DnS h sv l) (hl : l.length ≤ 900) (hev : ∀ p ∈ l, p.d.res.evs.length ≤ 1000) :
    Ret Try.prog 14 [.int .i64 cap, sv] w (SeaPost g h L (checkL cap (ds l))) := by
  refine Ret.enter tabOk Try.func14 rfl (by rfl) rfl (by rfl) (by kernel_rfl) ?_
  refine (refNew H cap).mono ?_; intro v w q
  have hv := q.1; have H := q.2; clear q
  by_cases hcb : cap < 1 ∨ 64 < cap
  · rw [if_pos hcb] at hv; subst hv
    refine AllocO.own H fun b7 w H => ?_
    refine StO.own H .head rfl rfl rfl fun w H => ?_
    refine CondT.dec (fun _ => ?_) (fun hh => absurd (show (1 : Int) ≠ 0 by decide) hh)
    exact ⟨h, .slice none 0 0, Hp.le_refl h, Eq.trans (b := .tuple #[.slice none 0 0, .bool false]) rfl (by rw [checkL, if_pos (show capBad cap from hcb)]; rfl), by rw [checkL, if_pos (show capBad cap from hcb)]; exact Sl.nil h 1, H.tail⟩
  rw [if_neg hcb] at hv; subst hv
  refine AllocO.own H fun b7 w H => ?_
  refine StO.own H .head rfl rfl rfl fun w H => ?_
  refine CondT.dec (fun hh => absurd rfl hh) (fun _ => ?_)
  refine LdO.owns H .head rfl ?_
  have hc : checkL cap (ds l) = searchL (ds l) l.length (newM cap) [] := by rw [checkL, if_neg (show ¬ capBad cap from hcb), ds_length]; rfl
  refine (refSearch l hl hev l.length (newM cap) [] H (newP_ok h cap) hs (Sl.nil h 1) rfl (newInv (by omega) (by omega)) (by simp)).mono ?_; intro v w q
  refine q.elim fun h8 q => q.elim fun rv q => ?_
  have hle8 := q.1; have hv := q.2.1; have hrv := q.2.2.1; have H := q.2.2.2; clear q
  subst hv
  rw [hc]
  exact ⟨h8, rv, hle8, rfl, hrv, H.tail⟩
end Go.Proofs.Ytbdoinigeaaclaa
