/- The reference's checker: small functions. Conditions: slices are short.
   The reference's Valid. Conditions: none.
   The reference's ready and Replay. Conditions: slices are short.
   The reference's Replay. Conditions: slices are short.
   The reference's search and Check. Conditions: slices are short. -/
import Derived.Test.YtbdoinigeaaclaaGreatW3
set_option linter.all false
set_option maxRecDepth 20000
namespace Go.Proofs.YtbdoinigeaaclaaGreat
open Go RL PQ
variable {g : World} {h : Hp} {w : World} {L : List (Nat × Obj)}
theorem refSame (H : St g h w L) {v1 v2 : Value} {l1 l2 : List Int} (h1 : IntS h v1 l1) (h2 : IntS h v2 l2) (hl : l1.length ≤ 9223372036854775807) :
    Ret Tryz.prog 32 [v1, v2] w fun v w' => v = .bool (decide (l1 = l2)) ∧ St g h w' L := by
  refine Ret.enter tabOk Tryz.func32 rfl (by rfl) rfl (by rfl) (by kernel_rfl) ?_
  obtain ⟨a1, cap1, rfl⟩ := h1.lenM
  obtain ⟨a2, cap2, rfl⟩ := h2.lenM
  refine CondT.dec (fun hne => ?_) (fun heq => ?_)
  · exact ⟨Eq.trans (b := .bool false) rfl (by rw [decide_eq_false]; rintro rfl; exact hne rfl), H⟩
  have hll : l1.length = l2.length := by have := Classical.not_not.1 heq; omega
  refine LoopO.run (σ := Nat) (fun i => [(0, .slice a1 l1.length cap1), (1, .slice a2 l2.length cap2), (5, .int .i64 i)])
    (fun i w => St g h w L ∧ i ≤ l1.length ∧ ∀ j (hj : j < i) (hx : j < l1.length), l1[j] = l2[j]) (fun i => l1.length - i) 0 (by exact ⟨rfl, rfl, rfl, trivial⟩) ⟨H, Nat.zero_le _, fun j hj => absurd hj (Nat.not_lt_zero j)⟩ ?_
  rintro i w e ⟨H, hi, hno⟩
  refine CondT.dec (fun hlt => ?_) (fun hge => ?_)
  · have hlt1 : i < l1.length := by omega
    have hlt2 : i < l2.length := by omega
    obtain ⟨b1, o1, hidx1, hrow1⟩ := h1.idxM hlt1
    obtain ⟨b2, o2, hidx2, hrow2⟩ := h2.idxM hlt2
    refine DrawO.st H (pl [0, 1, 2, 3, 4, 5, 6, 7, 8] .nil) (by kernel_rfl) fun w H => ?_
    refine hidx1 _ _ _ rfl ?_
    refine LdQ.hc hrow1 (j := 0) rfl ?_
    refine hidx2 _ _ _ rfl ?_
    refine LdQ.hc hrow2 (j := 0) rfl ?_
    refine CondT.dec (fun h3 => ?_) (fun h3 => ?_)
    · exact ⟨Eq.trans (b := .bool false) rfl (by rw [decide_eq_false]; rintro rfl; exact h3 rfl), H⟩
    · refine ArO.i64 ?_
      refine ⟨rfl, i + 1, ⟨rfl, rfl, rfl, trivial⟩, ⟨H, by omega, fun j hj hx => ?_⟩, by omega⟩
      rcases Nat.lt_or_ge j i with hji | hji
      · exact hno j hji hx
      · have : j = i := by omega
        subst this
        exact Classical.not_not.1 h3
  · exact ⟨Eq.trans (b := .bool true) rfl (by rw [decide_eq_true]; exact List.ext_getElem hll (fun j hj hj' => hno j (by omega) hj)), H⟩
end Go.Proofs.YtbdoinigeaaclaaGreat
set_option maxRecDepth 20000
namespace Go.Proofs.YtbdoinigeaaclaaGreat
open Go RL PQ
variable {g : World} {h : Hp} {w : World} {L : List (Nat × Obj)}
end Go.Proofs.YtbdoinigeaaclaaGreat
set_option maxRecDepth 20000
namespace Go.Proofs.YtbdoinigeaaclaaGreat
open Go RL PQ
variable {g : World} {h : Hp} {w : World} {L : List (Nat × Obj)}
def oi (l : List Nat) : List Int := l.map fun (n : Nat) => (n : Int)
theorem oi_contains (l : List Nat) (i : Nat) : (oi l).contains (i : Int) = l.contains i := by
  rw [Bool.eq_iff_iff, List.contains_iff_mem, List.contains_iff_mem, oi, List.mem_map]
  constructor
  · rintro ⟨a, ha, he⟩; have : a = i := by omega
    subst this; exact ha
  · intro h; exact ⟨i, h, rfl⟩
theorem oi_length (l : List Nat) : (oi l).length = l.length := by simp [oi]
theorem dat_ds {l : List DP} {i : Nat} (h : i < l.length) : dat (ds l) i = l[i].d := by simp [dat, ds, h]
theorem ds_length (l : List DP) : (ds l).length = l.length := by simp [ds]
end Go.Proofs.YtbdoinigeaaclaaGreat
set_option maxRecDepth 20000
namespace Go.Proofs.YtbdoinigeaaclaaGreat
open Go RL PQ
variable {g : World} {h : Hp} {w : World} {L : List (Nat × Obj)}
def DP.rp (p : DP) : RP := ⟨p.d.res, p.ea, p.ec⟩
theorem repL_cons {l : List Done} {m : Mod} {seen : List Int} {i : Int} {r : List Int} : repL l m seen (i :: r) =
    if i < 0 ∨ (l.length : Int) ≤ i ∨ seen.contains i = true then none
    else if seen.any (fun j => prec (dat l i.toNat) (dat l j.toNat)) = true then none
    else if (accM m (dat l i.toNat).call (dat l i.toNat).res).2 = true then repL l (accM m (dat l i.toNat).call (dat l i.toNat).res).1 (seen ++ [i]) r
    else none := rfl
structure RepS where
  i : Nat
  p : MP
  h : Hp
end Go.Proofs.YtbdoinigeaaclaaGreat
set_option maxRecDepth 20000
namespace Go.Proofs.YtbdoinigeaaclaaGreat
open Go RL PQ
variable {g : World} {h : Hp} {w : World} {L : List (Nat × Obj)}
theorem searchL_succ {l : List Done} {k : Nat} {m : Mod} {ord : List Nat} : searchL l (k + 1) m ord = (List.range l.length).findSome? fun i =>
    if readyL l ord i = true then
      if (accM m (dat l i).call (dat l i).res).2 = true then searchL l k (accM m (dat l i).call (dat l i).res).1 (ord ++ [i]) else none
    else none := rfl
theorem findSome_at {α β : Type} {f : α → Option β} : ∀ {l : List α} {i : Nat} (hi : i < l.length) {b : β}, (∀ j (hj : j < i), f (l[j]'(by omega)) = none) → f l[i] = some b → l.findSome? f = some b
  | x :: l, 0, _, b, _, h => by simp at h; simp [List.findSome?_cons, h]
  | x :: l, i + 1, hi, b, hno, h => by
    have h0 := hno 0 (by omega)
    simp at h0
    have := findSome_at (f := f) (l := l) (i := i) (by simpa using hi) (fun j hj => by have := hno (j + 1) (by omega); simpa using this) (by simpa using h)
    simp [List.findSome?_cons, h0, this]
theorem range_at {β : Type} {f : Nat → Option β} {n i : Nat} (hi : i < n) {b : β} (hno : ∀ j, j < i → f j = none) (h : f i = some b) : (List.range n).findSome? f = some b :=
  findSome_at (i := i) (by simpa using hi) (fun j hj => by simpa using hno j hj) (by simpa using h)
theorem range_none {β : Type} {f : Nat → Option β} {n : Nat} (hno : ∀ j, j < n → f j = none) : (List.range n).findSome? f = none := by
  rw [List.findSome?_eq_none_iff]
  intro x hx; exact hno x (by simpa using hx)
/-- What a search hands back. -/
def SeaPost (g : World) (h : Hp) (L : List (Nat × Obj)) (x : Option (List Nat)) : Value → World → Prop := fun v w =>
  ∃ (h' : Hp) (sv : Value), h.le h' ∧ v = .tuple #[sv, .bool x.isSome] ∧ IntS h' sv (oi (x.getD [])) ∧ St g h' w L
structure SeaS where
  i : Nat
  h : Hp
end Go.Proofs.YtbdoinigeaaclaaGreat
