/- Small functions of the program and of Go's library, each walked once: comparisons, handles, searching a slice. Conditions: slices are short.
   Completed calls: which precedes which, whether a history is valid. Conditions: slices are short.
   The program's sequential model, walked: results compared, a new model, failing calls, cloning, binary search. Conditions: slices are short. -/
import Derived.Test.YtbdoinigeaaclaaGreatTab
set_option linter.all false
set_option maxRecDepth 20000
namespace Go.Proofs.YtbdoinigeaaclaaGreat
open Go RL PQ
variable {g : World} {h : Hp} {w : World} {L : List (Nat × Obj)}

def cmpI (a b : Int) : Int := if a < b then -1 else if b < a then 1 else 0
def cmpE (t s t' s' : Int) : Int := if cmpI t t' ≠ 0 then cmpI t t' else cmpI s s'
theorem isNaN (H : St g h w L) (a : Int) : Ret Tryz.prog 107 [.int .i64 a] w fun v w' => v = .bool false ∧ St g h w' L := by
  refine Ret.enter tabOk Tryz.func107 rfl (by rfl) rfl (by rfl) (by kernel_rfl) ?_
  exact ⟨Eq.trans (b := .bool (decide (a ≠ a))) rfl (by simp), H⟩
theorem compareI (H : St g h w L) (a b : Int) : Ret Tryz.prog 96 [.int .i64 a, .int .i64 b] w fun v w' => v = .int .i64 (cmpI a b) ∧ St g h w' L := by
  refine Ret.enter tabOk Tryz.func96 rfl (by rfl) rfl (by rfl) (by kernel_rfl) ?_
  refine (isNaN H a).mono ?_; rintro _ w ⟨rfl, H⟩
  refine (isNaN H b).mono ?_; rintro _ w ⟨rfl, H⟩
  refine CondT.mk ?_
  refine CondT.mk ?_
  refine CondT.dec (fun h1 => ?_) (fun h1 => ?_)
  · exact ⟨Eq.trans (b := .int .i64 (-1)) rfl (by rw [cmpI, if_pos h1]), H⟩
  · refine CondT.dec (fun h2 => ?_) (fun h2 => ?_)
    · exact ⟨Eq.trans (b := .int .i64 1) rfl (by rw [cmpI, if_neg h1, if_pos h2]), H⟩
    · exact ⟨Eq.trans (b := .int .i64 0) rfl (by rw [cmpI, if_neg h1, if_neg h2]), H⟩
/-- Whole numbers as rows. -/
def intR (x : Int) : List Value := [.int .i64 x]
abbrev IntS (h : Hp) (v : Value) (xs : List Int) : Prop := Sl h 1 v (xs.map intR)
def orI : List Int → Int
  | [] => 0
  | x :: r => if x ≠ 0 then x else orI r
theorem orI_at {xs : List Int} : ∀ {i : Nat} (hi : i < xs.length), (∀ j (hj : j < i), xs[j]'(by omega) = 0) → xs[i] ≠ 0 → orI xs = xs[i] := by
  induction xs with
  | nil => intro i hi; simp at hi
  | cons x r ih =>
    intro i hi h0 hx
    cases i with
    | zero => simp at hx; simp [orI, hx]
    | succ i =>
      have := h0 0 (by omega)
      simp at this
      subst this
      simp only [orI]
      rw [if_neg (by simp)]
      exact ih (by simpa using hi) (fun j hj => by have := h0 (j + 1) (by omega); simpa using this) (by simpa using hx)
theorem orI_no {xs : List Int} (h : ∀ x ∈ xs, x = 0) : orI xs = 0 := by
  induction xs with
  | nil => rfl
  | cons x r ih =>
    have := h x (.head _)
    subst this
    simp only [orI]
    rw [if_neg (by simp)]
    exact ih fun y hy => h y (.tail _ hy)
theorem cmpOr (H : St g h w L) {v : Value} {xs : List Int} (hs : IntS h v xs) (hl : xs.length ≤ 4611686018427387904) : Ret Tryz.prog 106 [v] w fun v w' => v = .int .i64 (orI xs) ∧ St g h w' L := by
  refine Ret.enter tabOk Tryz.func106 rfl (by rfl) rfl (by rfl) (by kernel_rfl) ?_
  obtain ⟨a, cap, rfl⟩ := hs.lenM
  refine LoopO.run (σ := Nat) (fun i => [(3, .int .i64 0), (6, .slice a xs.length cap), (7, .int .i64 xs.length), (8, .int .i64 i)])
    (fun i w => St g h w L ∧ i ≤ xs.length ∧ ∀ j (hj : j < i) (hx : j < xs.length), xs[j] = 0) (fun i => xs.length - i) 0 (by exact ⟨rfl, rfl, rfl, rfl, trivial⟩) ⟨H, Nat.zero_le _, fun j hj => absurd hj (Nat.not_lt_zero j)⟩ ?_
  rintro i w e ⟨H, hi, hno⟩
  refine CondT.dec (fun hlt => ?_) (fun hge => ?_)
  · have hlt' : i < xs.length := by omega
    obtain ⟨b, o, hidx, hrow⟩ := hs.idxM hlt'
    refine hidx _ _ _ rfl ?_
    refine LdO.hc (j := 0) H hrow rfl ?_
    refine CondT.dec (fun h1 => ?_) (fun h1 => ?_)
    · exact ⟨Eq.trans (b := .int .i64 xs[i]) rfl (by rw [orI_at hlt' (fun j hj => hno j hj (by omega)) h1]), H⟩
    · refine ArO.i64 ?_
      refine ⟨rfl, i + 1, ⟨rfl, rfl, rfl, rfl, trivial⟩, ⟨H, by omega, fun j hj hx => ?_⟩, by omega⟩
      rcases Nat.lt_or_ge j i with hji | hji
      · exact hno j hji hx
      · have : j = i := by omega
        subst this
        exact Classical.not_not.1 h1
  · exact ⟨Eq.trans (b := .int .i64 0) rfl (by rw [orI_no]; intro x hx; obtain ⟨j, hj, rfl⟩ := List.mem_iff_getElem.1 hx; exact hno j (by omega) hj), H⟩
theorem first (H : St g h w L) {v : Value} {xs : List Int} (hs : IntS h v xs) (hl : xs.length ≤ 4611686018427387904) : Ret Tryz.prog 95 [v] w fun v w' => v = .int .i64 (orI xs) ∧ St g h w' L := by
  refine Ret.enter tabOk Tryz.func95 rfl (by rfl) rfl (by rfl) (by kernel_rfl) ?_
  refine (cmpOr H hs hl).mono ?_; rintro _ w ⟨rfl, H⟩
  exact ⟨rfl, H⟩
theorem intS_two (b : Nat) (x y : Int) (e : TypeId) : IntS (Hp.add h b (.cells #[.int .i64 x, .int .i64 y] e)) (.slice (some ⟨b, 0, none⟩) 2 2) [x, y] := by
  refine ⟨_, 2, rfl, Nat.le_refl _, by simp [intR], fun _ => ⟨b, 0, rfl, _, e, (0, 0), Hp.add_same _ _ _, fun i hi => ?_⟩⟩
  simp [intR] at hi ⊢
def itemV (t s k : Int) : Value := .agg #[.int .i64 t, .int .i64 s, .int .i64 k]
theorem compareItems (H : St g h w L) (t s k t' s' k' : Int) : Ret Tryz.prog 83 [itemV t s k, itemV t' s' k'] w fun v w' => v = .int .i64 (cmpE t s t' s') ∧ St g h w' L := by
  refine Ret.enter tabOk Tryz.func83 rfl (by rfl) rfl (by rfl) (by kernel_rfl) ?_
  refine AllocO.own H fun b1 w H => ?_
  refine AllocO.own H fun b2 w H => ?_
  refine DrawO.st H (pl [0, 1, 2, 3, 5, 6, 7, 8, 1004, 1009, 1010, 1011, 12] .nil) (by kernel_rfl) fun w H => ?_
  refine LdQ.own (.tail .head) rfl ?_
  refine LdQ.own .head rfl ?_
  refine LdQ.own (.tail .head) rfl ?_
  refine LdQ.own .head rfl ?_
  refine (compareI H t t').mono ?_; rintro _ w ⟨rfl, H⟩; refine ⟨H, ?_⟩
  refine (compareI H s s').mono ?_; rintro _ w ⟨rfl, H⟩; refine ⟨H, ?_⟩
  refine AllocO.own H fun b3 w H3 => ⟨H3.tail, ?_⟩
  have h3 : b3 ≠ b1 ∧ b3 ≠ b2 := by
    have := H3.nodup
    simp only [List.map_cons, List.nodup_cons, List.mem_cons, not_or] at this
    exact ⟨this.1.2.1, this.1.1⟩
  refine (first H3.sealIt (intS_two b3 _ _ _) (by simp)).mono ?_; rintro _ w ⟨rfl, H⟩
  refine ⟨H.less H3.seal_le, ?_⟩
  exact ⟨Eq.trans (b := .int .i64 (orI [cmpI t t', cmpI s s'])) rfl (by simp only [orI, cmpE]; split <;> first | rfl | (split <;> simp_all)), (H.less H3.seal_le).tail.tail⟩
/-- An entry's row. -/
def entR (e : Ent) : List Value := [.int .i64 e.time, .int .i64 e.seq, .int .i64 e.handle, .bool e.dead]
def entV (e : Ent) : Value := .agg (entR e).toArray
theorem item (H : St g h w L) (e : Ent) : Ret Tryz.prog 84 [entV e] w fun v w' => v = itemV e.time e.seq 0 ∧ St g h w' L := by
  refine Ret.enter tabOk Tryz.func84 rfl (by rfl) rfl (by rfl) (by kernel_rfl) ?_
  refine AllocO.own H fun b1 w H => ?_
  refine AllocO.own H fun b2 w H => ?_
  refine LdO.own H (.tail .head) rfl ?_
  refine LdO.own H (.tail .head) rfl ?_
  refine StO.own H .head rfl rfl rfl fun w H => ?_
  refine LdO.owns H .head rfl ?_
  exact ⟨rfl, H.tail.tail⟩
theorem compareE (H : St g h w L) (e e' : Ent) : Ret Tryz.prog 73 [entV e, entV e'] w fun v w' => v = .int .i64 (cmpE e.time e.seq e'.time e'.seq) ∧ St g h w' L := by
  refine Ret.enter tabOk Tryz.func73 rfl (by rfl) rfl (by rfl) (by kernel_rfl) ?_
  refine AllocO.own H fun b1 w H => ?_
  refine AllocO.own H fun b2 w H => ?_
  refine DrawO.st H (pl [0, 2, 1001, 1003, 1004, 5] .nil) (by kernel_rfl) fun w H => ?_
  refine LdQ.owns (.tail .head) rfl ?_
  refine LdQ.owns .head rfl ?_
  refine (item H e).mono ?_; rintro _ w ⟨rfl, H⟩; refine ⟨H, ?_⟩
  refine (item H e').mono ?_; rintro _ w ⟨rfl, H⟩; refine ⟨H, ?_⟩
  refine (compareItems H _ _ _ _ _ _).mono ?_; rintro _ w ⟨rfl, H⟩; refine ⟨H, ?_⟩
  exact ⟨rfl, H.tail.tail⟩
theorem handleValid (H : St g h w L) (x : Int) : Ret Tryz.prog 71 [.int .i64 x] w fun v w' => v = .bool (validH x) ∧ St g h w' L := by
  refine Ret.enter tabOk Tryz.func71 rfl (by rfl) rfl (by rfl) (by kernel_rfl) ?_
  refine CondT.dec (fun h1 => ?_) (fun h1 => ?_)
  · exact ⟨Eq.trans (b := .bool (decide (x ≤ 70368744177727))) rfl (by simp [validH, h1]), H⟩
  · exact ⟨Eq.trans (b := .bool false) rfl (by simp [validH, h1]), H⟩
theorem indexI (H : St g h w L) {sv : Value} {xs : List Int} (hs : IntS h sv xs) (hl : xs.length ≤ 4611686018427387904) (x : Int) :
    Ret Tryz.prog 52 [sv, .int .i64 x] w fun v w' => v = .int .i64 (ix (xs.findIdx? fun y => decide (x = y))) ∧ St g h w' L := by
  refine Ret.enter tabOk Tryz.func52 rfl (by rfl) rfl (by rfl) (by kernel_rfl) ?_
  obtain ⟨a, cap, rfl⟩ := hs.lenM
  refine LoopO.run (σ := Nat) (fun i => [(0, .slice a xs.length cap), (1, .int .i64 x), (7, .int .i64 xs.length), (8, .int .i64 i)])
    (fun i w => St g h w L ∧ i ≤ xs.length ∧ ∀ j (hj : j < i) (hx : j < xs.length), decide (x = xs[j]) = false) (fun i => xs.length - i) 0 (by exact ⟨rfl, rfl, rfl, rfl, trivial⟩) ⟨H, Nat.zero_le _, fun j hj => absurd hj (Nat.not_lt_zero j)⟩ ?_
  rintro i w e ⟨H, hi, hno⟩
  refine CondT.dec (fun hlt => ?_) (fun hge => ?_)
  · have hlt' : i < xs.length := by omega
    obtain ⟨b, o, hidx, hrow⟩ := hs.idxM hlt'
    refine hidx _ _ _ rfl ?_
    refine LdO.hc (j := 0) H hrow rfl ?_
    refine CondT.dec (fun h1 => ?_) (fun h1 => ?_)
    · exact ⟨Eq.trans (b := .int .i64 i) rfl (by rw [findIdx_at hlt' (fun j hj => hno j hj (by omega)) (by simpa using h1)]; rfl), H⟩
    · refine ArO.i64 ?_
      refine ⟨rfl, i + 1, ⟨rfl, rfl, rfl, rfl, trivial⟩, ⟨H, by omega, fun j hj hx => ?_⟩, by omega⟩
      rcases Nat.lt_or_ge j i with hji | hji
      · exact hno j hji hx
      · have : j = i := by omega
        subst this
        simpa using h1
  · exact ⟨Eq.trans (b := .int .i64 (-1)) rfl (by rw [findIdx_no]; rfl; intro y hy; obtain ⟨j, hj, rfl⟩ := List.mem_iff_getElem.1 hy; exact hno j (by omega) hj), H⟩
theorem findIdx_contains (xs : List Int) (x : Int) : (xs.findIdx? fun y => decide (x = y)).isSome = xs.contains x := by
  induction xs with
  | nil => rfl
  | cons y r ih =>
    rw [List.findIdx?_cons]
    by_cases hxy : x = y
    · subst hxy; simp
    · have : (x == y) = false := by simpa using hxy
      simp [hxy, ih]
theorem containsI (H : St g h w L) {sv : Value} {xs : List Int} (hs : IntS h sv xs) (hl : xs.length ≤ 4611686018427387904) (x : Int) :
    Ret Tryz.prog 38 [sv, .int .i64 x] w fun v w' => v = .bool (xs.contains x) ∧ St g h w' L := by
  refine Ret.enter tabOk Tryz.func38 rfl (by rfl) rfl (by rfl) (by kernel_rfl) ?_
  refine (indexI H hs hl x).mono ?_; rintro _ w ⟨rfl, H⟩
  exact ⟨Eq.trans (b := .bool (decide (0 ≤ ix (xs.findIdx? fun y => decide (x = y))))) rfl (by rw [ix_nonneg, findIdx_contains]), H⟩
/-- Searching with a function of the program's: whole numbers. -/
theorem indexFuncI (H : St g h w L) {sv : Value} {xs : List Int} (hs : IntS h sv xs) (hl : xs.length ≤ 4611686018427387904) (k : Nat) (caps : Array Value) (p : Int → Bool)
    (hf : ∀ x ∈ xs, ∀ w, St g h w L → Ret Tryz.prog k ([] ++ [.int .i64 x] ++ caps.toList) w fun v w' => v = .bool (p x) ∧ St g h w' L) :
    Ret Tryz.prog 49 [sv, .func (.func k) #[] caps] w fun v w' => v = .int .i64 (ix (xs.findIdx? p)) ∧ St g h w' L := by
  refine Ret.enter tabOk Tryz.func49 rfl (by rfl) rfl (by rfl) (by kernel_rfl) ?_
  obtain ⟨a, cap, rfl⟩ := hs.lenM
  refine LoopO.run (σ := Nat) (fun i => [(0, .slice a xs.length cap), (1, .func (.func k) #[] caps), (7, .int .i64 xs.length), (8, .int .i64 i)])
    (fun i w => St g h w L ∧ i ≤ xs.length ∧ ∀ j (hj : j < i) (hx : j < xs.length), p xs[j] = false) (fun i => xs.length - i) 0 (by exact ⟨rfl, rfl, rfl, rfl, trivial⟩) ⟨H, Nat.zero_le _, fun j hj => absurd hj (Nat.not_lt_zero j)⟩ ?_
  rintro i w e ⟨H, hi, hno⟩
  refine CondT.dec (fun hlt => ?_) (fun hge => ?_)
  · have hlt' : i < xs.length := by omega
    obtain ⟨b, o, hidx, hrow⟩ := hs.idxM hlt'
    refine hidx _ _ _ rfl ?_
    refine LdO.hc (j := 0) H hrow rfl ?_
    refine (hf _ (List.getElem_mem hlt') w H).mono ?_
    rintro _ w ⟨rfl, H⟩
    refine CondT.bool (fun ht => ?_) (fun ht => ?_)
    · exact ⟨Eq.trans (b := .int .i64 i) rfl (by rw [findIdx_at hlt' (fun j hj => hno j hj (by omega)) ht]; rfl), H⟩
    · refine ArO.i64 ?_
      refine ⟨rfl, i + 1, ⟨rfl, rfl, rfl, rfl, trivial⟩, ⟨H, by omega, fun j hj hx => ?_⟩, by omega⟩
      rcases Nat.lt_or_ge j i with hji | hji
      · exact hno j hji hx
      · have : j = i := by omega
        subst this
        exact ht
  · exact ⟨Eq.trans (b := .int .i64 (-1)) rfl (by rw [findIdx_no]; rfl; intro y hy; obtain ⟨j, hj, rfl⟩ := List.mem_iff_getElem.1 hy; exact hno j (by omega) hj), H⟩
theorem findIdx_any {α : Type} (p : α → Bool) (xs : List α) : (xs.findIdx? p).isSome = xs.any p := by
  induction xs with
  | nil => rfl
  | cons y r ih => rw [List.findIdx?_cons]; cases hp : p y <;> simp [hp, ih]
theorem containsFuncI (H : St g h w L) {sv : Value} {xs : List Int} (hs : IntS h sv xs) (hl : xs.length ≤ 4611686018427387904) (k : Nat) (caps : Array Value) (p : Int → Bool)
    (hf : ∀ x ∈ xs, ∀ w, St g h w L → Ret Tryz.prog k ([] ++ [.int .i64 x] ++ caps.toList) w fun v w' => v = .bool (p x) ∧ St g h w' L) :
    Ret Tryz.prog 30 [sv, .func (.func k) #[] caps] w fun v w' => v = .bool (xs.any p) ∧ St g h w' L := by
  refine Ret.enter tabOk Tryz.func30 rfl (by rfl) rfl (by rfl) (by kernel_rfl) ?_
  refine (indexFuncI H hs hl k caps p hf).mono ?_; rintro _ w ⟨rfl, H⟩
  exact ⟨Eq.trans (b := .bool (decide (0 ≤ ix (xs.findIdx? p)))) rfl (by rw [ix_nonneg, findIdx_any]), H⟩
/-- Searching with a function of the program's: rows of several cells. -/
theorem indexFuncE (H : St g h w L) {sv : Value} {xs : List Ent} (hs : Sl h 4 sv (xs.map entR)) (hl : xs.length ≤ 4611686018427387904) (k : Nat) (caps : Array Value) (p : Ent → Bool)
    (hf : ∀ x ∈ xs, ∀ w, St g h w L → Ret Tryz.prog k ([] ++ [entV x] ++ caps.toList) w fun v w' => v = .bool (p x) ∧ St g h w' L) :
    Ret Tryz.prog 77 [sv, .func (.func k) #[] caps] w fun v w' => v = .int .i64 (ix (xs.findIdx? p)) ∧ St g h w' L := by
  refine Ret.enter tabOk Tryz.func77 rfl (by rfl) rfl (by rfl) (by kernel_rfl) ?_
  obtain ⟨a, cap, rfl⟩ := hs.lenM
  refine LoopO.run (σ := Nat) (fun i => [(0, .slice a xs.length cap), (1, .func (.func k) #[] caps), (7, .int .i64 xs.length), (8, .int .i64 i)])
    (fun i w => St g h w L ∧ i ≤ xs.length ∧ ∀ j (hj : j < i) (hx : j < xs.length), p xs[j] = false) (fun i => xs.length - i) 0 (by exact ⟨rfl, rfl, rfl, rfl, trivial⟩) ⟨H, Nat.zero_le _, fun j hj => absurd hj (Nat.not_lt_zero j)⟩ ?_
  rintro i w e ⟨H, hi, hno⟩
  refine CondT.dec (fun hlt => ?_) (fun hge => ?_)
  · have hlt' : i < xs.length := by omega
    obtain ⟨b, o, hidx, hrow⟩ := hs.idxM hlt'
    refine hidx _ _ _ rfl ?_
    refine LdO.hrow H hrow rfl ?_
    refine (hf _ (List.getElem_mem hlt') w H).mono ?_
    rintro _ w ⟨rfl, H⟩
    refine CondT.bool (fun ht => ?_) (fun ht => ?_)
    · exact ⟨Eq.trans (b := .int .i64 i) rfl (by rw [findIdx_at hlt' (fun j hj => hno j hj (by omega)) ht]; rfl), H⟩
    · refine ArO.i64 ?_
      refine ⟨rfl, i + 1, ⟨rfl, rfl, rfl, rfl, trivial⟩, ⟨H, by omega, fun j hj hx => ?_⟩, by omega⟩
      rcases Nat.lt_or_ge j i with hji | hji
      · exact hno j hji hx
      · have : j = i := by omega
        subst this
        exact ht
  · exact ⟨Eq.trans (b := .int .i64 (-1)) rfl (by rw [findIdx_no]; rfl; intro y hy; obtain ⟨j, hj, rfl⟩ := List.mem_iff_getElem.1 hy; exact hno j (by omega) hj), H⟩
end Go.Proofs.YtbdoinigeaaclaaGreat
set_option maxRecDepth 20000
namespace Go.Proofs.YtbdoinigeaaclaaGreat
open Go RL PQ
variable {g : World} {h : Hp} {w : World} {L : List (Nat × Obj)}
def evR (e : Ev) : List Value := [.int .i64 e.time, .int .i64 e.handle]
abbrev EvS (h : Hp) (v : Value) (l : List Ev) : Prop := Sl h 2 v (l.map evR)
def callL (c : PQ.Call) : List Value := [.int .i64 c.kind, .int .i64 c.time, .int .i64 c.handle, .int .i64 c.max, .int .i64 c.bound]
def callV (c : PQ.Call) : Value := .agg (callL c).toArray
def resL (r : Res) (ev : Value) : List Value := [.int .i64 r.err, .int .i64 r.rh, .bool r.canc, ev]
def resV (r : Res) (ev : Value) : Value := .agg (resL r ev).toArray
/-- A completed call as it lies in memory: the call, and the slice of its events. -/
structure DP where
  d : Done
  ea : Option Addr
  ec : Nat
def DP.ev (p : DP) : Value := .slice p.ea p.d.res.evs.length p.ec
def DP.row (p : DP) : List Value := [.int .i64 p.d.thread, .int .i64 p.d.call.kind, .int .i64 p.d.call.time, .int .i64 p.d.call.handle, .int .i64 p.d.call.max, .int .i64 p.d.call.bound,
  .int .i64 p.d.res.err, .int .i64 p.d.res.rh, .bool p.d.res.canc, p.ev, .int .i64 p.d.beg, .int .i64 p.d.point, .int .i64 p.d.fin]
def DP.val (p : DP) : Value := .agg p.row.toArray
def ds (l : List DP) : List Done := l.map (·.d)
structure DnS (h : Hp) (v : Value) (l : List DP) : Prop where
  sl : Sl h 13 v (l.map DP.row)
  ev : ∀ p ∈ l, EvS h p.ev p.d.res.evs
theorem DnS.le {h h' : Hp} {v : Value} {l : List DP} (hs : DnS h v l) (hl : h.le h') : DnS h' v l := ⟨hs.sl.le hl, fun p hp => (hs.ev p hp).le hl⟩
theorem precedes (H : St g h w L) (a b : DP) : Ret Tryz.prog 25 [a.val, b.val] w fun v w' => v = .bool (prec a.d b.d) ∧ St g h w' L := by
  refine Ret.enter tabOk Tryz.func25 rfl (by rfl) rfl (by rfl) (by kernel_rfl) ?_
  refine AllocO.own H fun b1 w1 H => ?_
  refine AllocO.own H fun b2 w2 H => ?_
  refine LdO.own H (.tail .head) rfl ?_
  refine LdO.own H .head rfl ?_
  exact ⟨rfl, H.tail.tail⟩
theorem overlap (H : St g h w L) (a b : DP) : Ret Tryz.prog 35 [a.val, b.val] w fun v w' => v = .bool (overl a.d b.d) ∧ St g h w' L := by
  refine Ret.enter tabOk Tryz.func35 rfl (by rfl) rfl (by rfl) (by kernel_rfl) ?_
  refine AllocO.own H fun b1 w1 H => ?_
  refine AllocO.own H fun b2 w2 H => ?_
  refine LdO.owns H (.tail .head) rfl ?_
  refine LdO.owns H .head rfl ?_
  refine (precedes H a b).mono ?_; rintro _ w3 ⟨rfl, H⟩
  refine CondT.bool (fun h1 => ?_) (fun h1 => ?_)
  · refine LdO.owns H .head rfl ?_
    refine LdO.owns H (.tail .head) rfl ?_
    refine (precedes H b a).mono ?_; rintro _ w4 ⟨rfl, H⟩
    exact ⟨Eq.trans (b := .bool (!prec b.d a.d)) rfl (by rw [overl, h1]; rfl), H.tail.tail⟩
  · exact ⟨Eq.trans (b := .bool false) rfl (by rw [overl, h1]; rfl), H.tail.tail⟩
theorem valid1 (H : St g h w L) (a b : DP) {ba k : Nat} {fz : Nat × Nat} (ha : At (ba, .cells a.row.toArray 40 fz) k L) :
    Ret Tryz.prog 34 [b.val, .pointer (some ⟨ba, 0, none⟩)] w fun v w' => v = .bool (decide (a.d.thread = b.d.thread) && overl a.d b.d) ∧ St g h w' L := by
  refine Ret.enter tabOk Tryz.func34 rfl (by rfl) rfl (by rfl) (by kernel_rfl) ?_
  refine AllocO.own H fun b1 w1 H => ?_
  refine LdO.own H (.tail ha) rfl ?_
  refine LdO.own H .head rfl ?_
  refine CondT.dec (fun h1 => ?_) (fun h1 => ?_)
  · refine LdO.owns H (.tail ha) rfl ?_
    refine LdO.owns H .head rfl ?_
    refine (overlap H a b).mono ?_; rintro _ w4 ⟨rfl, H⟩
    exact ⟨Eq.trans (b := .bool (overl a.d b.d)) rfl (by simp [h1]), H.tail⟩
  · exact ⟨Eq.trans (b := .bool false) rfl (by simp [h1]), H.tail⟩
theorem indexFuncD (H : St g h w L) {sv : Value} {xs : List DP} (hs : Sl h 13 sv (xs.map DP.row)) (hl : xs.length ≤ 4611686018427387904) (k : Nat) (caps : Array Value) (p : DP → Bool)
    (hf : ∀ x ∈ xs, ∀ w, St g h w L → Ret Tryz.prog k ([] ++ [x.val] ++ caps.toList) w fun v w' => v = .bool (p x) ∧ St g h w' L) :
    Ret Tryz.prog 50 [sv, .func (.func k) #[] caps] w fun v w' => v = .int .i64 (ix (xs.findIdx? p)) ∧ St g h w' L := by
  refine Ret.enter tabOk Tryz.func50 rfl (by rfl) rfl (by rfl) (by kernel_rfl) ?_
  obtain ⟨a, cap, rfl⟩ := hs.lenM
  refine LoopO.run (σ := Nat) (fun i => [(0, .slice a xs.length cap), (1, .func (.func k) #[] caps), (7, .int .i64 xs.length), (8, .int .i64 i)])
    (fun i w => St g h w L ∧ i ≤ xs.length ∧ ∀ j (hj : j < i) (hx : j < xs.length), p xs[j] = false) (fun i => xs.length - i) 0 (by exact ⟨rfl, rfl, rfl, rfl, trivial⟩) ⟨H, Nat.zero_le _, fun j hj => absurd hj (Nat.not_lt_zero j)⟩ ?_
  rintro i w e ⟨H, hi, hno⟩
  refine CondT.dec (fun hlt => ?_) (fun hge => ?_)
  · have hlt' : i < xs.length := by omega
    obtain ⟨b, o, hidx, hrow⟩ := hs.idxM hlt'
    refine hidx _ _ _ rfl ?_
    refine LdO.hrow H hrow rfl ?_
    refine (hf _ (List.getElem_mem hlt') w H).mono ?_
    rintro _ w ⟨rfl, H⟩
    refine CondT.bool (fun ht => ?_) (fun ht => ?_)
    · exact ⟨Eq.trans (b := .int .i64 i) rfl (by rw [findIdx_at hlt' (fun j hj => hno j hj (by omega)) ht]; rfl), H⟩
    · refine ArO.i64 ?_
      refine ⟨rfl, i + 1, ⟨rfl, rfl, rfl, rfl, trivial⟩, ⟨H, by omega, fun j hj hx => ?_⟩, by omega⟩
      rcases Nat.lt_or_ge j i with hji | hji
      · exact hno j hji hx
      · have : j = i := by omega
        subst this
        exact ht
  · exact ⟨Eq.trans (b := .int .i64 (-1)) rfl (by rw [findIdx_no]; rfl; intro y hy; obtain ⟨j, hj, rfl⟩ := List.mem_iff_getElem.1 hy; exact hno j (by omega) hj), H⟩
theorem containsFuncD (H : St g h w L) {sv : Value} {xs : List DP} (hs : Sl h 13 sv (xs.map DP.row)) (hl : xs.length ≤ 4611686018427387904) (k : Nat) (caps : Array Value) (p : DP → Bool)
    (hf : ∀ x ∈ xs, ∀ w, St g h w L → Ret Tryz.prog k ([] ++ [x.val] ++ caps.toList) w fun v w' => v = .bool (p x) ∧ St g h w' L) :
    Ret Tryz.prog 33 [sv, .func (.func k) #[] caps] w fun v w' => v = .bool (xs.any p) ∧ St g h w' L := by
  refine Ret.enter tabOk Tryz.func33 rfl (by rfl) rfl (by rfl) (by kernel_rfl) ?_
  refine (indexFuncD H hs hl k caps p hf).mono ?_; rintro _ w ⟨rfl, H⟩
  exact ⟨Eq.trans (b := .bool (decide (0 ≤ ix (xs.findIdx? p)))) rfl (by rw [ix_nonneg, findIdx_any]), H⟩
theorem any_ds (l : List DP) (p : Done → Bool) (i : Nat) : ((ds l).take i).any p = (l.take i).any fun x => p x.d := by
  unfold ds
  rw [← List.map_take, List.any_map]; rfl
theorem valid (H : St g h w L) {sv : Value} {l : List DP} (hs : DnS h sv l) : Ret Tryz.prog 15 [sv] w fun v w' => v = .bool (validL (ds l)) ∧ St g h w' L := by
  refine Ret.enter tabOk Tryz.func15 rfl (by rfl) rfl (by rfl) (by kernel_rfl) ?_
  obtain ⟨a, cap, rfl⟩ := hs.sl.lenM
  have hdl : (ds l).length = l.length := by simp [ds]
  refine CondT.dec (fun h1 => ?_) (fun h1 => ?_)
  · exact ⟨Eq.trans (b := .bool false) rfl (by rw [validL_long (by omega)]), H⟩
  have hl10 : l.length ≤ 10 := by omega
  refine LoopO.run (σ := Nat) (fun i => [(0, .slice a l.length cap), (8, .slice a l.length cap), (9, .int .i64 l.length), (10, .int .i64 i)])
    (fun i w => St g h w L ∧ i ≤ l.length ∧ ∀ j, j < i → okAt (ds l) j = true) (fun i => l.length - i) 0 (by exact ⟨rfl, rfl, rfl, rfl, trivial⟩) ⟨H, Nat.zero_le _, fun j hj => absurd hj (Nat.not_lt_zero j)⟩ ?_
  rintro i w e ⟨H, hi, hno⟩
  refine CondT.dec (fun hlt => ?_) (fun hge => ?_)
  · have hlt' : i < l.length := by omega
    obtain ⟨b, o, hidx, hrow⟩ := hs.sl.idxM hlt'
    have hget : (ds l)[i]? = some l[i].d := by simp [ds, hlt']
    have hok : okAt (ds l) i = (decide (0 ≤ l[i].d.beg) && decide (l[i].d.beg ≤ l[i].d.fin) && decide (l[i].d.fin ≤ 1099511627776) && !((l.take i).any fun b => decide (l[i].d.thread = b.d.thread) && overl l[i].d b.d)) := by
      rw [okAt, hget]; simp only [any_ds]
    refine hidx _ _ _ rfl ?_
    refine LdO.hrow H hrow rfl ?_
    refine AllocO.own H fun b4 w H => ?_
    refine StO.own H .head rfl rfl rfl fun w H => ?_
    have hno' : okAt (ds l) i = false → validL (ds l) = false := fun h => validL_not (by omega) h
    refine LdO.own H .head rfl ?_
    refine CondT.dec (fun h2 => ?_) (fun h2 => ?_)
    · exact ⟨Eq.trans (b := .bool false) rfl (by rw [hno' (by rw [hok, decide_eq_false (by omega)]; rfl)]), H.tail⟩
    refine LdO.own H .head rfl ?_
    refine LdO.own H .head rfl ?_
    refine CondT.dec (fun h3 => ?_) (fun h3 => ?_)
    · exact ⟨Eq.trans (b := .bool false) rfl (by rw [hno' (by rw [hok, decide_eq_false (show ¬ l[i].d.beg ≤ l[i].d.fin by omega), Bool.and_false]; rfl)]), H.tail⟩
    refine LdO.own H .head rfl ?_
    refine CondT.dec (fun h4 => ?_) (fun h4 => ?_)
    · exact ⟨Eq.trans (b := .bool false) rfl (by rw [hno' (by rw [hok, decide_eq_false (show ¬ l[i].d.fin ≤ 1099511627776 by omega), Bool.and_false]; rfl)]), H.tail⟩
    refine Sl.takeO hs.sl (by rw [List.length_map]; omega) fun v' hv' => ?_
    rw [← List.map_take] at hv'
    refine (containsFuncD H hv' (by rw [List.length_take]; omega) _ _ (fun b => decide (l[i].d.thread = b.d.thread) && overl l[i].d b.d) fun x _ w H => valid1 H l[i] x .head).mono ?_
    rintro _ w ⟨rfl, H⟩
    refine CondT.bool (fun h5 => ?_) (fun h5 => ?_)
    · exact ⟨Eq.trans (b := .bool false) rfl (by rw [hno' (by rw [hok, h5]; simp)]), H.tail⟩
    refine ArO.i64 ?_
    refine ⟨rfl, i + 1, ⟨rfl, rfl, rfl, rfl, trivial⟩, ⟨H.tail, by omega, fun j hj => ?_⟩, by omega⟩
    rcases Nat.lt_or_ge j i with hji | hji
    · exact hno j hji
    · have : j = i := by omega
      subst this
      rw [hok, h5, decide_eq_true (show 0 ≤ l[j].d.beg by omega), decide_eq_true (show l[j].d.beg ≤ l[j].d.fin by omega), decide_eq_true (show l[j].d.fin ≤ 1099511627776 by omega)]; rfl
  · exact ⟨Eq.trans (b := .bool true) rfl (by rw [validL_of (by omega) (fun j hj => hno j (by omega))]), H⟩
end Go.Proofs.YtbdoinigeaaclaaGreat
set_option maxRecDepth 20000
namespace Go.Proofs.YtbdoinigeaaclaaGreat
open Go RL PQ
variable {g : World} {h : Hp} {w : World} {L : List (Nat × Obj)}
theorem evEql (w : World) (a b c d : Int) : (Op.equal 48 (.agg #[.int .i64 a, .int .i64 b]) (.agg #[.int .i64 c, .int .i64 d])).run Tryz.prog w = .ok (decide (a = c) && decide (b = d)) w := by
  have hu := Tryz.underlying48
  have hi := Tryz.underlying3
  have hf : (Tryz.prog).fieldsOf 48 = #[{ name := "Time", type := 3, offset := 0, embedded := false, tag := "", pkgPath := "", byteOffset := 0 }, { name := "Handle", type := 3, offset := 1, embedded := false, tag := "", pkgPath := "", byteOffset := 8 }] := by
    unfold Program.fieldsOf; rw [hu]
  have ha := ty3.isAgg w
  have hag : ti3.agg = false := rfl
  rw [hag] at ha
  unfold Op.equal Op.maxDepth
  rw [run_equalIn_struct w _ _ _ _ (by rw [hf]; exact hu) (by kernel_rfl), hf]
  simp [Op.eqFields, part, ha, run_equalIn_int w _ 3 .i64 .i64 _ _ hi]
  by_cases h1 : a = c <;> by_cases h2 : b = d <;> simp [h1, h2]
theorem evNeqO {d : Option Tmp} {x y : Operand} {ty : TypeId} {pos : String} {af : Array Edge} {gd : Option (Nat × Bool)} {e : Env} {a b : Ev} (hx : ev e x = .agg (evR a).toArray) (hy : ev e y = .agg (evR b).toArray)
    {K : Value → Prop} (k : K (.bool (decide (a ≠ b)))) : PurO Tryz.prog ⟨d, .binOp .neq 48 x y 48, ty, pos, af, gd⟩ e K := by
  refine ⟨⟨_, fun w => ?_, k⟩⟩
  have he : execOp (ev e) ⟨d, .binOp .neq 48 x y 48, ty, pos, af, gd⟩ = ((do eqGuard .neq 48 x y (ev e x) (ev e y); Go.binOp .neq 48 (ev e x) (ev e y)) >>= fun r => pure (.value r)) := rfl
  have hg : ((Tryz.prog).eqGuardType (Tryz.prog).depth 48) = false := by kernel_rfl
  rw [he, hx, hy]
  have h1 : (eqGuard .neq 48 x y (.agg (evR a).toArray) (.agg (evR b).toArray)).run Tryz.prog w = .ok () w := by
    simp [eqGuard, hg]
  have h2 := evEql w a.time a.handle b.time b.handle
  have h3 : (Go.binOp .neq 48 (.agg (evR a).toArray) (.agg (evR b).toArray)).run Tryz.prog w = .ok (.bool (!(decide (a.time = b.time) && decide (a.handle = b.handle)))) w := by
    simp only [Go.binOp, evR, Sem.run_bind, h2, Result.andThen_ok, Sem.run_pure]
  have h4 : (!(decide (a.time = b.time) && decide (a.handle = b.handle))) = decide (a ≠ b) := by
    cases a; cases b
    simp [Bool.eq_iff_iff]
  simp only [Sem.run_bind, h1, h3, h4, Result.andThen_ok, Sem.run_pure]
theorem equalEv (H : St g h w L) {v1 v2 : Value} {l1 l2 : List Ev} (h1 : EvS h v1 l1) (h2 : EvS h v2 l2) (hl : l1.length ≤ 4611686018427387904) :
    Ret Tryz.prog 66 [v1, v2] w fun v w' => v = .bool (decide (l1 = l2)) ∧ St g h w' L := by
  refine Ret.enter tabOk Tryz.func66 rfl (by rfl) rfl (by rfl) (by kernel_rfl) ?_
  obtain ⟨a1, cap1, rfl⟩ := h1.lenM
  obtain ⟨a2, cap2, rfl⟩ := h2.lenM
  refine CondT.dec (fun hne => ?_) (fun heq => ?_)
  · exact ⟨Eq.trans (b := .bool false) rfl (by rw [decide_eq_false]; rintro rfl; exact hne rfl), H⟩
  have hll : l1.length = l2.length := by have := Classical.not_not.1 heq; omega
  refine LoopO.run (σ := Nat) (fun i => [(0, .slice a1 l1.length cap1), (1, .slice a2 l2.length cap2), (12, .int .i64 l1.length), (13, .int .i64 i)])
    (fun i w => St g h w L ∧ i ≤ l1.length ∧ ∀ j (hj : j < i) (hx : j < l1.length), l1[j] = l2[j]) (fun i => l1.length - i) 0 (by exact ⟨rfl, rfl, rfl, rfl, trivial⟩) ⟨H, Nat.zero_le _, fun j hj => absurd hj (Nat.not_lt_zero j)⟩ ?_
  rintro i w e ⟨H, hi, hno⟩
  refine CondT.dec (fun hlt => ?_) (fun hge => ?_)
  · have hlt1 : i < l1.length := by omega
    have hlt2 : i < l2.length := by omega
    obtain ⟨b1, o1, hidx1, hrow1⟩ := h1.idxM hlt1
    obtain ⟨b2, o2, hidx2, hrow2⟩ := h2.idxM hlt2
    refine DrawO.st H (pl [0, 1, 2, 3, 4, 5, 6, 7, 8] .nil) (by kernel_rfl) fun w H => ?_
    refine hidx1 _ _ _ rfl ?_
    refine LdQ.hrow hrow1 rfl ?_
    refine hidx2 _ _ _ rfl ?_
    refine LdQ.hrow hrow2 rfl ?_
    refine evNeqO (a := l1[i]) (b := l2[i]) rfl rfl ?_
    refine CondT.dec (fun h3 => ?_) (fun h3 => ?_)
    · exact ⟨Eq.trans (b := .bool false) rfl (by rw [decide_eq_false]; rintro rfl; exact h3 rfl), H⟩
    · refine ArO.i64 ?_
      refine ⟨rfl, i + 1, ⟨rfl, rfl, rfl, rfl, trivial⟩, ⟨H, by omega, fun j hj hx => ?_⟩, by omega⟩
      rcases Nat.lt_or_ge j i with hji | hji
      · exact hno j hji hx
      · have : j = i := by omega
        subst this
        exact Classical.not_not.1 h3
  · exact ⟨Eq.trans (b := .bool true) rfl (by rw [decide_eq_true]; exact List.ext_getElem hll (fun j hj hj' => hno j (by omega) hj)), H⟩
/-- A result as it lies in memory. -/
structure RP where
  r : Res
  ea : Option Addr
  ec : Nat
def RP.ev (p : RP) : Value := .slice p.ea p.r.evs.length p.ec
def RP.row (p : RP) : List Value := [.int .i64 p.r.err, .int .i64 p.r.rh, .bool p.r.canc, p.ev]
def RP.val (p : RP) : Value := .agg p.row.toArray
def RP.ok (h : Hp) (p : RP) : Prop := EvS h p.ev p.r.evs
theorem RP.ok.le {h h' : Hp} {p : RP} (hp : p.ok h) (hl : h.le h') : p.ok h' := Sl.le hp hl
theorem equalR (H : St g h w L) {a b : RP} (ha : a.ok h) (hb : b.ok h) (hl : a.r.evs.length ≤ 4611686018427387904) :
    Ret Tryz.prog 48 [a.val, b.val] w fun v w' => v = .bool (decide (a.r = b.r)) ∧ St g h w' L := by
  have key : decide (a.r = b.r) = (decide (a.r.err = b.r.err) && decide (a.r.rh = b.r.rh) && (a.r.canc == b.r.canc) && decide (a.r.evs = b.r.evs)) := by
    obtain ⟨⟨e1, r1, c1, v1⟩, _, _⟩ := a
    obtain ⟨⟨e2, r2, c2, v2⟩, _, _⟩ := b
    rw [Bool.eq_iff_iff]; simp [and_assoc]
  refine Ret.enter tabOk Tryz.func48 rfl (by rfl) rfl (by rfl) (by kernel_rfl) ?_
  refine AllocO.own H fun b1 w H => ?_
  refine AllocO.own H fun b2 w H => ?_
  refine LdO.own H (.tail .head) rfl ?_
  refine LdO.own H .head rfl ?_
  refine CondT.dec (fun h1 => ?_) (fun h1 => ?_)
  · refine LdO.own H (.tail .head) rfl ?_
    refine LdO.own H .head rfl ?_
    refine CondT.dec (fun h2 => ?_) (fun h2 => ?_)
    · refine LdO.own H (.tail .head) rfl ?_
      refine LdO.own H .head rfl ?_
      refine CondT.bool (fun h3 => ?_) (fun h3 => ?_)
      · refine LdO.own H (.tail .head) rfl ?_
        refine LdO.own H .head rfl ?_
        refine (equalEv H ha hb hl).mono ?_; rintro _ w ⟨rfl, H⟩
        exact ⟨Eq.trans (b := .bool (decide (a.r.evs = b.r.evs))) rfl (by rw [key, h3, decide_eq_true h1, decide_eq_true h2]; simp), H.tail.tail⟩
      · exact ⟨Eq.trans (b := .bool false) rfl (by rw [key, h3]; simp), H.tail.tail⟩
    · exact ⟨Eq.trans (b := .bool false) rfl (by rw [key, decide_eq_false h2]; simp), H.tail.tail⟩
  · exact ⟨Eq.trans (b := .bool false) rfl (by rw [key, decide_eq_false h1]; simp), H.tail.tail⟩
/-- A model as it lies in memory. -/
structure MP where
  m : Mod
  ea : Option Addr
  ec : Nat
  ia : Option Addr
  ic : Nat
def MP.ents (p : MP) : Value := .slice p.ea p.m.ents.length p.ec
def MP.iss (p : MP) : Value := .slice p.ia p.m.issued.length p.ic
def MP.row (p : MP) : List Value := [.int .i64 p.m.cap, p.ents, .int .i64 p.m.next, p.iss]
def MP.val (p : MP) : Value := .agg p.row.toArray
structure MP.ok (h : Hp) (p : MP) : Prop where
  e : Sl h 4 p.ents (p.m.ents.map entR)
  i : IntS h p.iss p.m.issued
theorem MP.ok.le {h h' : Hp} {p : MP} (hp : p.ok h) (hl : h.le h') : p.ok h' := ⟨hp.e.le hl, hp.i.le hl⟩
def newM (cap : Int) : Mod := ⟨cap, [], 0, []⟩
def newP (cap : Int) : MP := ⟨newM cap, none, 0, none, 0⟩
theorem newP_ok (h : Hp) (cap : Int) : (newP cap).ok h := ⟨Sl.nil h 4, Sl.nil h 1⟩
theorem newInv {cap : Int} (h1 : 1 ≤ cap) (h2 : cap ≤ 64) : Inv 0 (newM cap) := ⟨h1, h2, by show ((0 : Nat) : Int) ≤ cap; omega, rfl, Nat.le_refl _, List.Pairwise.nil, fun e he => by cases he⟩
theorem pqNew (H : St g h w L) (cap : Int) : Ret Tryz.prog 23 [.int .i64 cap] w fun v w' =>
    v = (if cap < 1 ∨ 64 < cap then .tuple #[(newP 0).val, .int .i64 1] else .tuple #[(newP cap).val, .int .i64 0]) ∧ St g h w' L := by
  refine Ret.enter tabOk Tryz.func23 rfl (by rfl) rfl (by rfl) (by kernel_rfl) ?_
  refine AllocO.own H fun b1 w H => ?_
  refine CondT.dec (fun h1 => ?_) (fun h1 => ?_)
  · refine CondT.mk ?_
    refine StO.own H .head rfl rfl rfl fun w H => ?_
    refine LdO.owns H .head rfl ?_
    exact ⟨Eq.trans (b := .tuple #[(newP 0).val, .int .i64 1]) rfl (by rw [if_pos (.inl h1)]), H.tail⟩
  · refine CondT.dec (fun h2 => ?_) (fun h2 => ?_)
    · refine StO.own H .head rfl rfl rfl fun w H => ?_
      refine LdO.owns H .head rfl ?_
      exact ⟨Eq.trans (b := .tuple #[(newP 0).val, .int .i64 1]) rfl (by rw [if_pos (.inr h2)]), H.tail⟩
    · refine StO.own H .head rfl rfl rfl fun w H => ?_
      refine LdO.owns H .head rfl ?_
      exact ⟨Eq.trans (b := .tuple #[(newP cap).val, .int .i64 0]) rfl (by rw [if_neg (by omega)]), H.tail⟩
def failR (e : Int) : RP := ⟨{ err := e }, none, 0⟩
theorem fail (H : St g h w L) (p : MP) (e : Int) : Ret Tryz.prog 65 [p.val, .int .i64 e] w fun v w' => v = .tuple #[p.val, (failR e).val] ∧ St g h w' L := by
  refine Ret.enter tabOk Tryz.func65 rfl (by rfl) rfl (by rfl) (by kernel_rfl) ?_
  refine AllocO.own H fun b1 w H => ?_
  refine AllocO.own H fun b2 w H => ?_
  refine AllocO.own H fun b3 w H => ?_
  refine LdO.owns H (.tail (.tail .head)) rfl ?_
  refine StO.own H (.tail .head) rfl rfl rfl fun w H => ?_
  refine StO.own H .head rfl rfl rfl fun w H => ?_
  refine LdO.owns H (.tail .head) rfl ?_
  refine LdO.owns H .head rfl ?_
  exact ⟨rfl, H.tail.tail.tail⟩
theorem cloneE (H : St g h w L) {sv : Value} {rows : List (List Value)} (hs : Sl h 4 sv rows) (hone : ∀ r ∈ rows, oneCells r = true) (hl : rows.length ≤ 1000000) :
    Ret Tryz.prog 75 [sv] w fun v w' => ∃ x, OwnSl 161 4 v rows x ∧ St g h w' (x ++ L) := by
  refine Ret.enter tabOk Tryz.func75 rfl (by rfl) rfl (by rfl) (by kernel_rfl) ?_
  obtain ⟨a, cap, hv⟩ := hs.len
  subst hv
  refine CondT.bool (fun h1 => ?_) (fun h1 => ?_)
  · refine ⟨[], ?_, H⟩
    have hr : rows = [] := by
      obtain ⟨a', cap', he, _, _, h4⟩ := hs
      cases he
      refine Classical.not_not.1 fun hne => ?_
      obtain ⟨b, o, ha, _⟩ := h4 hne
      rw [ha] at h1; cases h1
    subst hr
    exact OwnSl.nil _ _
  · refine AllocO.own H fun b1 w H => ?_
    have ho : OwnSl 161 4 (.slice (some ⟨b1, 0, none⟩) 0 0) [] [(b1, .cells #[] 161 (0, 0))] := ⟨by simp, .inr ⟨b1, #[], 0, rfl, Nat.le_refl _, rfl, rfl, rfl⟩⟩
    refine RunO.app tabOk rfl rfl rfl rfl rfl rfl (xx := [(b1, .cells #[] 161 (0, 0))]) H ho (hs.src H.tail) hone (by show (2 * (0 + rows.length) + 1024) * 32 ≤ _; omega) fun v' w' x' ho' H' => ?_
    exact ⟨x', ho', H'⟩
end Go.Proofs.YtbdoinigeaaclaaGreat
