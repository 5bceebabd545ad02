/- Binary search over entries. Conditions: slices are short.
   Clipping, inserting into an owned slice. Conditions: slices are short.
   The model's insert. Conditions: the model holds its invariant, slices are short.
   The model's cancel. Conditions: slices are short.
   The model's batch, one call of the model, a result accepted. Conditions: slices are short.
   One call of the model; a result accepted. Conditions: the model holds its invariant. -/
import Derived.Test.YtbdoinigeaaclaaGreatW1
set_option linter.all false
set_option maxRecDepth 20000
namespace Go.Proofs.YtbdoinigeaaclaaGreat
open Go RL PQ
variable {g : World} {h : Hp} {w : World} {L : List (Nat × Obj)}
theorem binSE (H : St g h w L) {sv : Value} {xs : List Ent} (hs : Sl h 4 sv (xs.map entR)) (hl : xs.length ≤ 4611686018427387904) (tgt : Ent) (k : Nat) (c : Ent → Int)
    (hf : ∀ x ∈ xs, ∀ w L, St g h w L → Ret Tryz.prog k ([] ++ [entV x, entV tgt] ++ []) w fun v w' => v = .int .i64 (c x) ∧ St g h w' L)
    {p : Nat} (hp : p ≤ xs.length) (hlo : ∀ j (hj : j < p), c (xs[j]'(by omega)) < 0) (hhi : ∀ j (_ : p ≤ j) (hj : j < xs.length), ¬ c xs[j] < 0) :
    Ret Tryz.prog 72 [sv, entV tgt, .func (.func k) #[] #[]] w fun v w' => v = .tuple #[.int .i64 p, .bool (if hx : p < xs.length then decide (c xs[p] = 0) else false)] ∧ St g h w' L := by
  refine Ret.enter tabOk Tryz.func72 rfl (by rfl) rfl (by rfl) (by kernel_rfl) ?_
  obtain ⟨a, cap, rfl⟩ := hs.lenM
  refine AllocO.own H fun b1 w H => ?_
  refine LoopO.run (σ := Nat × Nat) (fun i => [(0, .slice a xs.length cap), (2, .func (.func k) #[] #[]), (4, .pointer (some ⟨b1, 0, none⟩)), (8, .int .i64 xs.length), (9, .int .i64 i.1), (10, .int .i64 i.2)])
    (fun i w => St g h w ((b1, .cells (entR tgt).toArray 161 (0, 0)) :: L) ∧ i.1 ≤ p ∧ p ≤ i.2 ∧ i.2 ≤ xs.length) (fun i => i.2 - i.1) (0, xs.length) (by exact ⟨rfl, rfl, rfl, rfl, rfl, rfl, trivial⟩) ⟨H, Nat.zero_le _, hp, Nat.le_refl _⟩ ?_
  rintro ⟨i, j⟩ w e ⟨H, h1, h2, h3⟩
  simp only at h1 h2 h3
  refine CondT.dec (fun hlt => ?_) (fun hge => ?_)
  · have hlt' : i < j := by simpa using hlt
    refine ArO.i64 ?_ (by simp only; omega) (by simp only; omega)
    refine ArO.u64 ?_ (by simp only; omega) (by simp only; omega)
    refine ShO.shr (n := 1) rfl (by decide) ?_
    refine ArO.i64 ?_ (by simp only; omega) (by simp only; omega)
    have hm : ((i : Int) + (j : Int)) / 2 ^ 1 = (((i + j) / 2 : Nat) : Int) := by omega
    simp only [hm]
    have hmid : (i + j) / 2 < xs.length := by omega
    obtain ⟨b, o, hidx, hrow⟩ := hs.idxM hmid
    refine DrawO.st H (pl [0, 1, 2, 3, 4, 5, 1006, 7] .nil) (by kernel_rfl) fun w H => ?_
    refine hidx _ _ _ rfl ?_
    refine LdQ.hrow hrow rfl ?_
    refine LdQ.owns .head rfl ?_
    refine (hf _ (List.getElem_mem hmid) w _ H).mono ?_; rintro _ w ⟨rfl, H⟩; refine ⟨H, ?_⟩
    refine CondT.dec (fun hc => ?_) (fun hc => ?_)
    · refine ArO.i64 ?_ (by omega) (by omega)
      refine ⟨rfl, ((i + j) / 2 + 1, j), ⟨rfl, rfl, rfl, rfl, rfl, rfl, trivial⟩, ⟨H, ?_, h2, h3⟩, by simp only; omega⟩
      simp only
      refine Classical.not_not.1 fun hn => hhi _ (by omega) hmid hc
    · refine ⟨rfl, (i, (i + j) / 2), ⟨rfl, rfl, rfl, rfl, rfl, rfl, trivial⟩, ⟨H, h1, ?_, by simp only; omega⟩, by simp only; omega⟩
      simp only
      refine Classical.not_not.1 fun hn => hc (hlo _ (by omega))
  · have hpi : i = p := by simp only at hge; omega
    subst hpi
    refine DrawO.st H (pl [0, 1, 2, 3, 4, 5, 6, 7, 8, 9, 10, 1011, 12, 13, 14, 15] .nil) (by kernel_rfl) fun w H => ?_
    refine CondT.dec (fun hx => ?_) (fun hx => ?_)
    · have hx' : i < xs.length := by simp only at hx; omega
      obtain ⟨b, o, hidx, hrow⟩ := hs.idxM hx'
      refine hidx _ _ _ rfl ?_
      refine LdQ.hrow hrow rfl ?_
      refine LdQ.owns .head rfl ?_
      refine (hf _ (List.getElem_mem hx') w _ H).mono ?_; rintro _ w ⟨rfl, H⟩; refine ⟨H, ?_⟩
      exact ⟨Eq.trans (b := .tuple #[.int .i64 i, .bool (decide (c xs[i] = 0))]) rfl (by rw [dif_pos hx']), H.tail⟩
    · have hx' : ¬ i < xs.length := by simp only at hx; omega
      exact ⟨Eq.trans (b := .tuple #[.int .i64 i, .bool false]) rfl (by rw [dif_neg hx']), H.tail⟩
end Go.Proofs.YtbdoinigeaaclaaGreat
set_option maxRecDepth 20000
namespace Go.Proofs.YtbdoinigeaaclaaGreat
open Go RL PQ
variable {g : World} {h : Hp} {w : World} {L : List (Nat × Obj)}
theorem clipI (H : St g h w L) {sv : Value} {rows : List (List Value)} (hs : Sl h 1 sv rows) : Ret Tryz.prog 76 [sv] w fun v w' => (∃ a, v = .slice a rows.length rows.length ∧ Sl h 1 (.slice a rows.length rows.length) rows) ∧ St g h w' L := by
  refine Ret.enter tabOk Tryz.func76 rfl (by rfl) rfl (by rfl) (by kernel_rfl) ?_
  obtain ⟨a, cap, hv⟩ := hs.len
  subst hv
  refine Sl.clipO hs fun a hs' => ?_
  exact ⟨⟨a, rfl, hs'⟩, H⟩
theorem insertS {bb : Nat} {row : List Value} {x : List (Nat × Obj)} (H : St g h w (x ++ (bb, .cells row.toArray 161 (0, 0)) :: L)) {sv : Value} {rows : List (List Value)} (ho : OwnSl 161 4 sv rows x) (hrow : row.length = 4) (h1c : oneCells row = true) {i : Nat} (hi : i ≤ rows.length) (hl : rows.length ≤ 900000) :
    Ret Tryz.prog 74 [sv, .int .i64 i, .slice (some ⟨bb, 0, none⟩) 1 1] w fun v w' => ∃ x', OwnSl 161 4 v (rows.take i ++ row :: rows.drop i) x' ∧ St g h w' (x' ++ L) := by
  refine Ret.enter tabOk Tryz.func74 rfl (by rfl) rfl (by rfl) (by kernel_rfl) ?_
  rcases Nat.eq_or_lt_of_le hi with hin | hin
  · subst hin
    obtain ⟨a, cap, rfl, hcap⟩ := ho.len
    refine SlcO.lo rfl (Nat.le_refl _) hcap ?_
    refine CondT.dec (fun h1 => ?_) (fun _ => ?_)
    · exact absurd h1 (by decide)
    refine CondT.dec (fun _ => ?_) (fun h1 => absurd rfl h1)
    have hat : ∃ k, At (bb, .cells row.toArray 161 (0, 0)) k (x ++ (bb, .cells row.toArray 161 (0, 0)) :: L) := by
      clear H ho
      induction x with
      | nil => exact ⟨0, .head⟩
      | cons q x ih => obtain ⟨k, hk⟩ := ih; exact ⟨k + 1, .tail hk⟩
    obtain ⟨k, hk⟩ := hat
    have hsrc : Src w 4 (.slice (some ⟨bb, 0, none⟩) 1 1) [row] := H.srcOwn hk (by simpa using hrow) (by simp) rfl
    refine RunO.app tabOk rfl rfl rfl rfl rfl rfl H ho hsrc (by simpa using h1c) (by show (2 * (rows.length + 1) + 1024) * 32 ≤ _; omega) fun v' w' x' ho' H' => ?_
    refine ⟨x', ?_, ?_⟩
    · rw [List.take_length, List.drop_length]; exact ho'
    · exact H'.sub (by simp)
  · obtain ⟨hr, ⟨rfl, rfl, rfl⟩ | ⟨b, c, cap, rfl, hcap, hcs, hc3, rfl⟩⟩ := ho
    · exact absurd hin (Nat.not_lt_zero i)
    have hr4 : ∀ r ∈ rows, r.length = 4 := fun r h => (hr r h).1
    have hro : oneCells (rows.drop i).flatten = true := oneCells_flatten fun r hx => (hr r (List.mem_of_mem_drop hx)).2
    have hfl := flat_len rows hr4
    have hdl : (rows.drop i).flatten.length = (rows.length - i) * 4 := by rw [flatten_drop hr4, List.length_drop, hfl]; omega
    have htl : (rows.take i).flatten.length = i * 4 := by rw [flatten_take hr4, List.length_take, hfl]; omega
    have hres : ∀ r ∈ rows.take i ++ row :: rows.drop i, r.length = 4 ∧ oneCells r = true := by
      intro r hx
      rcases List.mem_append.1 hx with hx | hx
      · exact hr r (List.mem_of_mem_take hx)
      · rcases List.mem_cons.1 hx with rfl | hx
        · exact ⟨hrow, h1c⟩
        · exact hr r (List.mem_of_mem_drop hx)
    have hlen : rows.length + 1 = (rows.take i ++ row :: rows.drop i).length := by
      simp only [List.length_append, List.length_take, List.length_cons, List.length_drop]; omega
    have hflat : (rows.take i ++ row :: rows.drop i).flatten = (rows.take i).flatten ++ row ++ (rows.drop i).flatten := by simp
    refine SlcO.lo' rfl (Nat.le_of_lt hin) hcap (by omega) ?_
    refine CondT.dec (fun h1 => ?_) (fun _ => ?_)
    · exact absurd h1 (by decide)
    refine CondT.dec (fun h1 => absurd h1 (by omega)) (fun _ => ?_)
    refine ArO.i64 ?_
    refine CondT.dec (fun hgrow => ?_) (fun hroom => ?_)
    · -- it grows
      refine SlcO.hi rfl (by omega) ?_
      refine ArO.i64 ?_
      refine ArO.i64 ?_
      have hz : ((rows.length : Int) + 1 - (i : Int)) = ((rows.length + 1 - i : Nat) : Int) := by omega
      have hiz : i + (rows.length + 1 - i) = rows.length + 1 := by omega
      have htk : (rows.take i).length = i := by rw [List.length_take]; omega
      refine RunO.appZeros tabOk rfl rfl rfl rfl rfl rfl (n := i) (z := rows.length + 1 - i) H rfl (by exact congrArg (Value.int .i64) hz) hiz (vs := (rows.take i).flatten) (fun w' H' => ?_) (by omega)
        (by show (2 * (i + (rows.length + 1 - i)) + 1024) * 32 ≤ _; omega) (by omega) htl fun b2 w nc c2 hnc hs2 ht2 H => ?_
      · have := (H'.srcTake .head hr4 hc3 hi (cap := cap)).run (P := Tryz.prog)
        rw [htk] at this
        exact this.1
      have hs2 : c2.size = nc * 4 := hs2
      have ht2 : c2.toList.take (i * 4) = (rows.take i).flatten := ht2
      refine SlcO.lo' rfl (by omega) hnc (by omega) ?_
      have hbc : Cells w bb 0 row := H.cellsAt (.tail (.tail .head)) fun j hj => by simp
      refine RunO.copy tabOk rfl rfl rfl H .head rfl rfl (n := 1) (by omega) hbc (by exact hrow) h1c (by show 0 + i * 4 + 1 * 4 ≤ c2.size; omega) fun w H => ?_
      refine DrawO.free H (pl [0, 1, 2, 3, 4, 5, 6, 7, 1008] .nil) (by kernel_rfl) fun w H => ?_
      refine ArO.i64 ?_
      refine SlcO.lo' (n := i + 1) rfl (by omega) hnc (by omega) ?_
      refine SlcO.lo' rfl (by omega) hcap (by omega) ?_
      refine RunO.copy tabOk rfl rfl rfl H .head rfl rfl (n := rows.length - i) (by omega) (H.cellsDrop (.tail .head) hr4 hc3) hdl hro (by rw [putA_size]; show 0 + (i + 1) * 4 + (rows.length - i) * 4 ≤ c2.size; omega) fun w H => ?_
      refine ⟨trivial, ?_⟩
      refine ⟨_, ownSl_mk (c := putA (putA c2 (i * 4) row) ((i + 1) * 4) (rows.drop i).flatten) hlen hres hnc (by rw [putA_size, putA_size]; exact hs2) ?_, ?_⟩
      · have := put_low (c := c2) (o := i * 4) (T := (rows.take i).flatten) (r := row) (D := (rows.drop i).flatten) ht2 htl (by omega)
        rw [hflat, ← this, hrow, hdl]
        rw [show i * 4 + 4 + (rows.length - i) * 4 = (rows.length + 1) * 4 by omega, show i * 4 + 4 = (i + 1) * 4 by omega]
      · have : St g h w ((b2, .cells (putA (putA c2 (0 + i * 4) row) (0 + (i + 1) * 4) (rows.drop i).flatten) 161 (0, 0)) :: (b, .cells c 161 (0, 0)) :: (bb, .cells row.toArray 161 (0, 0)) :: L) := H
        rw [Nat.zero_add, Nat.zero_add] at this
        exact this.sub (by simp)
    · -- there is room
      refine ArO.i64 ?_
      refine SlcO.hi rfl (by omega) ?_
      refine ArO.i64 ?_
      refine SlcO.lo' (n := i + 1) rfl (by omega) (by omega) (by omega) ?_
      have hne : bb ≠ b := by
        have := H.nodup
        simp only [List.cons_append, List.nil_append, List.map_cons, List.nodup_cons, List.mem_cons, not_or] at this
        exact fun e => this.1.1 e.symm
      refine Ret.overlaps (t := 64) (r := 4) tabOk rfl rfl (by rfl) (by kernel_rfl) (by kernel_rfl) rfl rfl rfl H (.tail .head) .head hne (by rw [hcs]; omega) ?_
      refine CondT.mk ?_
      refine DrawO.free H (pl [0, 1, 2, 3, 4, 5, 6, 7, 1008] .nil) (by kernel_rfl) fun w H => ?_
      refine ArO.i64 ?_
      refine SlcO.lo' (n := i + 1) rfl (by omega) (by omega) (by omega) ?_
      refine SlcO.lo' rfl (by omega) (by omega) (by omega) ?_
      refine RunO.copy tabOk rfl rfl rfl H .head rfl rfl (n := rows.length - i) (by omega) (H.cellsDrop .head hr4 hc3) hdl hro (by show 0 + (i + 1) * 4 + (rows.length - i) * 4 ≤ c.size; omega) fun w H => ?_
      refine ⟨trivial, ?_⟩
      refine SlcO.lo' rfl (by omega) (by omega) (by omega) ?_
      have hbc : Cells w bb 0 row := H.cellsAt (.tail .head) fun j hj => by simp
      refine RunO.copy tabOk rfl rfl rfl H .head rfl rfl (n := 1) (by omega) hbc (by exact hrow) h1c (by rw [putA_size]; show 0 + i * 4 + 1 * 4 ≤ c.size; omega) fun w H => ?_
      refine ⟨_, ownSl_mk (c := putA (putA c ((i + 1) * 4) (rows.drop i).flatten) (i * 4) row) hlen hres (by omega) (by rw [putA_size, putA_size]; exact hcs) ?_, ?_⟩
      · have hT : c.toList.take (i * 4) = (rows.take i).flatten := by
          rw [flatten_take hr4, ← hc3, List.take_take, Nat.min_eq_left (by omega)]
        have := put_high (c := c) (o := i * 4) (T := (rows.take i).flatten) (r := row) (D := (rows.drop i).flatten) hT htl (by omega)
        rw [hflat, ← this, hrow, hdl]
        rw [show i * 4 + 4 + (rows.length - i) * 4 = (rows.length + 1) * 4 by omega, show i * 4 + 4 = (i + 1) * 4 by omega]
      · have : St g h w ((b, .cells (putA (putA c (0 + (i + 1) * 4) (rows.drop i).flatten) (0 + i * 4) row) 161 (0, 0)) :: (bb, .cells row.toArray 161 (0, 0)) :: L) := H
        rw [Nat.zero_add, Nat.zero_add] at this
        exact this.sub (by simp)
end Go.Proofs.YtbdoinigeaaclaaGreat
set_option maxRecDepth 20000
namespace Go.Proofs.YtbdoinigeaaclaaGreat
open Go RL PQ
variable {g : World} {h : Hp} {w : World} {L : List (Nat × Obj)}
/-- What a call of the model hands back. -/
def DoPost (g : World) (h : Hp) (L : List (Nat × Obj)) (x : Mod × Res) : Value → World → Prop := fun v w =>
  ∃ (h' : Hp) (p' : MP) (r : RP), h.le h' ∧ v = .tuple #[p'.val, r.val] ∧ p'.ok h' ∧ r.ok h' ∧ (p'.m, r.r) = x ∧ St g h' w L
theorem failR_ok (h : Hp) (e : Int) : (failR e).ok h := Sl.nil h 2
theorem cmpE_lt {e : Ent} {t s : Int} (hs : e.seq < s) : (cmpE e.time e.seq t s < 0) ↔ e.time ≤ t := by
  unfold cmpE cmpI
  by_cases h1 : e.time < t
  · simp [h1]; omega
  · by_cases h2 : t < e.time
    · simp [h1, h2]
    · simp [h1, h2, hs]; omega
theorem insE_rows (l : List Ent) (e : Ent) : (l.map entR).take (pos l e.time) ++ entR e :: (l.map entR).drop (pos l e.time) = (insE l e).map entR := by
  unfold insE
  simp [List.map_take, List.map_drop]
theorem oneCells_entR (e : Ent) : oneCells (entR e) = true := rfl
set_option maxHeartbeats 1000000 in
theorem insertC (H : St g h w L) {p : MP} (hp : p.ok h) (c : PQ.Call) (hd : Int) {n : Nat} (hi : Inv n p.m) (hn : n ≤ 1000) :
    Ret Tryz.prog 62 [p.val, callV c, .int .i64 hd] w (DoPost g h L (insM p.m c hd)) := by
  have hcap := hi.cap2
  have hlen := hi.len
  have hiss := hi.issued
  have hnext := hi.next
  refine Ret.enter tabOk Tryz.func62 rfl (by rfl) rfl (by rfl) (by kernel_rfl) ?_
  refine AllocO.own H fun b3 w H => ?_
  refine AllocO.own H fun b4 w H => ?_
  refine AllocO.own H fun b6 w H => ?_
  refine AllocO.own H fun b7 w H => ?_
  have bad : ∀ (w : World) (e : Int), St g h w L → DoPost g h L (p.m, { err := e }) (.tuple #[p.val, (failR e).val]) w := fun w e H => ⟨h, p, failR e, Hp.le_refl h, rfl, hp, failR_ok h e, rfl, H⟩
  refine LdO.own H (.tail (.tail .head)) rfl ?_
  refine CondT.dec (fun h1 => ?_) (fun h1 => ?_)
  · refine CondT.mk ?_
    refine LdO.owns H (.tail (.tail (.tail .head))) rfl ?_
    refine (fail H p 1).mono ?_; rintro _ w ⟨rfl, H⟩
    refine StO.own H (.tail .head) rfl rfl rfl fun w H => ?_
    refine StO.own H .head rfl rfl rfl fun w H => ?_
    refine LdO.owns H (.tail .head) rfl ?_
    refine LdO.owns H .head rfl ?_
    have := bad w 1 H.tail.tail.tail.tail
    rw [insM, if_pos (.inl h1)]
    exact this
  refine LdO.own H (.tail (.tail .head)) rfl ?_
  refine CondT.dec (fun h2 => ?_) (fun h2 => ?_)
  · refine LdO.owns H (.tail (.tail (.tail .head))) rfl ?_
    refine (fail H p 1).mono ?_; rintro _ w ⟨rfl, H⟩
    refine StO.own H (.tail .head) rfl rfl rfl fun w H => ?_
    refine StO.own H .head rfl rfl rfl fun w H => ?_
    refine LdO.owns H (.tail .head) rfl ?_
    refine LdO.owns H .head rfl ?_
    have := bad w 1 H.tail.tail.tail.tail
    rw [insM, if_pos (.inr h2)]
    exact this
  have h12 : ¬ (c.time < 0 ∨ 1152921504606846976 < c.time) := by omega
  refine LdO.own H (.tail (.tail (.tail .head))) rfl ?_
  refine LdO.own H (.tail (.tail (.tail .head))) rfl ?_
  refine CondT.dec (fun h3 => ?_) (fun h3 => ?_)
  · refine LdO.owns H (.tail (.tail (.tail .head))) rfl ?_
    refine (fail H p 10).mono ?_; rintro _ w ⟨rfl, H⟩
    refine StO.own H (.tail .head) rfl rfl rfl fun w H => ?_
    refine StO.own H .head rfl rfl rfl fun w H => ?_
    refine LdO.owns H (.tail .head) rfl ?_
    refine LdO.owns H .head rfl ?_
    have := bad w 10 H.tail.tail.tail.tail
    rw [insM, if_neg h12, if_pos h3]
    exact this
  refine (handleValid H hd).mono ?_; rintro _ w ⟨rfl, H⟩
  refine CondT.bool (fun h4 => ?_) (fun h4 => ?_)
  · refine CondT.mk ?_
    refine LdO.owns H (.tail (.tail (.tail .head))) rfl ?_
    refine (fail H p 1).mono ?_; rintro _ w ⟨rfl, H⟩
    refine StO.own H (.tail .head) rfl rfl rfl fun w H => ?_
    refine StO.own H .head rfl rfl rfl fun w H => ?_
    refine LdO.owns H (.tail .head) rfl ?_
    refine LdO.owns H .head rfl ?_
    have := bad w 1 H.tail.tail.tail.tail
    rw [insM, if_neg h12, if_neg h3, if_pos (.inl (by simpa using h4))]
    exact this
  refine LdO.own H (.tail (.tail (.tail .head))) rfl ?_
  refine (containsI H hp.i (by omega) hd).mono ?_; rintro _ w ⟨rfl, H⟩
  refine CondT.bool (fun h5 => ?_) (fun h5 => ?_)
  · refine LdO.owns H (.tail (.tail (.tail .head))) rfl ?_
    refine (fail H p 1).mono ?_; rintro _ w ⟨rfl, H⟩
    refine StO.own H (.tail .head) rfl rfl rfl fun w H => ?_
    refine StO.own H .head rfl rfl rfl fun w H => ?_
    refine LdO.owns H (.tail .head) rfl ?_
    refine LdO.owns H .head rfl ?_
    have := bad w 1 H.tail.tail.tail.tail
    rw [insM, if_neg h12, if_neg h3, if_pos (.inr h5)]
    exact this
  have hM : insM p.m c hd = ({ p.m with ents := insE p.m.ents ⟨c.time, p.m.next, hd, false⟩, next := p.m.next + 1, issued := p.m.issued ++ [hd] }, { rh := hd }) := by
    rw [insM, if_neg h12, if_neg h3, if_neg (by rw [h5]; simp at h4; simp [h4])]
  refine LdO.own H (.tail (.tail .head)) rfl ?_
  refine LdO.own H (.tail (.tail (.tail .head))) rfl ?_
  refine AllocO.own H fun b8 w H => ?_
  refine StO.own H .head rfl rfl rfl fun w H => ?_
  refine LdO.own H (.tail (.tail (.tail (.tail .head)))) rfl ?_
  refine LdO.owns H .head rfl ?_
  have hpos : pos p.m.ents c.time ≤ p.m.ents.length := takeWhile_pos
  refine (binSE H hp.e (by omega) ⟨c.time, p.m.next, hd, false⟩ 73 (fun e => cmpE e.time e.seq c.time p.m.next) (fun x hx w L H => compareE H x _) (p := pos p.m.ents c.time) hpos
    (fun j hj => (cmpE_lt (hi.seqs _ (List.getElem_mem _))).2 (pos_lo hj _)) (fun j hj hj' => by rw [cmpE_lt (hi.seqs _ (List.getElem_mem _))]; have := pos_hi hi.sorted hj hj'; omega)).mono ?_
  rintro _ w ⟨rfl, H⟩
  have hS : ∀ (w : World) (L' : List (Nat × Obj)) (h : Hp), St g h w L' → (b8, Obj.cells (entR ⟨c.time, p.m.next, hd, false⟩).toArray 161 (0, 0)) ∈ L' → Cells w b8 0 (entR ⟨c.time, p.m.next, hd, false⟩) := fun w L' h H hm => H.cellsMem hm
  refine DrawO.wi H (fun w => Cells w b8 0 (entR ⟨c.time, p.m.next, hd, false⟩)) (fun w H => hS w _ _ H (.head _)) (pl [0, 3, 4] (.ll 1 (.ll 2 (pl [1005, 1006, 7, 1008] .nil) 5 (pl [1002, 1006, 7, 1008] .nil)) 5 (pl [1001, 1002, 1006, 7, 1008] .nil))) (by kernel_rfl) fun w H => ?_
  refine LdQ.cells (fun w h => h) rfl ?_
  have hone : ∀ r ∈ p.m.ents.map entR, oneCells r = true := fun r hr => by
    obtain ⟨e, _, rfl⟩ := List.mem_map.1 hr; rfl
  have hml : (p.m.ents.map entR).length = p.m.ents.length := List.length_map ..
  refine ⟨?_, ?_⟩
  refine LdO.own H (.tail (.tail (.tail (.tail .head)))) rfl ⟨hS _ _ _ H (.head _), ?_⟩
  refine ⟨?_, ?_⟩
  refine (cloneE H hp.e hone (by omega)).mono ?_; rintro v w ⟨x, ho, H⟩
  refine ⟨hS _ _ _ H (List.mem_append_right _ (.head _)), ?_⟩
  refine AllocO.own H fun b9 w H => ⟨hS _ _ _ H (.tail _ (List.mem_append_right _ (.head _))), ?_⟩
  have H := H.perm List.perm_middle.symm
  rotate_left
  refine AllocO.own H fun b9 w H => ⟨hS _ _ _ H (.tail _ (.head _)), ?_⟩
  refine (cloneE H hp.e hone (by omega)).mono ?_; rintro v w ⟨x, ho, H⟩
  refine ⟨hS _ _ _ H (List.mem_append_right _ (.tail _ (.head _))), ?_⟩
  rotate_left
  refine AllocO.own H fun b9 w H => ⟨hS _ _ _ H (.tail _ (.head _)), ?_⟩
  refine LdO.own H (.tail (.tail (.tail (.tail (.tail .head))))) rfl ⟨hS _ _ _ H (.tail _ (.head _)), ?_⟩
  refine (cloneE H hp.e hone (by omega)).mono ?_; rintro v w ⟨x, ho, H⟩
  refine ⟨hS _ _ _ H (List.mem_append_right _ (.tail _ (.head _))), ?_⟩
  all_goals
    have H : St g h w (x ++ (b9, .cells (entR ⟨c.time, p.m.next, hd, false⟩).toArray 161 (0, 0)) :: _) := H
    refine (insertS (row := entR ⟨c.time, p.m.next, hd, false⟩) H ho rfl rfl (i := pos p.m.ents c.time) (by omega) (by omega)).mono ?_; rintro v w ⟨x', ho', H⟩
    rw [insE_rows p.m.ents ⟨c.time, p.m.next, hd, false⟩] at ho'
    refine (OwnSl.sealIt ho' H).elim fun h' q => ?_
    have hle := q.1; have H := q.2.1; have hs' := q.2.2
    refine ⟨hS _ _ _ H (.head _), ?_⟩
    refine (Sl.lenM hs').elim fun ea q2 => q2.elim fun ec q2 => ?_
    subst q2
    refine StO.own H (.tail (.tail (.tail (.tail .head)))) rfl rfl rfl fun w H => ⟨hS _ _ _ H (.head _), ?_⟩
    refine LdO.own H (.tail (.tail (.tail (.tail .head)))) rfl ?_
    refine (clipI H (hp.i.le hle)).mono ?_; intro v w q
    have H := q.2; refine q.1.elim fun a q => ?_
    have hcl := q.2; have q1 := q.1; subst q1
    refine AllocO.own H fun b10 w H => ?_
    have hsrc : Src w 1 (.slice (some ⟨b10, 0, none⟩) 1 1) [[.int .i64 hd]] := H.srcOwn .head (by simp) rfl rfl
    have hil : (p.m.issued.map intR).length = p.m.issued.length := List.length_map ..
    refine RunO.appFull tabOk rfl rfl rfl rfl rfl rfl H rfl hcl (fun r hr => by obtain ⟨z, _, rfl⟩ := List.mem_map.1 hr; rfl) hsrc (by simp) (by simp [oneCells, Value.oneCell']) (by show (2 * ((p.m.issued.map intR).length + 1) + 1024) * 8 ≤ _; omega) fun v w x2 ho2 H => ?_
    refine (OwnSl.sealIt ho2 H).elim fun h2 q => ?_
    have hle2 := q.1; have H := q.2.1; have hs2 := q.2.2
    have hs3 : IntS h2 v (p.m.issued ++ [hd]) := by
      have : (p.m.issued ++ [hd]).map intR = p.m.issued.map intR ++ [[.int .i64 hd]] := by simp [intR]
      show Sl h2 1 v ((p.m.issued ++ [hd]).map intR)
      rw [this]; exact hs2
    refine (Sl.lenM hs3).elim fun ia q2 => q2.elim fun ic q2 => ?_
    subst q2
    have H := H.tail
    refine StO.own H (.tail (.tail (.tail (.tail .head)))) rfl rfl rfl fun w H => ?_
    refine LdO.own H (.tail (.tail (.tail (.tail .head)))) rfl ?_
    refine ArO.i64 ?_
    refine StO.own H (.tail (.tail (.tail (.tail .head)))) rfl rfl rfl fun w H => ?_
    refine LdO.owns H (.tail (.tail (.tail (.tail .head)))) rfl ?_
    refine StO.own H (.tail (.tail .head)) rfl rfl rfl fun w H => ?_
    refine StO.own H (.tail .head) rfl rfl rfl fun w H => ?_
    refine LdO.owns H (.tail (.tail .head)) rfl ?_
    refine LdO.owns H (.tail .head) rfl ?_
    refine ⟨h2, ⟨⟨p.m.cap, insE p.m.ents ⟨c.time, p.m.next, hd, false⟩, p.m.next + 1, p.m.issued ++ [hd]⟩, ea, ec, ia, ic⟩, ⟨{ rh := hd }, none, 0⟩, Hp.le_trans hle hle2, rfl, ⟨hs'.le hle2, hs3⟩, Sl.nil h2 2, hM.symm, H.tail.tail.tail.tail.tail⟩
end Go.Proofs.YtbdoinigeaaclaaGreat
set_option maxRecDepth 20000
namespace Go.Proofs.YtbdoinigeaaclaaGreat
open Go RL PQ
variable {g : World} {h : Hp} {w : World} {L : List (Nat × Obj)}
theorem cancel1 (H : St g h w L) (e : Ent) {c : PQ.Call} {bc k : Nat} {fz : Nat × Nat} (ha : At (bc, .cells (callL c).toArray 34 fz) k L) :
    Ret Tryz.prog 78 [entV e, .pointer (some ⟨bc, 0, none⟩)] w fun v w' => v = .bool (canP c.handle e) ∧ St g h w' L := by
  refine Ret.enter tabOk Tryz.func78 rfl (by rfl) rfl (by rfl) (by kernel_rfl) ?_
  refine AllocO.own H fun b1 w H => ?_
  refine LdO.own H .head rfl ?_
  refine LdO.own H (.tail ha) rfl ?_
  refine CondT.dec (fun h1 => ?_) (fun h1 => ?_)
  · refine LdO.own H .head rfl ?_
    exact ⟨Eq.trans (b := .bool (!e.dead)) rfl (by rw [canP, decide_eq_true h1, Bool.true_and]), H.tail⟩
  · exact ⟨Eq.trans (b := .bool false) rfl (by rw [canP, decide_eq_false h1, Bool.false_and]), H.tail⟩
theorem modify_rows (l : List Ent) (i : Nat) : (l.map entR).modify i (·.set 3 (.bool true)) = (l.modify i fun e => { e with dead := true }).map entR := by
  induction l generalizing i with
  | nil => simp
  | cons e l ih => cases i with
    | zero => rfl
    | succ i => simp only [List.map_cons, List.modify_succ_cons, ih]
theorem cancelC (H : St g h w L) {p : MP} (hp : p.ok h) (c : PQ.Call) (hd : Int) {n : Nat} (hi : Inv n p.m) (hn : n ≤ 1000) :
    Ret Tryz.prog 63 [p.val, callV c, .int .i64 hd] w (DoPost g h L (canM p.m c)) := by
  have hcap := hi.cap2
  have hlen := hi.len
  have hone : ∀ r ∈ p.m.ents.map entR, oneCells r = true := fun r hr => by
    obtain ⟨e, _, rfl⟩ := List.mem_map.1 hr; rfl
  have hml : (p.m.ents.map entR).length = p.m.ents.length := List.length_map ..
  refine Ret.enter tabOk Tryz.func63 rfl (by rfl) rfl (by rfl) (by kernel_rfl) ?_
  refine AllocO.own H fun b3 w H => ?_
  refine AllocO.own H fun b4 w H => ?_
  refine AllocO.own H fun b6 w H => ?_
  refine AllocO.own H fun b7 w H => ?_
  refine LdO.own H (.tail (.tail (.tail .head))) rfl ?_
  refine (indexFuncE H hp.e (by omega) 78 #[.pointer (some ⟨b4, 0, none⟩)] (canP c.handle) (fun x hx w H => cancel1 H x (c := c) (.tail (.tail .head)))).mono ?_; rintro _ w ⟨rfl, H⟩
  cases hf : p.m.ents.findIdx? (canP c.handle) with
  | none =>
    refine CondT.dec (fun _ => ?_) (fun h1 => absurd (show (-1 : Int) < 0 by decide) h1)
    refine LdO.owns H (.tail (.tail (.tail .head))) rfl ?_
    refine StO.own H (.tail .head) rfl rfl rfl fun w H => ?_
    refine StO.own H .head rfl rfl rfl fun w H => ?_
    refine LdO.owns H (.tail .head) rfl ?_
    refine LdO.owns H .head rfl ?_
    exact ⟨h, p, ⟨{}, none, 0⟩, Hp.le_refl h, rfl, hp, Sl.nil h 2, by rw [canM, hf], H.tail.tail.tail.tail⟩
  | some i =>
    have hil : i < p.m.ents.length := (List.findIdx?_eq_some_iff_getElem.1 hf).1
    refine CondT.dec (fun h1 => absurd h1 (show ¬ ((i : Int) < 0) by omega)) (fun _ => ?_)
    refine LdO.own H (.tail (.tail (.tail .head))) rfl ?_
    refine (cloneE H hp.e hone (by omega)).mono ?_; rintro v w ⟨x, ho, H⟩
    obtain ⟨hr, ⟨rfl, hnil, rfl⟩ | ⟨b, cs, cap, rfl, hcap', hcs, hc3, rfl⟩⟩ := ho
    · rw [List.map_eq_nil_iff] at hnil
      rw [hnil] at hil; exact absurd hil (Nat.not_lt_zero i)
    refine StO.own H (.tail (.tail (.tail (.tail .head)))) rfl rfl rfl fun w H => ?_
    refine LdO.own H (.tail (.tail (.tail (.tail .head)))) rfl ?_
    refine IdxO.at0 rfl (by omega) ?_
    refine StO.own H .head rfl rfl (Nat.ble_eq_true_of_le (by show i * 4 + 3 + 1 ≤ cs.size; omega)) fun w H => ?_
    have hrow : ∀ r ∈ p.m.ents.map entR, r.length = 4 := fun r hx => (hr r hx).1
    have ho2 : OwnSl 161 4 (.slice (some ⟨b, 0, none⟩) (p.m.ents.map entR).length cap) ((p.m.ents.modify i fun e => { e with dead := true }).map entR) [(b, .cells (putA cs (i * 4 + 3) [.bool true]) 161 (0, 0))] := by
      refine ownSl_mk (by simp) (fun r hx => ?_) hcap' (by rw [putA_size]; exact hcs) ?_
      · obtain ⟨e, _, rfl⟩ := List.mem_map.1 hx; exact ⟨rfl, rfl⟩
      · rw [putA_one, List.take_set, hc3, flatten_set _ (by decide) hrow, modify_rows]
    have H : St g h w ([(b, .cells (putA cs (i * 4 + 3) [.bool true]) 161 (0, 0))] ++ _) := H
    refine (OwnSl.sealIt ho2 H).elim fun h' q => ?_
    have hle := q.1; have H := q.2.1; have hs' := q.2.2
    refine LdO.owns H (.tail (.tail (.tail .head))) rfl ?_
    refine StO.own H (.tail .head) rfl rfl rfl fun w H => ?_
    refine StO.own H .head rfl rfl rfl fun w H => ?_
    refine LdO.owns H (.tail .head) rfl ?_
    refine LdO.owns H .head rfl ?_
    have hv : Value.slice (some ⟨b, 0, none⟩) (p.m.ents.map entR).length cap = (⟨⟨p.m.cap, p.m.ents.modify i fun e => { e with dead := true }, p.m.next, p.m.issued⟩, some ⟨b, 0, none⟩, cap, p.ia, p.ic⟩ : MP).ents := by
      show _ = Value.slice _ _ _
      simp
    rw [hv] at hs' ⊢
    exact ⟨h', ⟨⟨p.m.cap, p.m.ents.modify i fun e => { e with dead := true }, p.m.next, p.m.issued⟩, some ⟨b, 0, none⟩, cap, p.ia, p.ic⟩, ⟨{ canc := true }, none, 0⟩, hle, rfl, ⟨hs', hp.i.le hle⟩, Sl.nil h' 2, by rw [canM, hf], H.tail.tail.tail.tail⟩
end Go.Proofs.YtbdoinigeaaclaaGreat
set_option maxRecDepth 20000
namespace Go.Proofs.YtbdoinigeaaclaaGreat
open Go RL PQ
variable {g : World} {h : Hp} {w : World} {L : List (Nat × Obj)}
structure BatA where
  l : List Ent
  la : Option Addr
  lc : Nat
  out : List Ev
  oa : Option Addr
  oc : Nat
  x : List (Nat × Obj)
theorem batL_len (bound max : Int) : ∀ (l : List Ent) (out : List Ev), (batL bound max l out).1.length ≤ out.length + l.length
  | [], out => by simp [batL]
  | e :: r, out => by
    unfold batL
    split
    · have := batL_len bound max r (if e.dead then out else out ++ [⟨e.time, e.handle⟩])
      have h2 : (if e.dead then out else out ++ [⟨e.time, e.handle⟩]).length ≤ out.length + 1 := by split <;> simp
      simp only [List.length_cons]; omega
    · simp only [List.length_cons]; omega
def BatA.mrow (s : BatA) (p : MP) : List Value := [.int .i64 p.m.cap, .slice s.la s.l.length s.lc, .int .i64 p.m.next, p.iss]
def BatA.rrow (s : BatA) : List Value := [.int .i64 0, .int .i64 0, .bool false, .slice s.oa s.out.length s.oc]
theorem batchC (H : St g h w L) {p : MP} (hp : p.ok h) (c : PQ.Call) (hd : Int) {n : Nat} (hi : Inv n p.m) :
    Ret Tryz.prog 64 [p.val, callV c, .int .i64 hd] w (DoPost g h L (batM p.m c)) := by
  have hcap := hi.cap2
  have hlen := hi.len
  refine Ret.enter tabOk Tryz.func64 rfl (by rfl) rfl (by rfl) (by kernel_rfl) ?_
  refine AllocO.own H fun b3 w H => ?_
  refine AllocO.own H fun b4 w H => ?_
  refine AllocO.own H fun b6 w H => ?_
  refine AllocO.own H fun b7 w H => ?_
  have bad : ∀ (w : World) (e : Int), St g h w L → DoPost g h L (p.m, { err := e }) (.tuple #[p.val, (failR e).val]) w := fun w e H => ⟨h, p, failR e, Hp.le_refl h, rfl, hp, failR_ok h e, rfl, H⟩
  refine LdO.own H (.tail (.tail .head)) rfl ?_
  refine CondT.dec (fun h1 => ?_) (fun h1 => ?_)
  · refine CondT.mk ?_
    refine LdO.owns H (.tail (.tail (.tail .head))) rfl ?_
    refine (fail H p 1).mono ?_; rintro _ w ⟨rfl, H⟩
    refine StO.own H (.tail .head) rfl rfl rfl fun w H => ?_
    refine StO.own H .head rfl rfl rfl fun w H => ?_
    refine LdO.owns H (.tail .head) rfl ?_
    refine LdO.owns H .head rfl ?_
    have := bad w 1 H.tail.tail.tail.tail
    rw [batM, if_pos (.inl h1)]
    exact this
  refine LdO.own H (.tail (.tail .head)) rfl ?_
  refine CondT.dec (fun h2 => ?_) (fun h2 => ?_)
  · refine LdO.owns H (.tail (.tail (.tail .head))) rfl ?_
    refine (fail H p 1).mono ?_; rintro _ w ⟨rfl, H⟩
    refine StO.own H (.tail .head) rfl rfl rfl fun w H => ?_
    refine StO.own H .head rfl rfl rfl fun w H => ?_
    refine LdO.owns H (.tail .head) rfl ?_
    refine LdO.owns H .head rfl ?_
    have := bad w 1 H.tail.tail.tail.tail
    rw [batM, if_pos (.inr h2)]
    exact this
  have hM : batM p.m c = ({ p.m with ents := (batL c.bound c.max p.m.ents []).2 }, { evs := (batL c.bound c.max p.m.ents []).1 }) := by
    rw [batM, if_neg (by omega)]
  refine AllocO.own H fun b8 w H => ?_
  refine LoopO.run (σ := BatA) (fun s => [(3, .pointer (some ⟨b3, 0, none⟩)), (4, .pointer (some ⟨b4, 0, none⟩)), (6, .pointer (some ⟨b6, 0, none⟩)), (7, .pointer (some ⟨b7, 0, none⟩)), (8, .pointer (some ⟨b8, 0, none⟩))])
    (fun s w => St g h w ((b8, .cells s.rrow.toArray 38 (0, 0)) :: (b7, .cells ti38.zero.cells 38 (0, 0)) :: (b6, .cells ti66.zero.cells 66 (0, 0)) :: (b4, .cells (callL c).toArray 34 (0, 0)) :: (b3, .cells (s.mrow p).toArray 66 (0, 0)) :: (s.x ++ L))
      ∧ Sl h 4 (.slice s.la s.l.length s.lc) (s.l.map entR) ∧ OwnSl 48 2 (.slice s.oa s.out.length s.oc) (s.out.map evR) s.x ∧ s.out.length + s.l.length ≤ p.m.ents.length ∧ batL c.bound c.max p.m.ents [] = batL c.bound c.max s.l s.out)
    (fun s => s.l.length) ⟨p.m.ents, p.ea, p.ec, [], none, 0, []⟩ (by exact ⟨rfl, rfl, rfl, rfl, rfl, trivial⟩) ⟨H, hp.e, OwnSl.nil _ _, by simp, rfl⟩ ?_
  rintro ⟨l, la, lc, out, oa, oc, x⟩ w e ⟨H, hs, ho, hn, hb⟩
  simp only at H hs ho hn hb
  have hol : (out.map evR).length = out.length := List.length_map ..
  refine DrawO.st H (pl [0, 1, 2, 3, 4, 5, 6, 7, 8, 9, 10, 11, 12, 13, 14, 15, 16, 17, 18, 19, 20, 21] .nil) (by kernel_rfl) fun w H => ?_
  refine LdQ.own (.tail (.tail (.tail (.tail .head)))) rfl ?_
  refine CondT.dec (fun h3 => ?_) (fun h3 => ?_)
  · have h3' : 0 < l.length := by simp only at h3; omega
    have hl : l = l[0] :: l.drop 1 := by
      cases l with
      | nil => exact absurd h3' (Nat.lt_irrefl 0)
      | cons e l => rfl
    refine LdQ.own (.tail (.tail (.tail (.tail .head)))) rfl ?_
    obtain ⟨be, oe, hidx, hrow⟩ := hs.idxM h3'
    refine hidx _ _ _ rfl ?_
    refine LdQ.hc hrow rfl ?_
    refine LdQ.own (.tail (.tail (.tail .head))) rfl ?_
    refine CondT.dec (fun h4 => ?_) (fun h4 => ?_)
    · refine LdQ.own .head rfl ?_
      refine LdQ.own (.tail (.tail (.tail .head))) rfl ?_
      refine CondT.dec (fun h5 => ?_) (fun h5 => ?_)
      · have hb' : batL c.bound c.max l out = batL c.bound c.max (l.drop 1) (if l[0].dead then out else out ++ [⟨l[0].time, l[0].handle⟩]) := by
          conv => lhs; rw [hl]
          rw [batL, if_pos ⟨h4, h5⟩]
        refine LdO.own H (.tail (.tail (.tail (.tail .head)))) rfl ?_
        refine hidx _ _ _ rfl ?_
        refine LdO.hrow H hrow rfl ?_
        refine AllocO.own H fun b9 w H => ?_
        refine StO.own H .head rfl rfl rfl fun w H => ?_
        refine LdO.own H .head rfl ?_
        refine CondT.bool (fun h6 => ?_) (fun h6 => ?_)
        · have h6' : l[0].dead = false := by cases hd : l[0].dead <;> simp [hd] at h6 ⊢
          rw [h6'] at hb'
          refine LdO.own H (.tail .head) rfl ?_
          refine LdO.own H .head rfl ?_
          refine LdO.own H .head rfl ?_
          refine AllocO.own H fun b10 w H => ?_
          have hsrc : Src w 2 (.slice (some ⟨b10, 0, none⟩) 1 1) [evR ⟨l[0].time, l[0].handle⟩] := H.srcOwn .head (by simp [evR]) rfl rfl
          have H := St.pull (A := [_, _, _, _, _, _, _]) H
          refine RunO.app tabOk rfl rfl rfl rfl rfl rfl H ho hsrc (by simp [oneCells, evR, Value.oneCell']) (by show (2 * ((out.map evR).length + 1) + 1024) * 16 ≤ _; omega) fun v w x' ho' H => ?_
          have H := St.pull (x := [_, _, _, _, _, _, _]) H
          have ho' : OwnSl 48 2 v ((out ++ [(⟨l[0].time, l[0].handle⟩ : Ev)]).map evR) x' := by
            rw [List.map_append]; exact ho'
          refine (OwnSl.lenM ho').elim fun oa' q2 => q2.elim fun oc' q2 => ?_
          subst q2
          refine StO.own H (.tail (.tail .head)) rfl rfl rfl fun w H => ?_
          refine LdO.own H (.tail (.tail (.tail (.tail (.tail (.tail .head)))))) rfl ?_
          refine Sl.dropO (n := 1) hs (by rw [List.length_map]; exact h3') fun v' hs' => ?_
          have hs' : Sl h 4 v' ((l.drop 1).map entR) := by rw [List.map_drop]; exact hs'
          refine (Sl.lenM hs').elim fun la' q2 => q2.elim fun lc' q2 => ?_
          subst q2
          refine StO.own H (.tail (.tail (.tail (.tail (.tail (.tail .head)))))) rfl rfl rfl fun w H => ?_
          exact ⟨rfl, ⟨l.drop 1, la', lc', out ++ [(⟨l[0].time, l[0].handle⟩ : Ev)], oa', oc', x'⟩, ⟨rfl, rfl, rfl, rfl, rfl, trivial⟩, ⟨H.tail.tail, hs', ho', by simp only [List.length_append, List.length_drop, List.length_cons, List.length_nil]; omega, hb.trans hb'⟩, by simp only [List.length_drop]; omega⟩
        · have h6' : l[0].dead = true := by cases hd : l[0].dead <;> simp [hd] at h6 ⊢
          rw [h6'] at hb'
          refine LdO.own H (.tail (.tail (.tail (.tail (.tail .head))))) rfl ?_
          refine Sl.dropO (n := 1) hs (by rw [List.length_map]; exact h3') fun v' hs' => ?_
          have hs' : Sl h 4 v' ((l.drop 1).map entR) := by rw [List.map_drop]; exact hs'
          refine (Sl.lenM hs').elim fun la' q2 => q2.elim fun lc' q2 => ?_
          subst q2
          refine StO.own H (.tail (.tail (.tail (.tail (.tail .head))))) rfl rfl rfl fun w H => ?_
          exact ⟨rfl, ⟨l.drop 1, la', lc', out, oa, oc, x⟩, ⟨rfl, rfl, rfl, rfl, rfl, trivial⟩, ⟨H.tail, hs', ho, by simp only [List.length_drop]; omega, hb.trans hb'⟩, by simp only [List.length_drop]; omega⟩
      · have hb : batL c.bound c.max p.m.ents [] = (out, l) := by
          rw [hb]; conv => lhs; rw [hl]
          rw [batL, if_neg (fun hh => h5 hh.2), ← hl]
        refine LdO.own H (.tail (.tail (.tail (.tail .head)))) rfl ?_
        have hmm : (l.map entR).length = l.length := List.length_map ..
        have hle0 : l.length ≤ p.m.ents.length := by omega
        refine (cloneE H hs (fun r hr => by obtain ⟨e, _, rfl⟩ := List.mem_map.1 hr; rfl) (by omega)).mono ?_; rintro v w ⟨x2, ho2, H⟩
        refine (OwnSl.sealIt ho2 H).elim fun h2 q => ?_
        have hle2 := q.1; have H := q.2.1; have hs2 := q.2.2
        refine (Sl.lenM hs2).elim fun ea q2 => q2.elim fun ec q2 => ?_
        subst q2
        refine StO.own H (.tail (.tail (.tail (.tail .head)))) rfl rfl rfl fun w H => ?_
        refine DrawO.wi H (fun w => Cells w b3 0 [.int .i64 p.m.cap, .slice ea l.length ec, .int .i64 p.m.next, p.iss] ∧ Cells w b8 0 (BatA.rrow ⟨l, la, lc, out, oa, oc, x⟩)) (fun w H => ⟨H.cellsMem (.tail _ (.tail _ (.tail _ (.tail _ (.head _))))), H.cellsMem (.head _)⟩) (pl [0, 1, 1002, 1003] .nil) (by kernel_rfl) fun w H => ?_
        refine LdQ.cells (fun w h => h.1) rfl ?_
        refine LdQ.cells (fun w h => h.2) rfl ?_
        refine StO.own H (.tail (.tail .head)) rfl rfl rfl fun w H => ⟨⟨H.cellsMem (.tail _ (.tail _ (.tail _ (.tail _ (.head _))))), H.cellsMem (.head _)⟩, ?_⟩
        refine StO.own H (.tail .head) rfl rfl rfl fun w H => ⟨⟨H.cellsMem (.tail _ (.tail _ (.tail _ (.tail _ (.head _))))), H.cellsMem (.head _)⟩, ?_⟩
        refine LdO.owns H (.tail (.tail .head)) rfl ?_
        refine LdO.owns H (.tail .head) rfl ?_
        have H := H.tail.tail.tail.tail.tail
        refine (OwnSl.sealIt (ho) H).elim fun h3 q => ?_
        have hle3 := q.1; have H := q.2.1; have hs3 := q.2.2
        exact ⟨h3, ⟨⟨p.m.cap, l, p.m.next, p.m.issued⟩, ea, ec, p.ia, p.ic⟩, ⟨{ evs := out }, oa, oc⟩, Hp.le_trans hle2 hle3, rfl, ⟨hs2.le hle3, (hp.i.le hle2).le hle3⟩, hs3, by rw [hM, hb], H⟩
    · refine CondT.mk ?_
      have hb : batL c.bound c.max p.m.ents [] = (out, l) := by
        rw [hb]; conv => lhs; rw [hl]
        rw [batL, if_neg (fun hh => h4 hh.1), ← hl]
      refine LdO.own H (.tail (.tail (.tail (.tail .head)))) rfl ?_
      have hmm : (l.map entR).length = l.length := List.length_map ..
      have hle0 : l.length ≤ p.m.ents.length := by omega
      refine (cloneE H hs (fun r hr => by obtain ⟨e, _, rfl⟩ := List.mem_map.1 hr; rfl) (by omega)).mono ?_; rintro v w ⟨x2, ho2, H⟩
      refine (OwnSl.sealIt ho2 H).elim fun h2 q => ?_
      have hle2 := q.1; have H := q.2.1; have hs2 := q.2.2
      refine (Sl.lenM hs2).elim fun ea q2 => q2.elim fun ec q2 => ?_
      subst q2
      refine StO.own H (.tail (.tail (.tail (.tail .head)))) rfl rfl rfl fun w H => ?_
      refine DrawO.wi H (fun w => Cells w b3 0 [.int .i64 p.m.cap, .slice ea l.length ec, .int .i64 p.m.next, p.iss] ∧ Cells w b8 0 (BatA.rrow ⟨l, la, lc, out, oa, oc, x⟩)) (fun w H => ⟨H.cellsMem (.tail _ (.tail _ (.tail _ (.tail _ (.head _))))), H.cellsMem (.head _)⟩) (pl [0, 1, 1002, 1003] .nil) (by kernel_rfl) fun w H => ?_
      refine LdQ.cells (fun w h => h.1) rfl ?_
      refine LdQ.cells (fun w h => h.2) rfl ?_
      refine StO.own H (.tail (.tail .head)) rfl rfl rfl fun w H => ⟨⟨H.cellsMem (.tail _ (.tail _ (.tail _ (.tail _ (.head _))))), H.cellsMem (.head _)⟩, ?_⟩
      refine StO.own H (.tail .head) rfl rfl rfl fun w H => ⟨⟨H.cellsMem (.tail _ (.tail _ (.tail _ (.tail _ (.head _))))), H.cellsMem (.head _)⟩, ?_⟩
      refine LdO.owns H (.tail (.tail .head)) rfl ?_
      refine LdO.owns H (.tail .head) rfl ?_
      have H := H.tail.tail.tail.tail.tail
      refine (OwnSl.sealIt (ho) H).elim fun h3 q => ?_
      have hle3 := q.1; have H := q.2.1; have hs3 := q.2.2
      exact ⟨h3, ⟨⟨p.m.cap, l, p.m.next, p.m.issued⟩, ea, ec, p.ia, p.ic⟩, ⟨{ evs := out }, oa, oc⟩, Hp.le_trans hle2 hle3, rfl, ⟨hs2.le hle3, (hp.i.le hle2).le hle3⟩, hs3, by rw [hM, hb], H⟩
  · refine CondT.mk ?_
    refine CondT.mk ?_
    have hb : batL c.bound c.max p.m.ents [] = (out, l) := by
      have hl0 : l = [] := List.eq_nil_of_length_eq_zero (by simp only at h3; omega)
      rw [hb, hl0]; rfl
    refine LdO.own H (.tail (.tail (.tail (.tail .head)))) rfl ?_
    have hmm : (l.map entR).length = l.length := List.length_map ..
    have hle0 : l.length ≤ p.m.ents.length := by omega
    refine (cloneE H hs (fun r hr => by obtain ⟨e, _, rfl⟩ := List.mem_map.1 hr; rfl) (by omega)).mono ?_; rintro v w ⟨x2, ho2, H⟩
    refine (OwnSl.sealIt ho2 H).elim fun h2 q => ?_
    have hle2 := q.1; have H := q.2.1; have hs2 := q.2.2
    refine (Sl.lenM hs2).elim fun ea q2 => q2.elim fun ec q2 => ?_
    subst q2
    refine StO.own H (.tail (.tail (.tail (.tail .head)))) rfl rfl rfl fun w H => ?_
    refine DrawO.wi H (fun w => Cells w b3 0 [.int .i64 p.m.cap, .slice ea l.length ec, .int .i64 p.m.next, p.iss] ∧ Cells w b8 0 (BatA.rrow ⟨l, la, lc, out, oa, oc, x⟩)) (fun w H => ⟨H.cellsMem (.tail _ (.tail _ (.tail _ (.tail _ (.head _))))), H.cellsMem (.head _)⟩) (pl [0, 1, 1002, 1003] .nil) (by kernel_rfl) fun w H => ?_
    refine LdQ.cells (fun w h => h.1) rfl ?_
    refine LdQ.cells (fun w h => h.2) rfl ?_
    refine StO.own H (.tail (.tail .head)) rfl rfl rfl fun w H => ⟨⟨H.cellsMem (.tail _ (.tail _ (.tail _ (.tail _ (.head _))))), H.cellsMem (.head _)⟩, ?_⟩
    refine StO.own H (.tail .head) rfl rfl rfl fun w H => ⟨⟨H.cellsMem (.tail _ (.tail _ (.tail _ (.tail _ (.head _))))), H.cellsMem (.head _)⟩, ?_⟩
    refine LdO.owns H (.tail (.tail .head)) rfl ?_
    refine LdO.owns H (.tail .head) rfl ?_
    have H := H.tail.tail.tail.tail.tail
    refine (OwnSl.sealIt (ho) H).elim fun h3 q => ?_
    have hle3 := q.1; have H := q.2.1; have hs3 := q.2.2
    exact ⟨h3, ⟨⟨p.m.cap, l, p.m.next, p.m.issued⟩, ea, ec, p.ia, p.ic⟩, ⟨{ evs := out }, oa, oc⟩, Hp.le_trans hle2 hle3, rfl, ⟨hs2.le hle3, (hp.i.le hle2).le hle3⟩, hs3, by rw [hM, hb], H⟩
end Go.Proofs.YtbdoinigeaaclaaGreat
set_option maxRecDepth 20000
namespace Go.Proofs.YtbdoinigeaaclaaGreat
open Go RL PQ
variable {g : World} {h : Hp} {w : World} {L : List (Nat × Obj)}
theorem doM_bad {m : Mod} {c : PQ.Call} {hd : Int} (h1 : c.kind ≠ 1) (h2 : c.kind ≠ 2) (h3 : c.kind ≠ 3) : doM m c hd = (m, { err := 1 }) := by
  rw [doM, if_neg h1, if_neg h2, if_neg h3]
theorem doC (H : St g h w L) {p : MP} (hp : p.ok h) (c : PQ.Call) (hd : Int) {n : Nat} (hi : Inv n p.m) (hn : n ≤ 1000) :
    Ret Tryz.prog 47 [p.val, callV c, .int .i64 hd] w (DoPost g h L (doM p.m c hd)) := by
  cases c with
  | mk kind time handle max bound =>
  refine Ret.enter tabOk Tryz.func47 rfl (by rfl) rfl (by rfl) (by kernel_rfl) ?_
  refine AllocO.own H fun b3 w H => ?_
  refine AllocO.own H fun b4 w H => ?_
  refine AllocO.own H fun b6 w H => ?_
  refine AllocO.own H fun b7 w H => ?_
  have bad : ∀ (w : World) (e : Int), St g h w L → DoPost g h L (p.m, { err := e }) (.tuple #[p.val, (failR e).val]) w := fun w e H => ⟨h, p, failR e, Hp.le_refl h, rfl, hp, failR_ok h e, rfl, H⟩
  refine AllocO.own H fun b8 w H => ?_
  refine StO.own H .head rfl rfl rfl fun w H => ?_
  refine LdO.own H (.tail (.tail (.tail .head))) rfl ?_
  refine CondT.dec (fun h1 => ?_) (fun h1 => ?_)
  · refine CondT.mk ?_
    refine LdO.owns H (.tail (.tail (.tail (.tail .head)))) rfl ?_
    refine (fail H p 1).mono ?_; rintro _ w ⟨rfl, H⟩
    refine StO.own H (.tail (.tail .head)) rfl rfl rfl fun w H => ?_
    refine StO.own H (.tail .head) rfl rfl rfl fun w H => ?_
    refine LdO.owns H (.tail (.tail .head)) rfl ?_
    refine LdO.owns H (.tail .head) rfl ?_
    have := bad w 1 H.tail.tail.tail.tail.tail
    have h1 : kind ≤ 0 := h1
    have hd0 : doM p.m ⟨kind, time, handle, max, bound⟩ hd = (p.m, { err := 1 }) := doM_bad (by show kind ≠ 1; omega) (by show kind ≠ 2; omega) (by show kind ≠ 3; omega)
    rw [hd0]
    exact this
  refine LdO.own H (.tail (.tail (.tail .head))) rfl ?_
  refine CondT.dec (fun h2 => ?_) (fun h2 => ?_)
  · refine LdO.owns H (.tail (.tail (.tail (.tail .head)))) rfl ?_
    refine (fail H p 1).mono ?_; rintro _ w ⟨rfl, H⟩
    refine StO.own H (.tail (.tail .head)) rfl rfl rfl fun w H => ?_
    refine StO.own H (.tail .head) rfl rfl rfl fun w H => ?_
    refine LdO.owns H (.tail (.tail .head)) rfl ?_
    refine LdO.owns H (.tail .head) rfl ?_
    have := bad w 1 H.tail.tail.tail.tail.tail
    have h2 : 4 ≤ kind := h2
    have hd0 : doM p.m ⟨kind, time, handle, max, bound⟩ hd = (p.m, { err := 1 }) := doM_bad (by show kind ≠ 1; omega) (by show kind ≠ 2; omega) (by show kind ≠ 3; omega)
    rw [hd0]
    exact this
  have h1 : ¬ kind ≤ 0 := h1
  have h2 : ¬ 4 ≤ kind := h2
  have hk : kind = 1 ∨ kind = 2 ∨ kind = 3 := by omega
  refine DrawO.wi H (fun w => St g h w ((b8, _) :: (b4, _) :: (b3, _) :: L)) (fun w H => H.sub (.cons_cons _ (.cons _ (.cons _ (.refl _))))) (pl [0, 1, 2, 3, 4, 5, 6, 1007, 8, 9, 1010, 1011] .nil) (by kernel_rfl) fun w H => ?_
  refine LdQ.own (.tail .head) rfl ?_
  refine hk.elim (fun q => ?_) (fun hk => hk.elim (fun q => ?_) (fun q => ?_))
  · subst q
    have hd1 : doM p.m ⟨1, time, handle, max, bound⟩ hd = insM p.m ⟨1, time, handle, max, bound⟩ hd := rfl
    rw [hd1]
    refine ⟨⟨b8, 0, .i64, 1, rfl, rfl, by decide, by decide, ?_⟩⟩
    refine LdQ.own .head rfl ?_
    refine LdQ.owns (.tail (.tail .head)) rfl ?_
    refine LdQ.owns (.tail .head) rfl ?_
    refine (insertC H hp ⟨1,time,handle,max,bound⟩ hd hi hn).mono ?_; intro v w q
    refine q.elim fun h' q => q.elim fun p' q => q.elim fun r q => ?_
    have hle := q.1; have hv := q.2.1; have hp' := q.2.2.1; have hr' := q.2.2.2.1; have hx := q.2.2.2.2.1; have H := q.2.2.2.2.2
    clear q
    subst hv
    refine ⟨(H.less hle).sub (.cons_cons _ (.cons _ (.cons _ (.refl _)))), ?_⟩
    refine StO.own H (.tail (.tail .head)) rfl rfl rfl fun w H => ⟨(H.less hle).sub (.cons_cons _ (.cons _ (.cons _ (.refl _)))), ?_⟩
    refine StO.own H (.tail .head) rfl rfl rfl fun w H => ⟨(H.less hle).sub (.cons_cons _ (.cons _ (.cons _ (.refl _)))), ?_⟩
    refine LdO.owns H (.tail (.tail .head)) rfl ?_
    refine LdO.owns H (.tail .head) rfl ?_
    exact ⟨h', p', r, hle, rfl, hp', hr', hx, H.tail.tail.tail.tail.tail⟩
  · subst q
    have hd1 : doM p.m ⟨2, time, handle, max, bound⟩ hd = canM p.m ⟨2, time, handle, max, bound⟩ := rfl
    rw [hd1]
    refine ⟨⟨b8, 0, .i64, 2, rfl, rfl, by decide, by decide, ?_⟩⟩
    refine LdQ.own .head rfl ?_
    refine LdQ.owns (.tail (.tail .head)) rfl ?_
    refine LdQ.owns (.tail .head) rfl ?_
    refine (cancelC H hp ⟨2,time,handle,max,bound⟩ hd hi hn).mono ?_; intro v w q
    refine q.elim fun h' q => q.elim fun p' q => q.elim fun r q => ?_
    have hle := q.1; have hv := q.2.1; have hp' := q.2.2.1; have hr' := q.2.2.2.1; have hx := q.2.2.2.2.1; have H := q.2.2.2.2.2
    clear q
    subst hv
    refine ⟨(H.less hle).sub (.cons_cons _ (.cons _ (.cons _ (.refl _)))), ?_⟩
    refine StO.own H (.tail (.tail .head)) rfl rfl rfl fun w H => ⟨(H.less hle).sub (.cons_cons _ (.cons _ (.cons _ (.refl _)))), ?_⟩
    refine StO.own H (.tail .head) rfl rfl rfl fun w H => ⟨(H.less hle).sub (.cons_cons _ (.cons _ (.cons _ (.refl _)))), ?_⟩
    refine LdO.owns H (.tail (.tail .head)) rfl ?_
    refine LdO.owns H (.tail .head) rfl ?_
    exact ⟨h', p', r, hle, rfl, hp', hr', hx, H.tail.tail.tail.tail.tail⟩
  · subst q
    have hd1 : doM p.m ⟨3, time, handle, max, bound⟩ hd = batM p.m ⟨3, time, handle, max, bound⟩ := rfl
    rw [hd1]
    refine ⟨⟨b8, 0, .i64, 3, rfl, rfl, by decide, by decide, ?_⟩⟩
    refine LdQ.own .head rfl ?_
    refine LdQ.owns (.tail (.tail .head)) rfl ?_
    refine LdQ.owns (.tail .head) rfl ?_
    refine (batchC H hp ⟨3,time,handle,max,bound⟩ hd hi).mono ?_; intro v w q
    refine q.elim fun h' q => q.elim fun p' q => q.elim fun r q => ?_
    have hle := q.1; have hv := q.2.1; have hp' := q.2.2.1; have hr' := q.2.2.2.1; have hx := q.2.2.2.2.1; have H := q.2.2.2.2.2
    clear q
    subst hv
    refine ⟨(H.less hle).sub (.cons_cons _ (.cons _ (.cons _ (.refl _)))), ?_⟩
    refine StO.own H (.tail (.tail .head)) rfl rfl rfl fun w H => ⟨(H.less hle).sub (.cons_cons _ (.cons _ (.cons _ (.refl _)))), ?_⟩
    refine StO.own H (.tail .head) rfl rfl rfl fun w H => ⟨(H.less hle).sub (.cons_cons _ (.cons _ (.cons _ (.refl _)))), ?_⟩
    refine LdO.owns H (.tail (.tail .head)) rfl ?_
    refine LdO.owns H (.tail .head) rfl ?_
    exact ⟨h', p', r, hle, rfl, hp', hr', hx, H.tail.tail.tail.tail.tail⟩
theorem doM_evs (m : Mod) (c : PQ.Call) (hd : Int) : (doM m c hd).2.evs.length ≤ m.ents.length := by
  unfold doM
  split
  · unfold insM; repeat' split
    all_goals simp
  · split
    · unfold canM; split <;> simp
    · split
      · unfold batM; split
        · simp
        · have := batL_len c.bound c.max m.ents []
          simpa using this
      · simp
theorem acceptsC (H : St g h w L) {p : MP} (hp : p.ok h) (c : PQ.Call) {r : RP} (hr : r.ok h) {n : Nat} (hi : Inv n p.m) (hn : n ≤ 1000) :
    Ret Tryz.prog 27 [p.val, callV c, r.val] w fun v w => ∃ (h' : Hp) (p' : MP), h.le h' ∧ v = .tuple #[p'.val, .bool (accM p.m c r.r).2] ∧ p'.ok h' ∧ p'.m = (accM p.m c r.r).1 ∧ St g h' w L := by
  refine Ret.enter tabOk Tryz.func27 rfl (by rfl) rfl (by rfl) (by kernel_rfl) ?_
  refine AllocO.own H fun b3 w H => ?_
  refine AllocO.own H fun b4 w H => ?_
  refine AllocO.own H fun b5 w H => ?_
  refine AllocO.own H fun b6 w H => ?_
  refine LdO.owns H (.tail (.tail (.tail .head))) rfl ?_
  refine LdO.owns H (.tail (.tail .head)) rfl ?_
  refine LdO.own H (.tail .head) rfl ?_
  refine (doC H hp c r.r.rh hi hn).mono ?_; intro v w q
  refine q.elim fun h' q => q.elim fun p' q => q.elim fun r' q => ?_
  have hle := q.1; have hv := q.2.1; have hp' := q.2.2.1; have hr' := q.2.2.2.1; have hx := q.2.2.2.2.1; have H := q.2.2.2.2.2
  clear q
  subst hv
  refine AllocO.own H fun b8 w H => ?_
  refine AllocO.own H fun b9 w H => ?_
  refine StO.own H (.tail .head) rfl rfl rfl fun w H => ?_
  refine StO.own H .head rfl rfl rfl fun w H => ?_
  refine LdO.owns H .head rfl ?_
  refine LdO.owns H (.tail (.tail (.tail .head))) rfl ?_
  have hev : r'.r.evs.length ≤ 4611686018427387904 := by
    have hcap := hi.cap2
    have hlen := hi.len
    have : r'.r = (doM p.m c r.r.rh).2 := by rw [← hx]
    rw [this]
    have := doM_evs p.m c r.r.rh
    omega
  refine (equalR H hr' (hr.le hle) hev).mono ?_; rintro _ w ⟨rfl, H⟩
  have hx1 : p'.m = (doM p.m c r.r.rh).1 := by rw [← hx]
  have hx2 : r'.r = (doM p.m c r.r.rh).2 := by rw [← hx]
  refine CondT.bool (fun h1 => ?_) (fun h1 => ?_)
  · have h1 : ¬ (doM p.m c r.r.rh).2 = r.r := by rw [← hx2]; simpa using h1
    refine LdO.owns H (.tail (.tail (.tail (.tail (.tail .head))))) rfl ?_
    refine StO.own H (.tail (.tail .head)) rfl rfl rfl fun w H => ?_
    refine LdO.owns H (.tail (.tail .head)) rfl ?_
    exact ⟨h', p, hle, Eq.trans (b := .tuple #[p.val, .bool false]) rfl (by rw [accM, if_neg h1]), hp.le hle, by rw [accM, if_neg h1], H.tail.tail.tail.tail.tail.tail⟩
  · have h1 : (doM p.m c r.r.rh).2 = r.r := by rw [← hx2]; simpa using h1
    refine LdO.owns H (.tail .head) rfl ?_
    refine StO.own H (.tail (.tail .head)) rfl rfl rfl fun w H => ?_
    refine LdO.owns H (.tail (.tail .head)) rfl ?_
    exact ⟨h', p', hle, Eq.trans (b := .tuple #[p'.val, .bool true]) rfl (by rw [accM, if_pos h1]), hp', by rw [accM, if_pos h1]; exact hx1, H.tail.tail.tail.tail.tail.tail⟩
end Go.Proofs.YtbdoinigeaaclaaGreat
