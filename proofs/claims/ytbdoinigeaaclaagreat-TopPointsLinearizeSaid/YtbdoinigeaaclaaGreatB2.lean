/- Rungs of the ladder queue: what they are in memory; searching, times, buckets, replacing. Conditions: as each theorem says.
   Rungs: replacing a bucket, putting an item, taking the next bucket, a new rung. Conditions: as each theorem says.
   Rungs: the next bucket; a new rung. Conditions: as each theorem says.
   Sorting items, stably, by insertion. Conditions: fewer than twenty items, their sequence numbers differ. -/
import Derived.Test.YtbdoinigeaaclaaGreatB1
set_option linter.all false
set_option maxRecDepth 20000
namespace Go.Proofs.YtbdoinigeaaclaaGreat
open Go RL PQ
variable {g : World} {h h' : Hp} {w : World} {L : List (Nat × Obj)}
def oneR (v : Value) : List Value := [v]
/-- A slice of slices of items. -/
def BksS (h : Hp) (v : Value) (bks : List (List It)) : Prop := ∃ vs : List Value, ∃ e : vs.length = bks.length, Sl h 1 v (vs.map oneR) ∧ ∀ i (hi : i < vs.length), ItS h vs[i] (bks[i]'(by omega))
theorem BksS.le {v : Value} {bks : List (List It)} (hb : BksS h v bks) (hl : h.le h') : BksS h' v bks := by
  obtain ⟨vs, e, h1, h2⟩ := hb
  exact ⟨vs, e, h1.le hl, fun i hi => (h2 i hi).le hl⟩
/-- A rung, and the slice of its buckets. -/
structure RgP where
  r : Rg
  v : Value
def RgP.row (p : RgP) : List Value := [.int .i64 p.r.frm, .int .i64 p.r.width, .int .i64 p.r.cur, p.v]
def RgP.val (p : RgP) : Value := .agg p.row.toArray
def RgP.ok (h : Hp) (p : RgP) : Prop := BksS h p.v p.r.bks
theorem RgP.ok.le {p : RgP} (hp : p.ok h) (hl : h.le h') : p.ok h' := BksS.le hp hl
theorem BksS.len {v : Value} {bks : List (List It)} (hb : BksS h v bks) : ∃ a c, v = .slice a bks.length c := by
  obtain ⟨vs, e, h1, _⟩ := hb
  obtain ⟨a, c, h⟩ := h1.lenM
  exact ⟨a, c, by rw [h, e]⟩
theorem indexFuncRg (H : St g h w L) {sv : Value} {xs : List RgP} (hs : Sl h 4 sv (xs.map RgP.row)) (hl : xs.length ≤ 4611686018427387904) (k : Nat) (caps : Array Value) (p : RgP → Bool)
    (hf : ∀ x ∈ xs, ∀ w, St g h w L → Ret Tryz.prog k ([] ++ [x.val] ++ caps.toList) w fun v w' => v = .bool (p x) ∧ St g h w' L) :
    Ret Tryz.prog 142 [sv, .func (.func k) #[] caps] w fun v w' => v = .int .i64 (ix (xs.findIdx? p)) ∧ St g h w' L := by
  refine Ret.enter tabOk Tryz.func142 rfl (by rfl) rfl (by rfl) (by kernel_rfl) ?_
  obtain ⟨a, cap, rfl⟩ := hs.lenM
  refine LoopO.run (σ := Nat) (fun i => [(0, .slice a xs.length cap), (1, .func (.func k) #[] caps), (7, .int .i64 xs.length), (8, .int .i64 i)])
    (fun i w => St g h w L ∧ i ≤ xs.length ∧ ∀ j (hj : j < i) (hx : j < xs.length), p xs[j] = false) (fun i => xs.length - i) 0 (by exact ⟨rfl, rfl, rfl, rfl, trivial⟩) ⟨H, Nat.zero_le _, fun j hj => absurd hj (Nat.not_lt_zero j)⟩ ?_
  rintro i w e ⟨H, hi, hno⟩
  refine CondT.dec (fun hlt => ?_) (fun hge => ?_)
  · have hlt' : i < xs.length := by omega
    obtain ⟨b, o, hidx, hrow⟩ := hs.idxM hlt'
    refine hidx _ _ _ rfl ?_
    refine LdO.hrow H hrow rfl ?_
    refine (hf _ (List.getElem_mem hlt') w H).mono ?_
    rintro _ w ⟨rfl, H⟩
    refine CondT.bool (fun ht => ?_) (fun ht => ?_)
    · exact ⟨Eq.trans (b := .int .i64 i) rfl (by rw [findIdx_at hlt' (fun j hj => hno j hj (by omega)) ht]; rfl), H⟩
    · refine ArO.i64 ?_
      refine ⟨rfl, i + 1, ⟨rfl, rfl, rfl, rfl, trivial⟩, ⟨H, by omega, fun j hj hx => ?_⟩, by omega⟩
      rcases Nat.lt_or_ge j i with hji | hji
      · exact hno j hji hx
      · have : j = i := by omega
        subst this
        exact ht
  · exact ⟨Eq.trans (b := .int .i64 (-1)) rfl (by rw [findIdx_no]; rfl; intro y hy; obtain ⟨j, hj, rfl⟩ := List.mem_iff_getElem.1 hy; exact hno j (by omega) hj), H⟩
theorem containsFuncRg (H : St g h w L) {sv : Value} {xs : List RgP} (hs : Sl h 4 sv (xs.map RgP.row)) (hl : xs.length ≤ 4611686018427387904) (k : Nat) (caps : Array Value) (p : RgP → Bool)
    (hf : ∀ x ∈ xs, ∀ w, St g h w L → Ret Tryz.prog k ([] ++ [x.val] ++ caps.toList) w fun v w' => v = .bool (p x) ∧ St g h w' L) :
    Ret Tryz.prog 129 [sv, .func (.func k) #[] caps] w fun v w' => v = .bool (xs.any p) ∧ St g h w' L := by
  refine Ret.enter tabOk Tryz.func129 rfl (by rfl) rfl (by rfl) (by kernel_rfl) ?_
  refine (indexFuncRg H hs hl k caps p hf).mono ?_; rintro _ w ⟨rfl, H⟩
  exact ⟨Eq.trans (b := .bool (decide (0 ≤ ix (xs.findIdx? p)))) rfl (by rw [ix_nonneg, findIdx_any]), H⟩
theorem indexFuncB (H : St g h w L) {sv : Value} {xs : List Value} (hs : Sl h 1 sv (xs.map oneR)) (hl : xs.length ≤ 4611686018427387904) (k : Nat) (caps : Array Value) (p : Value → Bool)
    (hf : ∀ x ∈ xs, ∀ w, St g h w L → Ret Tryz.prog k ([] ++ [x] ++ caps.toList) w fun v w' => v = .bool (p x) ∧ St g h w' L) :
    Ret Tryz.prog 215 [sv, .func (.func k) #[] caps] w fun v w' => v = .int .i64 (ix (xs.findIdx? p)) ∧ St g h w' L := by
  refine Ret.enter tabOk Tryz.func215 rfl (by rfl) rfl (by rfl) (by kernel_rfl) ?_
  obtain ⟨a, cap, rfl⟩ := hs.lenM
  refine LoopO.run (σ := Nat) (fun i => [(0, .slice a xs.length cap), (1, .func (.func k) #[] caps), (7, .int .i64 xs.length), (8, .int .i64 i)])
    (fun i w => St g h w L ∧ i ≤ xs.length ∧ ∀ j (hj : j < i) (hx : j < xs.length), p xs[j] = false) (fun i => xs.length - i) 0 (by exact ⟨rfl, rfl, rfl, rfl, trivial⟩) ⟨H, Nat.zero_le _, fun j hj => absurd hj (Nat.not_lt_zero j)⟩ ?_
  rintro i w e ⟨H, hi, hno⟩
  refine CondT.dec (fun hlt => ?_) (fun hge => ?_)
  · have hlt' : i < xs.length := by omega
    obtain ⟨b, o, hidx, hrow⟩ := hs.idxM hlt'
    refine hidx _ _ _ rfl ?_
    refine LdO.hc (j := 0) H hrow rfl ?_
    refine (hf _ (List.getElem_mem hlt') w H).mono ?_
    rintro _ w ⟨rfl, H⟩
    refine CondT.bool (fun ht => ?_) (fun ht => ?_)
    · exact ⟨Eq.trans (b := .int .i64 i) rfl (by rw [findIdx_at hlt' (fun j hj => hno j hj (by omega)) ht]; rfl), H⟩
    · refine ArO.i64 ?_
      refine ⟨rfl, i + 1, ⟨rfl, rfl, rfl, rfl, trivial⟩, ⟨H, by omega, fun j hj hx => ?_⟩, by omega⟩
      rcases Nat.lt_or_ge j i with hji | hji
      · exact hno j hji hx
      · have : j = i := by omega
        subst this
        exact ht
  · exact ⟨Eq.trans (b := .int .i64 (-1)) rfl (by rw [findIdx_no]; rfl; intro y hy; obtain ⟨j, hj, rfl⟩ := List.mem_iff_getElem.1 hy; exact hno j (by omega) hj), H⟩
theorem bStart (H : St g h w L) {f wd i : Int} (h1 : -9223372036854775808 ≤ i * wd) (h2 : i * wd ≤ 9223372036854775807) (h3 : -9223372036854775808 ≤ f + i * wd) (h4 : f + i * wd ≤ 9223372036854775807) :
    Ret Tryz.prog 150 [.int .i64 f, .int .i64 wd, .int .i64 i] w fun v w' => v = .int .i64 (f + i * wd) ∧ St g h w' L := by
  refine Ret.enter tabOk Tryz.func150 rfl (by rfl) rfl (by rfl) (by kernel_rfl) ?_
  refine ArO.i64 ?_ h1 h2
  refine ArO.i64 ?_ h3 h4
  exact ⟨rfl, H⟩
theorem rgStart (H : St g h w L) {p : RgP} (hr : RgOk p.r) {i : Int} (h0 : 0 ≤ i) (h1 : i ≤ 8) : Ret Tryz.prog 143 [p.val, .int .i64 i] w fun v w' => v = .int .i64 (startR p.r i) ∧ St g h w' L := by
  have hb := mul_bound h0 h1 hr.wid0 hr.wid1
  have f0 := hr.frm0
  have f1 := hr.frm1
  refine Ret.enter tabOk Tryz.func143 rfl (by rfl) rfl (by rfl) (by kernel_rfl) ?_
  refine AllocO.own H fun b2 w H => ?_
  refine LdO.own H .head rfl ?_
  refine LdO.own H .head rfl ?_
  refine (bStart H (by omega) (by omega) (by omega) (by omega)).mono ?_; rintro _ w ⟨rfl, H⟩
  exact ⟨rfl, H.tail⟩
theorem rgCurrent (H : St g h w L) {p : RgP} (hr : RgOk p.r) : Ret Tryz.prog 131 [p.val] w fun v w' => v = .int .i64 (curR p.r) ∧ St g h w' L := by
  refine Ret.enter tabOk Tryz.func131 rfl (by rfl) rfl (by rfl) (by kernel_rfl) ?_
  refine AllocO.own H fun b1 w H => ?_
  refine LdO.owns H .head rfl ?_
  refine LdO.own H .head rfl ?_
  refine (rgStart (p := p) H hr hr.cur0 hr.cur1).mono ?_; rintro _ w ⟨rfl, H⟩
  exact ⟨rfl, H.tail⟩
theorem rgEnd (H : St g h w L) {p : RgP} (hr : RgOk p.r) : Ret Tryz.prog 145 [p.val] w fun v w' => v = .int .i64 (endR p.r) ∧ St g h w' L := by
  refine Ret.enter tabOk Tryz.func145 rfl (by rfl) rfl (by rfl) (by kernel_rfl) ?_
  refine AllocO.own H fun b1 w H => ?_
  refine LdO.owns H .head rfl ?_
  refine (rgStart (p := p) H hr (by omega) (by omega)).mono ?_; rintro _ w ⟨rfl, H⟩
  exact ⟨rfl, H.tail⟩
theorem bIndex (H : St g h w L) {f wd t : Int} (h1 : -9223372036854775808 ≤ t - f) (h2 : t - f ≤ 9223372036854775807) (hw : 1 ≤ wd) (ht : f ≤ t) :
    Ret Tryz.prog 146 [.int .i64 f, .int .i64 wd, .int .i64 t] w fun v w' => v = .int .i64 ((t - f).tdiv wd) ∧ St g h w' L := by
  have h3 : 0 ≤ (t - f).tdiv wd := Int.tdiv_nonneg (by omega) (by omega)
  have h4 : (t - f).tdiv wd ≤ t - f := by
    rw [Int.tdiv_eq_ediv_of_nonneg (by omega)]
    exact Int.ediv_le_self _ (by omega)
  refine Ret.enter tabOk Tryz.func146 rfl (by rfl) rfl (by rfl) (by kernel_rfl) ?_
  refine ArO.i64 ?_ h1 h2
  refine ⟨⟨by omega, ?_⟩⟩
  refine ⟨congrArg (Value.int .i64) (wrap64_ok _ (by omega) (by omega)), H⟩
theorem ceilF (H : St g h w L) {n : Int} (h0 : 1 ≤ n) (h1 : n ≤ 1152921504606846977) : Ret Tryz.prog 219 [.int .i64 n, .int .i64 8] w fun v w' => v = .int .i64 (ceil8 n) ∧ St g h w' L := by
  have hb := ceil8_bounds h0 h1
  refine Ret.enter tabOk Tryz.func219 rfl (by rfl) rfl (by rfl) (by kernel_rfl) ?_
  refine ArO.i64 ?_
  refine ArO.i64 ?_
  refine ⟨⟨by omega, ?_⟩⟩
  refine ⟨congrArg (Value.int .i64) (wrap64_ok _ ?_ ?_), H⟩
  · show _ ≤ ceil8 n; omega
  · show ceil8 n ≤ _; omega
theorem bWidth (H : St g h w L) {a b : Int} (h0 : 0 ≤ a) (h1 : a ≤ b) (h2 : b ≤ 1152921504606846976) : Ret Tryz.prog 214 [.int .i64 a, .int .i64 b] w fun v w' => v = .int .i64 (ceil8 (b - a + 1)) ∧ St g h w' L := by
  refine Ret.enter tabOk Tryz.func214 rfl (by rfl) rfl (by rfl) (by kernel_rfl) ?_
  refine ArO.i64 ?_
  refine ArO.i64 ?_
  refine (ceilF H (by omega) (by omega)).mono ?_; rintro _ w ⟨rfl, H⟩
  exact ⟨rfl, H⟩
theorem bNarrow (H : St g h w L) {n : Int} (h0 : 1 ≤ n) (h1 : n ≤ 1152921504606846977) : Ret Tryz.prog 209 [.int .i64 n] w fun v w' => v = .int .i64 (ceil8 n) ∧ St g h w' L := by
  refine Ret.enter tabOk Tryz.func209 rfl (by rfl) rfl (by rfl) (by kernel_rfl) ?_
  refine (ceilF H h0 h1).mono ?_; rintro _ w ⟨rfl, H⟩
  exact ⟨rfl, H⟩
end Go.Proofs.YtbdoinigeaaclaaGreat
set_option maxRecDepth 20000
namespace Go.Proofs.YtbdoinigeaaclaaGreat
open Go RL PQ
variable {g : World} {h h' : Hp} {w : World} {L : List (Nat × Obj)}
theorem oneB {vs : List Value} (h : ∀ i (_ : i < vs.length), ∃ a n c, vs[i] = .slice a n c) : ∀ r ∈ vs.map oneR, oneCells r = true := by
  intro r hr
  obtain ⟨v, hv, rfl⟩ := List.mem_map.1 hr
  obtain ⟨i, hi, rfl⟩ := List.mem_iff_getElem.1 hv
  obtain ⟨a, n, c, e⟩ := h i hi
  rw [e]; rfl
theorem rgReplace (H : St g h w L) {v nv : Value} {bks : List (List It)} {b : List It} (hb : BksS h v bks) (hn : ItS h nv b) (hl : bks.length ≤ 900) {i : Nat} (hi : i < bks.length) {z : Int} (hz : z = i) :
    Ret Tryz.prog 147 [v, .int .i64 z, nv] w fun v' w' => ∃ h', h.le h' ∧ BksS h' v' (bks.set i b) ∧ St g h' w' L := by
  obtain ⟨vs, e, h1, h2⟩ := hb
  have hone : ∀ r ∈ vs.map oneR, oneCells r = true := oneB fun j hj => by
    obtain ⟨a, c, h⟩ := (h2 j hj).lenM
    exact ⟨a, _, c, h⟩
  have hil : i < (vs.map oneR).length := by rw [List.length_map, e]; exact hi
  obtain ⟨na, nc, hnv⟩ := hn.lenM
  refine Ret.enter tabOk Tryz.func147 rfl (by rfl) rfl (by rfl) (by kernel_rfl) ?_
  refine (cloneB H h1 hone (by rw [List.length_map, e]; omega)).mono ?_; intro v' w q
  refine q.elim fun x q => ?_
  have ho := q.1; have H := q.2; clear q
  refine (OwnSl.put ho hil).elim fun bb q => q.elim fun c q => q.elim fun cap q => ?_
  have hv := q.1; have hx := q.2.1; have hsz := q.2.2.1; have hput := q.2.2.2.2.2; clear q
  subst hx
  have ho2 := hput [nv] rfl (by rw [hnv]; rfl)
  subst hv
  refine IdxO.at0 hz hil ?_
  refine StO.ownE H .head (by subst hnv; rfl) (by subst hnv; rfl) hsz (c' := putA c (i * 1) [nv]) (by subst hnv; rfl) fun w H => ?_
  have H : St g h w ([(bb, .cells (putA c (i * 1) [nv]) 115 (0, 0))] ++ L) := H
  refine (OwnSl.sealIt ho2 H).elim fun h3 q => ?_
  have hle := q.1; have H := q.2.1; have hs3 := q.2.2; clear q
  refine ⟨h3, hle, ⟨vs.set i nv, by rw [List.length_set, List.length_set, e], ?_, fun j hj => ?_⟩, H⟩
  · rw [List.map_set]; exact hs3
  · have hj' : j < vs.length := by rw [List.length_set] at hj; exact hj
    by_cases hij : i = j
    · subst hij
      rw [List.getElem_set_self, List.getElem_set_self]
      exact hn.le hle
    · rw [List.getElem_set_ne hij, List.getElem_set_ne hij]
      exact (h2 j hj').le hle
theorem itOne (l : List It) : ∀ r ∈ l.map itR, oneCells r = true := fun r hr => by
  obtain ⟨z, _, rfl⟩ := List.mem_map.1 hr
  rfl
theorem BksS.at {v : Value} {bks : List (List It)} (hb : BksS h v bks) {i : Nat} (hi : i < bks.length) : ∃ b o bv, (∀ (k : IntKind) (n : Int) (K : Value → Prop), n = i → K (.pointer (some ⟨b, o, none⟩)) → IdxO 1 v (.int k n) K) ∧ HC h b o [bv] ∧ ItS h bv bks[i] := by
  obtain ⟨vs, e, h1, h2⟩ := hb
  obtain ⟨b, o, h3, h4⟩ := h1.idxM (i := i) (by omega)
  exact ⟨b, o, vs[i]'(by omega), h3, h4, h2 i (by omega)⟩
set_option maxHeartbeats 1000000 in
theorem rgPut (H : St g h w L) {p : RgP} (hp : p.ok h) (hr : RgOk p.r) {it : It} (ht : TimeOk it.time) (hl : ∀ b ∈ p.r.bks, b.length ≤ 900) :
    Ret Tryz.prog 138 [p.val, itV it] w fun v w' => ∃ (h' : Hp) (p' : RgP) (ok : Bool), h.le h' ∧ v = .tuple #[p'.val, .bool ok] ∧ p'.ok h' ∧ p'.r = putR p.r it ∧ St g h' w' L := by
  obtain ⟨r, pv⟩ := p
  replace hp : BksS h pv r.bks := hp
  replace hr : RgOk r := hr
  replace hl : ∀ b ∈ r.bks, b.length ≤ 900 := hl
  obtain ⟨ba, bc, hbv⟩ := BksS.len hp
  subst hbv
  have hst := hr.start hr.cur0 hr.cur1
  refine Ret.enter tabOk Tryz.func138 rfl (by rfl) rfl (by rfl) (by kernel_rfl) ?_
  refine AllocO.own H fun b2 w H => ?_
  refine AllocO.own H fun b3 w H => ?_
  refine AllocO.own H fun b4 w H => ?_
  have H : St g h w ((b4, .cells #[.int .i64 0, .int .i64 0, .int .i64 0, .slice none 0 0] 209 (0, 0)) :: (b3, .cells (itR it).toArray 157 (0, 0)) :: (b2, .cells (RgP.mk r (.slice ba r.bks.length bc)).row.toArray 209 (0, 0)) :: L) := H
  refine DrawO.st H (pl [0, 1, 2, 1003, 4, 5, 6, 7, 8, 1009, 10, 11] .nil) (by kernel_rfl) fun w H => ?_
  refine LdQ.own (.tail .head) rfl ?_
  refine LdQ.owns (.tail (.tail .head)) rfl ?_
  refine (rgCurrent (p := ⟨r, .slice ba r.bks.length bc⟩) H hr).mono ?_; rintro _ w ⟨rfl, H⟩; refine ⟨H, ?_⟩
  refine CondT.dec (fun h1 => ?_) (fun h1 => ?_)
  · refine CondT.mk ?_
    refine LdO.owns H (.tail (.tail .head)) rfl ?_
    refine StO.own H .head rfl rfl rfl fun w H => ?_
    refine LdO.owns H .head rfl ?_
    exact ⟨h, ⟨r, .slice ba r.bks.length bc⟩, false, Hp.le_refl h, rfl, hp, by show r = _; rw [putR, if_pos (.inl h1)], H.tail.tail.tail⟩
  refine LdQ.own (.tail .head) rfl ?_
  refine LdQ.owns (.tail (.tail .head)) rfl ?_
  refine (rgEnd (p := ⟨r, .slice ba r.bks.length bc⟩) H hr).mono ?_; rintro _ w ⟨rfl, H⟩; refine ⟨H, ?_⟩
  refine CondT.dec (fun h2 => ?_) (fun h2 => ?_)
  · refine LdO.owns H (.tail (.tail .head)) rfl ?_
    refine StO.own H .head rfl rfl rfl fun w H => ?_
    refine LdO.owns H .head rfl ?_
    exact ⟨h, ⟨r, .slice ba r.bks.length bc⟩, false, Hp.le_refl h, rfl, hp, by show r = _; rw [putR, if_pos (.inr h2)], H.tail.tail.tail⟩
  have h1 : ¬ it.time < curR r := h1
  have h2 : ¬ endR r ≤ it.time := h2
  have hsp := idxR_spec hr (t := it.time) (by omega) (by omega)
  have hi : idxR r it.time < r.bks.length := by rw [hr.len]; exact hsp.2.2.2
  have f0 := hr.frm0
  have f1 := hr.frm1
  have hfr : r.frm ≤ it.time := by
    have := startR_mono hr.wid0 hr.cur0
    unfold startR at this
    unfold curR startR at h1
    omega
  have t0 := ht.1
  have t1 := ht.2
  refine LdO.own H (.tail (.tail .head)) rfl ?_
  refine LdO.own H (.tail (.tail .head)) rfl ?_
  refine LdO.own H (.tail .head) rfl ?_
  refine (bIndex H (by omega) (by omega) hr.wid0 hfr).mono ?_; rintro _ w ⟨rfl, H⟩
  have hq : (it.time - r.frm).tdiv r.width = (idxR r it.time : Int) := by
    unfold idxR
    have : 0 ≤ (it.time - r.frm).tdiv r.width := Int.tdiv_nonneg (by omega) (by have := hr.wid0; omega)
    omega
  have hR := BksS.at hp hi
  refine hR.elim fun bb q => q.elim fun ob q => q.elim fun bv q => ?_
  have hidx := q.1; have hrow := q.2.1; have hbk := q.2.2; clear q
  have hbl : (r.bks[idxR r it.time]).length ≤ 900 := hl _ (List.getElem_mem hi)
  refine DrawO.wx H (fun w => St g h w ((b4, .cells #[.int .i64 0, .int .i64 0, .int .i64 0, .slice none 0 0] 209 (0, 0)) :: (b3, .cells (itR it).toArray 157 (0, 0)) :: (b2, .cells (RgP.mk r (.slice ba r.bks.length bc)).row.toArray 209 (0, 0)) :: L)) (fun w H => H) (fun j => Nat.beq j 14) (by kernel_rfl)
    (pl [0, 1, 2, 3, 4, 5, 6, 7, 9] (.ll 8 (pl [1010, 1011, 1012, 13, 1014] .nil) 10 (pl [1008, 1011, 1012, 13, 1014] .nil))) (by kernel_rfl) fun w H => ?_
  refine LdQ.own (.tail (.tail .head)) rfl ?_
  refine LdQ.own (.tail (.tail .head)) rfl ?_
  refine hidx _ _ _ hq ?_
  refine LdQ.hc hrow (j := 0) rfl ?_
  refine LdQ.owns (.tail .head) rfl ?_
  refine ⟨?_, ?_⟩
  · refine (clipIt H hbk).mono ?_; intro v w q
    have H := q.2; refine q.1.elim fun ca q => ?_
    have hcl := q.2; have q1 := q.1; subst q1
    refine ⟨H, ?_⟩
    refine AllocO.own H fun b10 w H => ⟨H.tail, ?_⟩
    have hsrc : Src w 3 (.slice (some ⟨b10, 0, none⟩) 1 1) [itR it] := H.srcOwn .head (by simp [itR]) rfl rfl
    refine RunO.appFull tabOk rfl rfl rfl rfl rfl rfl H rfl hcl (itOne _) hsrc (by simp) (by simp [oneCells, itR, Value.oneCell']) (by show (2 * ((List.map itR r.bks[idxR r it.time]).length + 1) + 1024) * 24 ≤ _; rw [List.length_map]; omega) fun v w x2 ho2 H => ?_
    refine (OwnSl.sealIt ho2 H).elim fun h3 q => ?_
    have hle := q.1; have H := q.2.1; have hs2 := q.2.2; clear q
    have hs3 : ItS h3 v (r.bks[idxR r it.time] ++ [it]) := by
      show Sl h3 3 v ((r.bks[idxR r it.time] ++ [it]).map itR)
      rw [List.map_append]; exact hs2
    refine ⟨(H.less hle).tail, ?_⟩
    refine (rgReplace H (BksS.le hp hle) hs3 (by have := hr.len; omega) (i := idxR r it.time) hi hq).mono ?_; intro v w q
    refine q.elim fun h4 q => ?_
    have hle4 := q.1; have hb4 := q.2.1; have H := q.2.2; clear q
    refine ⟨(H.less (Hp.le_trans hle hle4)).tail, ?_⟩
    refine (BksS.len hb4).elim fun a4 q => q.elim fun c4 q => ?_
    subst q
    refine StO.own H (.tail (.tail (.tail .head))) rfl rfl rfl fun w H => ⟨rfl, ?_⟩
    refine LdO.owns H (.tail (.tail (.tail .head))) rfl ?_
    refine StO.own H (.tail .head) rfl rfl rfl fun w H => ?_
    refine LdO.owns H (.tail .head) rfl ?_
    have hpr : putR r it = { r with bks := r.bks.set (idxR r it.time) (r.bks[idxR r it.time] ++ [it]) } := by
      rw [putR, if_neg (by omega), List.modify_eq_set, List.getElem?_eq_getElem hi]; rfl
    exact ⟨h4, ⟨putR r it, .slice a4 (r.bks.set (idxR r it.time) (r.bks[idxR r it.time] ++ [it])).length c4⟩, true, Hp.le_trans hle hle4, by rw [hpr]; rfl, by rw [hpr]; exact hb4, rfl, H.tail.tail.tail.tail⟩
  · refine AllocO.own H fun b10 w H => ⟨H.tail, ?_⟩
    refine (clipIt H hbk).mono ?_; intro v w q
    have H := q.2; refine q.1.elim fun ca q => ?_
    have hcl := q.2; have q1 := q.1; subst q1
    refine ⟨H.tail, ?_⟩
    have hsrc : Src w 3 (.slice (some ⟨b10, 0, none⟩) 1 1) [itR it] := H.srcOwn .head (by simp [itR]) rfl rfl
    refine RunO.appFull tabOk rfl rfl rfl rfl rfl rfl H rfl hcl (itOne _) hsrc (by simp) (by simp [oneCells, itR, Value.oneCell']) (by show (2 * ((List.map itR r.bks[idxR r it.time]).length + 1) + 1024) * 24 ≤ _; rw [List.length_map]; omega) fun v w x2 ho2 H => ?_
    refine (OwnSl.sealIt ho2 H).elim fun h3 q => ?_
    have hle := q.1; have H := q.2.1; have hs2 := q.2.2; clear q
    have hs3 : ItS h3 v (r.bks[idxR r it.time] ++ [it]) := by
      show Sl h3 3 v ((r.bks[idxR r it.time] ++ [it]).map itR)
      rw [List.map_append]; exact hs2
    refine ⟨(H.less hle).tail, ?_⟩
    refine (rgReplace H (BksS.le hp hle) hs3 (by have := hr.len; omega) (i := idxR r it.time) hi hq).mono ?_; intro v w q
    refine q.elim fun h4 q => ?_
    have hle4 := q.1; have hb4 := q.2.1; have H := q.2.2; clear q
    refine ⟨(H.less (Hp.le_trans hle hle4)).tail, ?_⟩
    refine (BksS.len hb4).elim fun a4 q => q.elim fun c4 q => ?_
    subst q
    refine StO.own H (.tail (.tail (.tail .head))) rfl rfl rfl fun w H => ⟨rfl, ?_⟩
    refine LdO.owns H (.tail (.tail (.tail .head))) rfl ?_
    refine StO.own H (.tail .head) rfl rfl rfl fun w H => ?_
    refine LdO.owns H (.tail .head) rfl ?_
    have hpr : putR r it = { r with bks := r.bks.set (idxR r it.time) (r.bks[idxR r it.time] ++ [it]) } := by
      rw [putR, if_neg (by omega), List.modify_eq_set, List.getElem?_eq_getElem hi]; rfl
    exact ⟨h4, ⟨putR r it, .slice a4 (r.bks.set (idxR r it.time) (r.bks[idxR r it.time] ++ [it])).length c4⟩, true, Hp.le_trans hle hle4, by rw [hpr]; rfl, by rw [hpr]; exact hb4, rfl, H.tail.tail.tail.tail⟩
end Go.Proofs.YtbdoinigeaaclaaGreat
set_option maxRecDepth 20000
namespace Go.Proofs.YtbdoinigeaaclaaGreat
open Go RL PQ
variable {g : World} {h h' : Hp} {w : World} {L : List (Nat × Obj)}
def lenV : Value → Nat
  | .slice _ n _ => n
  | _ => 0
def fullV (v : Value) : Bool := decide ((lenV v : Int) > 0)
theorem fullV_find {vs : List Value} {bks : List (List It)} (e : vs.length = bks.length) (h : ∀ i (hi : i < vs.length), lenV vs[i] = (bks[i]'(by omega)).length) : vs.findIdx? fullV = bks.findIdx? (fun b => !b.isEmpty) := by
  have e2 : vs.map fullV = bks.map (fun b => !b.isEmpty) := by
    refine List.ext_getElem (by simp [e]) fun i h1 h2 => ?_
    simp only [List.length_map] at h1 h2
    simp only [List.getElem_map]
    unfold fullV
    rw [h i h1]
    cases bks[i] <;> simp
  have h1 := List.findIdx?_map (f := fullV) (p := id) (l := vs)
  have h2 := List.findIdx?_map (f := fun b : List It => !b.isEmpty) (p := id) (l := bks)
  rw [e2] at h1
  exact h1.symm.trans h2
def NextPost (g : World) (h : Hp) (L : List (Nat × Obj)) (x : Option (Rg × List It × Int)) (v : Value) (w : World) : Prop :=
  ∃ h', h.le h' ∧ St g h' w L ∧ ((x = none ∧ ∃ p : RgP, v = .tuple #[p.val, .slice none 0 0, .int .i64 0, .bool false] ∧ oneCells p.row = true) ∨
    ∃ r items s p iv, x = some (r, items, s) ∧ v = .tuple #[RgP.val p, iv, .int .i64 s, .bool true] ∧ p.ok h' ∧ p.r = r ∧ ItS h' iv items)
set_option maxHeartbeats 1000000 in
theorem rgNext (H : St g h w L) {p : RgP} (hp : p.ok h) (hr : RgOk p.r) : Ret Tryz.prog 207 [p.val] w (NextPost g h L (nextR p.r)) := by
  obtain ⟨r, pv⟩ := p
  replace hp : BksS h pv r.bks := hp
  replace hr : RgOk r := hr
  obtain ⟨ba, bc, hbv⟩ := BksS.len hp
  subst hbv
  have hlen := hr.len
  obtain ⟨vs, e, hs1, hs2⟩ := hp
  have hlv : ∀ i (hi : i < vs.length), ∃ a c, vs[i] = .slice a (r.bks[i]'(by omega)).length c := fun i hi => (hs2 i hi).lenM
  have hfind := fullV_find e fun i hi => by
    obtain ⟨a, c, hh⟩ := hlv i hi
    rw [hh]; rfl
  refine Ret.enter tabOk Tryz.func207 rfl (by rfl) rfl (by rfl) (by kernel_rfl) ?_
  refine AllocO.own H fun b1 w H => ?_
  refine AllocO.own H fun b2 w H => ?_
  have H : St g h w ((b2, .cells #[.int .i64 0, .int .i64 0, .int .i64 0, .slice none 0 0] 209 (0, 0)) :: (b1, .cells (RgP.mk r (.slice ba r.bks.length bc)).row.toArray 209 (0, 0)) :: L) := H
  refine LdO.own H (.tail .head) rfl ?_
  refine (indexFuncB H hs1 (by omega) 216 #[] fullV (fun x hx w H => ?_)).mono ?_
  · obtain ⟨i, hi, hxi⟩ := List.mem_iff_getElem.1 hx
    obtain ⟨a, c, hh⟩ := hlv i hi
    rw [hh] at hxi
    subst hxi
    refine Ret.enter tabOk Tryz.func216 rfl (by rfl) rfl (by rfl) (by kernel_rfl) ?_
    exact ⟨rfl, H⟩
  intro v w q
  have hv := q.1; have H := q.2; clear q
  rw [hfind] at hv
  cases hf : r.bks.findIdx? (fun b => !b.isEmpty) with
  | none =>
    rw [hf] at hv
    subst hv
    have hn : nextR r = none := by unfold nextR; rw [hf]
    refine CondT.dec (fun _ => ?_) (fun hh => absurd (by decide) hh)
    refine StO.own H (.tail .head) rfl rfl rfl fun w H => ?_
    refine LdO.owns H (.tail .head) rfl ?_
    refine StO.own H .head rfl rfl rfl fun w H => ?_
    refine LdO.owns H .head rfl ?_
    exact ⟨h, Hp.le_refl h, H.tail.tail, .inl ⟨hn, RgP.mk { r with cur := 8 } (.slice ba r.bks.length bc), rfl, rfl⟩⟩
  | some i =>
    rw [hf] at hv
    subst hv
    have hi : i < r.bks.length := (List.findIdx?_eq_some_iff_getElem.1 hf).1
    have hget : r.bks[i]? = some r.bks[i] := List.getElem?_eq_getElem hi
    have hn : nextR r = some ({ r with bks := r.bks.set i [], cur := (i : Int) + 1 }, r.bks[i], startR r i) := by unfold nextR; rw [hf]; simp only [hget, Option.getD_some]
    have hnx := nextR_some hr hn
    have hb : BksS h (.slice ba r.bks.length bc) r.bks := ⟨vs, e, hs1, hs2⟩
    refine CondT.dec (fun hh => absurd (show (i : Int) < 0 from hh) (by omega)) (fun _ => ?_)
    refine LdO.own H (.tail .head) rfl ?_
    refine (BksS.at hb hi).elim fun bb q => q.elim fun ob q => q.elim fun bv q => ?_
    have hidx := q.1; have hrow := q.2.1; have hbk := q.2.2; clear q
    refine hidx _ _ _ rfl ?_
    refine LdO.hc H hrow (j := 0) rfl ?_
    refine LdO.own H (.tail .head) rfl ?_
    refine (rgReplace H hb (Sl.nil h 3) (b := []) (by omega) hi rfl).mono ?_; intro v w q
    refine q.elim fun h4 q => ?_
    have hle4 := q.1; have hb4 := q.2.1; have H := q.2.2; clear q
    refine (BksS.len hb4).elim fun a4 q => q.elim fun c4 q => ?_
    subst q
    refine StO.own H (.tail .head) rfl rfl rfl fun w H => ?_
    refine ArO.i64 ?_ (by show _ ≤ (i : Int) + 1; omega) (by show (i : Int) + 1 ≤ _; omega)
    refine StO.own H (.tail .head) rfl rfl rfl fun w H => ?_
    have hsl : (r.bks.set i []).length = r.bks.length := List.length_set
    have H : St g h4 w ((b2, .cells #[.int .i64 0, .int .i64 0, .int .i64 0, .slice none 0 0] 209 (0, 0)) :: (b1, .cells (RgP.mk { r with bks := r.bks.set i [], cur := (i : Int) + 1 } (.slice a4 (r.bks.set i []).length c4)).row.toArray 209 (0, 0)) :: L) := H
    refine DrawO.wi H (fun w => St g h4 w ((b1, .cells (RgP.mk { r with bks := r.bks.set i [], cur := (i : Int) + 1 } (.slice a4 (r.bks.set i []).length c4)).row.toArray 209 (0, 0)) :: L)) (fun w H => H.tail) (pl [0, 1, 2, 3, 1004, 1005, 6, 7, 8] .nil) (by kernel_rfl) fun w H => ?_
    refine LdQ.owns .head rfl ?_
    refine LdQ.owns .head rfl ?_
    refine (rgStart (p := RgP.mk { r with bks := r.bks.set i [], cur := (i : Int) + 1 } (.slice a4 (r.bks.set i []).length c4)) H hnx.1 (i := i) (by omega) (by omega)).mono ?_; intro v w q
    have hv := q.1; have H := q.2; clear q
    subst hv
    refine ⟨H.tail, ?_⟩
    refine StO.own H .head rfl rfl rfl fun w H => ⟨H.tail, ?_⟩
    refine LdO.owns H .head rfl ?_
    exact ⟨h4, hle4, H.tail.tail, .inr ⟨_, _, _, RgP.mk { r with bks := r.bks.set i [], cur := (i : Int) + 1 } (.slice a4 (r.bks.set i []).length c4), bv, hn, rfl, hb4, rfl, hbk.le hle4⟩⟩
theorem rgNew (H : St g h w L) (f wd : Int) : Ret Tryz.prog 217 [.int .i64 f, .int .i64 wd] w fun v w' => ∃ (h' : Hp) (p : RgP), h.le h' ∧ v = p.val ∧ p.ok h' ∧ p.r = newR f wd ∧ St g h' w' L := by
  refine Ret.enter tabOk Tryz.func217 rfl (by rfl) rfl (by rfl) (by kernel_rfl) ?_
  refine AllocO.own H fun b4 w H => ?_
  refine ⟨⟨8, 8, .i64, .i64, rfl, rfl, Nat.le_refl _, by omega, by show 24 * 8 ≤ _; omega, ?_⟩⟩
  refine AllocO.own H fun b7 w H => ?_
  have H : St g h w ((b7, .cells ((List.replicate 8 (.slice none 0 0)).map oneR).flatten.toArray 115 (0, 0)) :: (b4, .cells #[.int .i64 0, .int .i64 0, .int .i64 0, .slice none 0 0] 209 (0, 0)) :: L) := H
  have hc := HC.new h b7 ((List.replicate 8 (.slice none 0 0)).map oneR).flatten.toArray 115 (0, 0)
  have hle := H.seal_le
  have H := H.sealIt
  refine StO.own H .head rfl rfl rfl fun w H => ?_
  refine LdO.owns H .head rfl ?_
  refine ⟨_, ⟨newR f wd, .slice (some ⟨b7, 0, none⟩) 8 8⟩, hle, rfl, ?_, rfl, H.tail⟩
  refine ⟨List.replicate 8 (.slice none 0 0), rfl, ⟨some ⟨b7, 0, none⟩, 8, rfl, Nat.le_refl _, by simp [oneR], fun _ => ⟨b7, 0, rfl, hc⟩⟩, fun i hi => ?_⟩
  have h8 : i < 8 := hi
  have e1 : (List.replicate 8 (Value.slice none 0 0))[i] = .slice none 0 0 := List.getElem_replicate ..
  have e2 : (newR f wd).bks[i]'(by show i < (List.replicate 8 []).length; simp; omega) = [] := List.getElem_replicate ..
  rw [e1, e2]
  exact Sl.nil _ 3
end Go.Proofs.YtbdoinigeaaclaaGreat
set_option maxRecDepth 20000
namespace Go.Proofs.YtbdoinigeaaclaaGreat
open Go RL PQ
variable {g : World} {h h' : Hp} {w : World} {L : List (Nat × Obj)}
theorem cmpE_neg {a b : It} : (cmpE a.time a.seq b.time b.seq < 0) ↔ ltIt a b = true := by
  rw [ltIt_iff]
  unfold cmpE cmpI
  by_cases h1 : a.time < b.time
  · simp [h1]
  · by_cases h2 : b.time < a.time
    · simp [h1, h2]; omega
    · by_cases h3 : a.seq < b.seq
      · simp [h1, h2, h3]; omega
      · by_cases h4 : b.seq < a.seq
        · simp [h1, h2, h3, h4]
        · simp [h1, h2, h3, h4]
theorem takeWhile_split {p : It → Bool} : ∀ {pre post : List It}, (∀ y ∈ pre, p y = true) → (∀ y ∈ post, p y = false) → (pre ++ post).takeWhile p = pre ∧ (pre ++ post).dropWhile p = post
  | [], post, _, h2 => by
    cases post with
    | nil => exact ⟨rfl, rfl⟩
    | cons y r => simp [List.takeWhile_cons, List.dropWhile_cons, h2 y (.head _)]
  | x :: pre, post, h1, h2 => by
    have ih := takeWhile_split (pre := pre) (post := post) (fun y hy => h1 y (.tail _ hy)) h2
    have hx := h1 x (.head _)
    rw [List.cons_append, List.takeWhile_cons, List.dropWhile_cons, hx]
    simp only [if_true]
    rw [ih.1, ih.2]
    exact ⟨rfl, rfl⟩
/-- Where an insertion has come to: what lies left is not greater, what lies right is. -/
theorem insA_at {pre post : List It} {it : It} (hs : (pre ++ post).Pairwise fun a b => ltIt a b = true) (hpost : ∀ y ∈ post, ltIt it y = true) (hlast : ∀ y, pre.getLast? = some y → ltIt it y = false) :
    insA (pre ++ post) it = pre ++ it :: post := by
  have hpre : ∀ y ∈ pre, (!ltIt it y) = true := by
    intro y hy
    rcases List.eq_nil_or_concat pre with rfl | ⟨q, z, rfl⟩
    · cases hy
    · have hz := hlast z (by simp)
      rw [List.concat_eq_append] at hy hs
      rcases List.mem_append.1 hy with hy | hy
      · cases hi : ltIt it y with
        | false => rfl
        | true =>
          rw [List.append_assoc, List.pairwise_append] at hs
          have := hs.2.2 y hy z (by simp)
          rw [ltIt_trans hi this] at hz; cases hz
      · rw [List.mem_singleton.1 hy, hz]; rfl
  have := takeWhile_split (p := (!ltIt it ·)) (post := post) hpre (fun y hy => by simp [hpost y hy])
  unfold insA
  rw [this.1, this.2]
structure SortS where
  pre : List It
  post : List It
set_option maxHeartbeats 2000000 in
theorem insSort {v : Value} {l : List It} {x : List (Nat × Obj)} (ho : OwnSl 157 3 v (l.map itR) x) (H : St g h w (x ++ L)) (hl : l.length ≤ 19) (hn : (l.map It.seq).Nodup) :
    Ret Tryz.prog 222 [v, .int .i64 0, .int .i64 l.length, .func (.func 83) #[] #[]] w fun _ w' => ∃ x', OwnSl 157 3 v ((sortIt l).map itR) x' ∧ St g h w' (x' ++ L) := by
  obtain ⟨a, cp, hv⟩ := ho.lenM
  subst hv
  refine Ret.enter tabOk Tryz.func222 rfl (by rfl) rfl (by rfl) (by kernel_rfl) ?_
  refine ArO.i64 ?_
  refine LoopO.run (σ := Nat × List (Nat × Obj)) (fun s => [(0, .slice a l.length cp), (1, .int .i64 0), (2, .int .i64 l.length), (3, .func (.func 83) #[] #[]), (8, .int .i64 ((s.1 + 1 : Nat) : Int))])
    (fun s w => St g h w (s.2 ++ L) ∧ s.1 ≤ l.length ∧ OwnSl 157 3 (.slice a l.length cp) (((l.take (s.1 + 1)).foldl insA [] ++ l.drop (s.1 + 1)).map itR) s.2) (fun s => l.length - s.1) (0, x) (by exact ⟨rfl, rfl, rfl, rfl, rfl, trivial⟩) ⟨H, Nat.zero_le _, ?_⟩ ?_
  · have : (l.take 1).foldl insA [] ++ l.drop 1 = l := by
      cases l with
      | nil => rfl
      | cons a r => simp [insA]
    rw [this]; exact ho
  rintro ⟨i, x⟩ w e ⟨H, hi, ho⟩
  simp only at H hi ho
  refine CondT.dec (fun hlt => ?_) (fun hge => ?_)
  · have hil : i + 1 < l.length := by simp only at hlt; omega
    obtain ⟨S, hS⟩ : ∃ S, S = (l.take (i + 1)).foldl insA [] := ⟨_, rfl⟩
    obtain ⟨it, hit⟩ : ∃ it, it = l[i + 1] := ⟨_, rfl⟩
    have hdrop : l.drop (i + 1) = it :: l.drop (i + 2) := by rw [hit]; exact List.drop_eq_getElem_cons hil
    have hSl : S.length = i + 1 := by rw [hS, foldl_insA_length, List.length_take]; simp; omega
    have hsplit : l.take (i + 2) = l.take (i + 1) ++ [it] := by rw [hit, List.take_succ_eq_append_getElem hil]
    have hsub : ((l.take (i + 2)).map It.seq).Nodup := hn.sublist ((List.take_sublist _ _).map _)
    have hsub1 : ((l.take (i + 1)).map It.seq).Nodup := hn.sublist ((List.take_sublist _ _).map _)
    have hsrt := foldl_insA (l := l.take (i + 1)) (acc := []) List.Pairwise.nil (by simpa using hsub1)
    rw [← hS] at hsrt
    have hnext : (l.take (i + 2)).foldl insA [] = insA S it := by rw [hsplit, List.foldl_append, ← hS]; rfl
    rw [← hS, hdrop] at ho
    refine LoopO.run (σ := SortS × List (Nat × Obj)) (fun s => [(0, .slice a l.length cp), (1, .int .i64 0), (2, .int .i64 l.length), (3, .func (.func 83) #[] #[]), (8, .int .i64 ((i + 1 : Nat) : Int)), (9, .int .i64 (s.1.pre.length : Int))])
      (fun s w => St g h w (s.2 ++ L) ∧ OwnSl 157 3 (.slice a l.length cp) ((s.1.pre ++ it :: (s.1.post ++ l.drop (i + 2))).map itR) s.2 ∧ s.1.pre ++ s.1.post = S ∧ ∀ y ∈ s.1.post, ltIt it y = true) (fun s => s.1.pre.length) (⟨S, []⟩, x)
      (by exact ⟨rfl, rfl, rfl, rfl, rfl, by show Value.int .i64 _ = .int .i64 (S.length : Int); rw [hSl], trivial⟩) ⟨H, ho, List.append_nil S, fun y hy => by cases hy⟩ ?_
    rintro ⟨⟨pre, post⟩, x⟩ w e ⟨H, ho, hpp, hpost⟩
    simp only at H ho hpp hpost
    have hrl : ((pre ++ it :: (post ++ l.drop (i + 2))).map itR).length = l.length := by
      have := congrArg List.length hpp
      simp only [List.length_map, List.length_append, List.length_cons, List.length_drop] at this ⊢
      omega
    refine (OwnSl.blk ho (by rw [hrl]; omega)).elim fun b q => q.elim fun c q => q.elim fun cap' q => ?_
    have hv := q.1; have hx := q.2; clear q
    rw [hrl] at hv
    cases hv
    subst hx
    have hfin : (∀ y, pre.getLast? = some y → ltIt it y = false) → OwnSl 157 3 (.slice (some ⟨b, 0, none⟩) l.length cp) (((l.take (i + 1 + 1)).foldl insA [] ++ l.drop (i + 1 + 1)).map itR) [(b, .cells c 157 (0, 0))] := fun hlast => by
      have h1 : (l.take (i + 1 + 1)).foldl insA [] = pre ++ it :: post := by
        rw [show i + 1 + 1 = i + 2 from rfl, hnext, ← hpp]
        refine insA_at ?_ hpost hlast
        rw [hpp]; exact hsrt.1
      rw [h1, List.append_assoc, List.cons_append]
      exact ho
    rcases List.eq_nil_or_concat pre with hpn | ⟨qq, z, hpz⟩
    · subst hpn
      refine DrawO.st H (pl [0, 1, 2, 3, 4, 5, 6, 7, 8, 9, 10, 11, 12, 13, 1014, 15, 16] .nil) (by kernel_rfl) fun w H => ?_
      refine CondT.dec (fun hh => absurd (show (0 : Int) < 0 from hh) (by decide)) (fun _ => ?_)
      refine CondT.mk ?_
      refine ArO.i64 ?_
      exact ⟨rfl, (i + 1, [(b, .cells c 157 (0, 0))]), ⟨rfl, rfl, rfl, rfl, rfl, trivial⟩, ⟨H, by simp only; omega, hfin (fun y hy => by cases hy)⟩, by simp only; omega⟩
    · rw [List.concat_eq_append] at hpz
      subst hpz
      have hql : (qq ++ [z]).length = qq.length + 1 := by simp
      have e1 : ((qq ++ [z] ++ it :: (post ++ l.drop (i + 2))).map itR)[qq.length + 1]? = some (itR it) := by
        rw [List.getElem?_map, List.getElem?_append_right (by simp)]; simp
      have e2 : ((qq ++ [z] ++ it :: (post ++ l.drop (i + 2))).map itR)[qq.length]? = some (itR z) := by
        rw [List.getElem?_map, List.getElem?_append_left (by simp)]; simp
      have i1 := (List.getElem?_eq_some_iff.1 e1).1
      have i2 := (List.getElem?_eq_some_iff.1 e2).1
      have a1 := OwnSl.at ho i1
      have a2 := OwnSl.at ho i2
      rw [(List.getElem?_eq_some_iff.1 e1).2] at a1
      rw [(List.getElem?_eq_some_iff.1 e2).2] at a2
      have hqn : qq.length + 1 < l.length := by rw [← hrl]; exact i1
      refine DrawO.st H (pl [0, 1, 2, 3, 4, 5, 6, 7, 8, 9, 10, 11, 12, 13, 1014, 15, 16] .nil) (by kernel_rfl) fun w H => ?_
      refine CondT.dec (fun _ => ?_) (fun hh => absurd (show (0 : Int) < ((qq ++ [z]).length : Int) by rw [hql]; omega) hh)
      refine IdxO.at0 (i := qq.length + 1) (by rw [hql]) hqn ?_
      refine LdQ.ownsE .head a1.2.1 rfl ?_
      refine ArO.i64 ?_ (by rw [hql]; omega) (by rw [hql]; omega)
      refine IdxO.at0 (i := qq.length) (by rw [hql]; omega) (by omega) ?_
      refine LdQ.ownsE .head a2.2.1 rfl ?_
      refine (compareItems H it.time it.seq it.slot z.time z.seq z.slot).mono ?_; rintro _ w ⟨rfl, H⟩; refine ⟨H, ?_⟩
      refine CondT.dec (fun hlt2 => ?_) (fun hnl => ?_)
      · have hiz : ltIt it z = true := cmpE_neg.1 hlt2
        have er : (((qq ++ [z] ++ it :: (post ++ l.drop (i + 2))).map itR).set (qq.length + 1) (itR z)).set qq.length (itR it) = (qq ++ it :: ((z :: post) ++ l.drop (i + 2))).map itR := by
          have e0 : (qq ++ [z] ++ it :: (post ++ l.drop (i + 2))).map itR = qq.map itR ++ itR z :: itR it :: (post ++ l.drop (i + 2)).map itR := by simp
          rw [e0, List.set_append_right _ _ (by simp), List.set_append_right _ _ (by simp)]
          simp
        have o1 := a1.2.2 (itR z) rfl rfl
        have i3 : qq.length < ((((qq ++ [z] ++ it :: (post ++ l.drop (i + 2))).map itR).set (qq.length + 1) (itR z))).length := by rw [List.length_set]; exact i2
        have a3 := OwnSl.at o1 i3
        have o2 := a3.2.2 (itR it) rfl rfl
        rw [er] at o2
        refine DrawO.wx H (fun w => St g h w ([(b, .cells c 157 (0, 0))] ++ L)) (fun w H => H) (fun j => Nat.ble 15 j) (by kernel_rfl)
          (pl [0, 1, 2, 3, 4, 5, 6, 7, 8, 9, 10, 11, 12, 13, 14, 1015, 1016, 1017] .nil) (by kernel_rfl) fun w H => ?_
        refine ArO.i64 ?_ (by rw [hql]; omega) (by rw [hql]; omega)
        refine ArO.i64 ?_ (by rw [hql]; omega) (by rw [hql]; omega)
        refine IdxO.at0 (i := qq.length) (by rw [hql]; omega) (by omega) ?_
        refine LdQ.ownsE .head a2.2.1 rfl ?_
        refine IdxO.at0 (i := qq.length + 1) (by rw [hql]) hqn ?_
        refine LdQ.ownsE .head a1.2.1 rfl ?_
        refine IdxO.at0 (i := qq.length + 1) (by rw [hql]) hqn ?_
        refine StO.ownE H .head rfl rfl a1.1 (c' := putA c ((qq.length + 1) * 3) (itR z)) rfl fun w H => ⟨rfl, ?_⟩
        refine IdxO.at0 (i := qq.length) (by rw [hql]; omega) (by omega) ⟨rfl, ?_⟩
        refine StO.ownE H .head rfl rfl a3.1 (c' := putA (putA c ((qq.length + 1) * 3) (itR z)) (qq.length * 3) (itR it)) rfl fun w H => ⟨rfl, ?_⟩
        refine ArO.i64 ?_ (by rw [hql]; omega) (by rw [hql]; omega)
        refine ⟨rfl, (⟨qq, z :: post⟩, [(b, .cells (putA (putA c ((qq.length + 1) * 3) (itR z)) (qq.length * 3) (itR it)) 157 (0, 0))]), ⟨rfl, rfl, rfl, rfl, rfl, ?_, trivial⟩, ⟨H, o2, ?_, ?_⟩, ?_⟩
        · show Value.int .i64 _ = .int .i64 (qq.length : Int)
          congr 1
          rw [hql]; omega
        · rw [← hpp]; simp
        · intro y hy
          rcases List.mem_cons.1 hy with rfl | hy
          · exact hiz
          · exact hpost y hy
        · show qq.length < (qq ++ [z]).length
          rw [hql]; omega
      · refine ArO.i64 ?_
        exact ⟨rfl, (i + 1, [(b, .cells c 157 (0, 0))]), ⟨rfl, rfl, rfl, rfl, rfl, trivial⟩, ⟨H, by simp only; omega, hfin (fun y hy => by
          simp only [List.getLast?_append, List.getLast?_singleton, Option.some_or, Option.some.injEq] at hy
          subst hy
          cases hz : ltIt it z with
          | false => rfl
          | true => exact absurd (cmpE_neg.2 hz) hnl)⟩, by simp only; omega⟩
  · have hge : l.length ≤ i + 1 := by simp only at hge; omega
    rw [List.take_of_length_le hge, List.drop_eq_nil_of_le hge, List.append_nil] at ho
    exact ⟨x, ho, H⟩
end Go.Proofs.YtbdoinigeaaclaaGreat
