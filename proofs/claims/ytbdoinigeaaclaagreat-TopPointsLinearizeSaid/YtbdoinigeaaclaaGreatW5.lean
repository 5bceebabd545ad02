/- The program's Replay. Conditions: slices are short.
   The closures of the program's Check: ready, the deferred undoing. Conditions: slices are short.
   The closures of the program's Check: the deferred undoing. Conditions: slices are short.
   The closures of the program's Check: one try. Conditions: slices are short.
   The program's Check. Conditions: slices are short. -/
import Derived.Test.YtbdoinigeaaclaaGreatW4
set_option linter.all false
set_option maxRecDepth 20000
namespace Go.Proofs.YtbdoinigeaaclaaGreat
open Go RL PQ
variable {g : World} {h : Hp} {w : World} {L : List (Nat × Obj)}
theorem replay1 (H : St g h w L) {a : Option Addr} {sc : Nat} {l : List DP} (hs : DnS h (.slice a l.length sc) l) {x y : Nat} (hx : x < l.length) (hy : y < l.length) {z zx : Int} (hz : z = y) (hzx : zx = x) {b4 b11 k4 k11 : Nat} (ha : At (b4, .cells #[.slice a l.length sc] 28 (0, 0)) k4 L) (hb : At (b11, .cells #[.int .i64 zx] 3 (0, 0)) k11 L) :
    Ret Tryz.prog 31 [.int .i64 z, .pointer (some ⟨b4, 0, none⟩), .pointer (some ⟨b11, 0, none⟩)] w fun v w' => v = .bool (prec l[x].d l[y].d) ∧ St g h w' L := by
  refine Ret.enter tabOk Tryz.func31 rfl (by rfl) rfl (by rfl) (by kernel_rfl) ?_
  obtain ⟨bx, ox, hidxx, hrowx⟩ := hs.sl.idxM hx
  obtain ⟨by', oy, hidxy, hrowy⟩ := hs.sl.idxM hy
  refine DrawO.st H (pl [0, 1, 2, 3, 4, 5, 6, 7, 1008, 9] .nil) (by kernel_rfl) fun w H => ?_
  refine LdQ.own ha rfl ?_
  refine LdQ.own hb rfl ?_
  refine hidxx _ _ _ hzx ?_
  refine LdQ.hrow hrowx rfl ?_
  refine LdQ.own ha rfl ?_
  refine hidxy _ _ _ hz ?_
  refine LdQ.hrow hrowy rfl ?_
  refine (precedes H l[x] l[y]).mono ?_; rintro _ w ⟨rfl, H⟩
  exact ⟨H, rfl, H⟩
/-- The cells of 'used'. -/
def usedC (n : Nat) (seen : List Int) : List Value := (List.range n).map fun (k : Nat) => Value.bool (seen.contains (k : Int))
theorem usedC_length (n : Nat) (seen : List Int) : (usedC n seen).length = n := by simp [usedC]
theorem usedC_nil (n : Nat) : RL.repL n [.bool false] = usedC n [] := by
  unfold usedC
  induction n with
  | zero => rfl
  | succ n ih =>
    show [Value.bool false] ++ RL.repL n [.bool false] = _
    rw [ih, List.range_succ_eq_map]
    simp
theorem usedC_get {n : Nat} {seen : List Int} {x : Nat} (hx : x < n) : nth (usedC n seen) (x * 1) = some (.bool (seen.contains (x : Int))) := by
  rw [nth_eq, Nat.mul_one]; simp [usedC, hx]
theorem usedC_set {n : Nat} {seen : List Int} {x : Nat} : putA (usedC n seen).toArray (x * 1) [.bool true] = (usedC n (seen ++ [(x : Int)])).toArray := by
  apply Array.ext'
  rw [putA_one, Nat.mul_one]
  show (usedC n seen).set x (.bool true) = usedC n (seen ++ [(x : Int)])
  apply List.ext_getElem
  · simp [usedC]
  · intro k h1 h2
    simp only [usedC, List.length_map, List.length_range] at h2
    rw [List.getElem_set]
    by_cases hk : x = k
    · subst hk; simp [usedC]
    · rw [if_neg hk]
      have h3 : ¬ (k : Int) = (x : Int) := by omega
      simp [usedC, h3]
theorem replay (H : St g h w L) (cap : Int) {sv ov : Value} {l : List DP} (hs : DnS h sv l) (hl : l.length ≤ 900) {ord : List Int} (ho : IntS h ov ord) (hol : ord.length ≤ 9223372036854775807) :
    Ret Tryz.prog 12 [.int .i64 cap, sv, ov] w fun v w' => v = .bool (replayL cap (ds l) ord) ∧ St g h w' L := by
  have hdl := ds_length l
  refine Ret.enter tabOk Tryz.func12 rfl (by rfl) rfl (by rfl) (by kernel_rfl) ?_
  obtain ⟨a, sc, rfl⟩ := hs.sl.lenM
  obtain ⟨oa, oc, rfl⟩ := ho.lenM
  refine AllocO.own H fun b4 w H => ?_
  refine (pqNew H cap).mono ?_; intro v w q
  have hv := q.1; have H := q.2; clear q
  by_cases hcb : cap < 1 ∨ 64 < cap
  · rw [if_pos hcb] at hv; subst hv
    refine AllocO.own H fun b7 w H => ?_
    refine StO.own H .head rfl rfl rfl fun w H => ?_
    refine CondT.dec (fun _ => ?_) (fun hh => absurd (show (1 : Int) ≠ 0 by decide) hh)
    refine CondT.mk ?_
    exact ⟨Eq.trans (b := .bool false) rfl (by rw [replayL, if_pos (.inl (show capBad cap from hcb))]), H.tail.tail⟩
  rw [if_neg hcb] at hv; subst hv
  refine AllocO.own H fun b7 w H => ?_
  refine StO.own H .head rfl rfl rfl fun w H => ?_
  refine CondT.dec (fun hh => absurd rfl hh) (fun _ => ?_)
  refine LdO.own H (.tail .head) rfl ?_
  refine CondT.dec (fun h1 => ?_) (fun h1 => ?_)
  · exact ⟨Eq.trans (b := .bool false) rfl (by rw [replayL, if_pos (.inr (by rw [hdl]; omega))]), H.tail.tail⟩
  have hle0 : ord.length = l.length := by have := Classical.not_not.1 h1; omega
  have hfull : replayL cap (ds l) ord = (PQ.repL (ds l) (newM cap) [] ord).isSome := by
    rw [replayL, if_neg (by rintro (hh | hh); exact hcb hh; exact hh (by omega))]; rfl
  refine LdO.own H (.tail .head) rfl ?_
  refine ⟨⟨l.length, l.length, .i64, .i64, rfl, rfl, Nat.le_refl _, by omega, by show 1 * l.length ≤ _; omega, ?_⟩⟩
  refine AllocO.own H fun bs w H => ?_
  have H : St g h w ((bs, .cells (RL.repL l.length [.bool false]).toArray 4 (0, 0)) :: (b7, .cells (newP cap).row.toArray 66 (0, 0)) :: (b4, .cells #[.slice a l.length sc] 28 (0, 0)) :: L) := H
  rw [usedC_nil] at H
  refine LoopO.run (σ := RepS) (fun s => [(2, .slice oa ord.length oc), (4, .pointer (some ⟨b4, 0, none⟩)), (7, .pointer (some ⟨b7, 0, none⟩)), (9, .slice (some ⟨bs, 0, none⟩) l.length l.length), (30, .slice oa ord.length oc), (31, .int .i64 ord.length), (32, .int .i64 s.i)])
    (fun s w => h.le s.h ∧ s.p.ok s.h ∧ St g s.h w ((bs, .cells (usedC l.length (ord.take s.i)).toArray 4 (0, 0)) :: (b7, .cells s.p.row.toArray 66 (0, 0)) :: (b4, .cells #[.slice a l.length sc] 28 (0, 0)) :: L) ∧ s.i ≤ ord.length ∧ Inv s.i s.p.m ∧ (∀ z ∈ ord.take s.i, ∃ y : Nat, z = (y : Int) ∧ y < l.length) ∧ PQ.repL (ds l) (newM cap) [] ord = PQ.repL (ds l) s.p.m (ord.take s.i) (ord.drop s.i))
    (fun s => ord.length - s.i) ⟨0, newP cap, h⟩ (by exact ⟨rfl, rfl, rfl, rfl, rfl, rfl, rfl, trivial⟩)
    ⟨Hp.le_refl h, newP_ok h cap, H, Nat.zero_le _, newInv (by omega) (by omega), fun z hz => by simp at hz, rfl⟩ ?_
  rintro ⟨i, p, h'⟩ w e ⟨hle, hp, H, hi, hinv, hin, hrep⟩
  simp only at hle hp H hi hinv hin hrep
  refine CondT.dec (fun hlt => ?_) (fun hge => ?_)
  · have hlt' : i < ord.length := by simp only at hlt; omega
    have hdrop : ord.drop i = ord[i] :: ord.drop (i + 1) := List.drop_eq_getElem_cons hlt'
    have hsn : ord.take (i + 1) = ord.take i ++ [ord[i]] := by rw [List.take_succ_eq_append_getElem hlt']
    have hfin : replayL cap (ds l) ord = (PQ.repL (ds l) p.m (ord.take i) (ord[i] :: ord.drop (i + 1))).isSome := by rw [hfull, hrep, hdrop]
    rw [hdrop] at hrep
    obtain ⟨bo, oo, hidxo, hrowo⟩ := ho.idxM hlt'
    refine hidxo _ _ _ rfl ?_
    refine LdO.hc H (hrowo.le hle) (j := 0) rfl ?_
    refine AllocO.own H fun b11 w H => ?_
    refine StO.own H .head rfl rfl rfl fun w H => ?_
    refine LdO.own H .head rfl ?_
    refine CondT.dec (fun h2 => ?_) (fun h2 => ?_)
    · refine CondT.mk ?_
      exact ⟨Eq.trans (b := .bool false) rfl (by rw [hfin, repL_cons, if_pos (.inl h2)]; rfl), (H.less hle).tail.tail.tail.tail⟩
    refine LdO.own H .head rfl ?_
    refine LdO.own H (.tail (.tail (.tail .head))) rfl ?_
    refine CondT.dec (fun h3 => ?_) (fun h3 => ?_)
    · exact ⟨Eq.trans (b := .bool false) rfl (by rw [hfin, repL_cons, if_pos (.inr (.inl (by rw [hdl]; omega)))]; rfl), (H.less hle).tail.tail.tail.tail⟩
    have hx : ∃ x : Nat, ord[i] = (x : Int) := ⟨ord[i].toNat, by omega⟩
    refine hx.elim fun x hx => ?_
    have hxl : x < l.length := by omega
    refine LdO.own H .head rfl ?_
    refine IdxO.at0 hx hxl ?_
    refine LdO.own H (.tail .head) (usedC_get hxl) ?_
    refine CondT.bool (fun h4 => ?_) (fun h4 => ?_)
    · exact ⟨Eq.trans (b := .bool false) rfl (by rw [hfin, repL_cons, if_pos (.inr (.inr (by rw [hx]; exact h4)))]; rfl), (H.less hle).tail.tail.tail.tail⟩
    have hdx : dat (ds l) ord[i].toNat = l[x].d := by rw [hx]; exact dat_ds hxl
    have hc0 : ¬ (ord[i] < 0 ∨ ((ds l).length : Int) ≤ ord[i] ∨ (ord.take i).contains ord[i] = true) := by
      rw [hdl, hx, h4]; simp; omega
    have hmid : PQ.repL (ds l) p.m (ord.take i) (ord[i] :: ord.drop (i + 1)) = if (ord.take i).any (fun j => prec l[x].d (dat (ds l) j.toNat)) = true then none else if (accM p.m l[x].d.call l[x].d.res).2 = true then PQ.repL (ds l) (accM p.m l[x].d.call l[x].d.res).1 (ord.take i ++ [ord[i]]) (ord.drop (i + 1)) else none := by
      rw [repL_cons, if_neg hc0, hdx]
    refine LdO.own H .head rfl ?_
    refine IdxO.at0 hx hxl ?_
    refine StO.own H (.tail .head) rfl rfl (Nat.ble_eq_true_of_le (by show x * 1 + 1 ≤ (usedC l.length (ord.take i)).toArray.size; rw [List.size_toArray, usedC_length]; omega)) fun w H => ?_
    have H : St g h' w ((b11, .cells #[.int .i64 ord[i]] 3 (0, 0)) :: (bs, .cells (usedC l.length (ord.take (i + 1))).toArray 4 (0, 0)) :: (b7, .cells p.row.toArray 66 (0, 0)) :: (b4, .cells #[.slice a l.length sc] 28 (0, 0)) :: L) := by
      have e := usedC_set (n := l.length) (seen := ord.take i) (x := x)
      rw [← hx] at e
      rw [hsn, ← e]; exact H
    refine Sl.takeO (n := i) ho (by rw [List.length_map]; omega) fun vT hsT => ?_
    have hsT : IntS h' vT (ord.take i) := by
      show Sl h' 1 vT ((ord.take i).map intR)
      rw [List.map_take]; exact hsT.le hle
    have htl : (ord.take i).length = i := by rw [List.length_take]; omega
    refine (containsFuncI H hsT (by omega) 31 #[.pointer (some ⟨b4, 0, none⟩), .pointer (some ⟨b11, 0, none⟩)] (fun z => prec l[x].d (dat (ds l) z.toNat)) (fun z hz w H => ?_)).mono ?_
    · refine (hin z hz).elim fun y hy => ?_
      have hyz := hy.1
      have hyl := hy.2
      clear hy
      have hyd : dat (ds l) z.toNat = l[y].d := by rw [hyz]; exact dat_ds hyl
      rw [hyd]
      exact replay1 H (hs.le hle) hxl hyl hyz hx (.tail (.tail (.tail .head))) .head
    intro v w q
    have hv := q.1; have H := q.2; clear q; subst hv
    refine CondT.bool (fun h5 => ?_) (fun h5 => ?_)
    · exact ⟨Eq.trans (b := .bool false) rfl (by rw [hfin, hmid, if_pos h5]; rfl), (H.less hle).tail.tail.tail.tail⟩
    have hstep := hmid
    rw [if_neg (by rw [h5]; decide)] at hstep
    obtain ⟨bx, ox, hidxx, hrowx⟩ := hs.sl.idxM hxl
    have hrowx := hrowx.le hle
    have hrok : (l[x].rp).ok h' := Sl.le (hs.ev _ (List.getElem_mem hxl)) hle
    refine DrawO.wi H (fun w => St g h' w ((b11, .cells #[.int .i64 ord[i]] 3 (0, 0)) :: (b4, .cells #[.slice a l.length sc] 28 (0, 0)) :: L)) (fun w H => H.sub (.cons_cons _ (.cons _ (.cons _ (.refl _))))) (pl [1, 2, 3, 4, 5, 6, 7, 8, 9, 10, 1000, 1011, 12, 13, 14, 1015, 16] .nil) (by kernel_rfl) fun w H => ?_
    refine LdQ.own (.tail .head) rfl ?_
    refine LdQ.own .head rfl ?_
    refine hidxx _ _ _ hx ?_
    refine LdQ.hcs hrowx (j := 1) rfl ?_
    refine LdQ.own (.tail .head) rfl ?_
    refine LdQ.own .head rfl ?_
    refine hidxx _ _ _ hx ?_
    refine LdQ.hcs hrowx (j := 6) rfl ?_
    refine LdO.owns H (.tail (.tail .head)) rfl ⟨H.sub (.cons_cons _ (.cons _ (.cons _ (.refl _)))), ?_⟩
    refine (acceptsC H hp l[x].d.call hrok hinv (by omega)).mono ?_; intro v w q
    refine q.elim fun h2 q => q.elim fun p' q => ?_
    have hle2 := q.1; have hv := q.2.1; have hp' := q.2.2.1; have hpm := q.2.2.2.1; have H := q.2.2.2.2
    clear q
    subst hv
    refine ⟨(H.less hle2).sub (.cons_cons _ (.cons _ (.cons _ (.refl _)))), ?_⟩
    refine StO.own H (.tail (.tail .head)) rfl rfl rfl fun w H => ⟨(H.less hle2).sub (.cons_cons _ (.cons _ (.cons _ (.refl _)))), ?_⟩
    refine CondT.bool (fun h7 => ?_) (fun h7 => ?_)
    · have h7' : (!(accM p.m l[x].d.call l[x].d.res).2) = true := h7
      have h7 : ¬ (accM p.m l[x].d.call l[x].d.res).2 = true := by simpa using h7'
      exact ⟨Eq.trans (b := .bool false) rfl (by rw [hfin, hstep, if_neg h7]; rfl), (H.less (Hp.le_trans hle hle2)).tail.tail.tail.tail⟩
    · have h7' : (!(accM p.m l[x].d.call l[x].d.res).2) = false := h7
      have h7 : (accM p.m l[x].d.call l[x].d.res).2 = true := by simpa using h7'
      refine ArO.i64 ?_
      refine ⟨rfl, ⟨i + 1, p', h2⟩, ⟨rfl, rfl, rfl, rfl, rfl, rfl, rfl, trivial⟩, ⟨Hp.le_trans hle hle2, hp', H.tail, hlt', ?_, ?_, ?_⟩, by simp only; omega⟩
      · rw [hpm]; exact hinv.acc _ _
      · intro z hz
        have hz : z ∈ ord.take (i + 1) := hz
        rw [hsn, List.mem_append] at hz
        refine hz.elim (fun hz => hin z hz) (fun hz => ⟨x, ?_, hxl⟩)
        rw [← hx]; simpa using hz
      · show PQ.repL (ds l) (newM cap) [] ord = PQ.repL (ds l) p'.m (ord.take (i + 1)) (ord.drop (i + 1))
        rw [hrep, hstep, if_pos h7, hpm, hsn]; rfl
  · have hie : i = ord.length := by simp only at hge; omega
    refine ⟨Eq.trans (b := .bool true) rfl (congrArg Value.bool (Eq.symm ?_)), (H.less hle).tail.tail.tail⟩
    rw [hfull, hrep, hie, List.drop_length]; rfl
end Go.Proofs.YtbdoinigeaaclaaGreat
set_option maxRecDepth 20000
namespace Go.Proofs.YtbdoinigeaaclaaGreat
open Go RL PQ
variable {g : World} {h : Hp} {w : World} {L : List (Nat × Obj)}
theorem check1 (H : St g h w L) {a : Option Addr} {sc : Nat} {l : List DP} (hs : DnS h (.slice a l.length sc) l) (hl : l.length ≤ 900) {ord : List Nat} {i : Nat} (hi : i < l.length) {b3 b8 bs k3 k8 ks : Nat}
    (h3 : At (b3, .cells #[.slice a l.length sc] 28 (0, 0)) k3 L) (h8 : At (b8, .cells #[.slice (some ⟨bs, 0, none⟩) l.length l.length] 69 (0, 0)) k8 L) (hu : At (bs, .cells (usedC l.length (oi ord)).toArray 4 (0, 0)) ks L) :
    Ret Tryz.prog 24 [.int .i64 i, .pointer (some ⟨b3, 0, none⟩), .pointer (some ⟨b8, 0, none⟩)] w fun v w' => v = .bool (readyL (ds l) ord i) ∧ St g h w' L := by
  refine Ret.enter tabOk Tryz.func24 rfl (by rfl) rfl (by rfl) (by kernel_rfl) ?_
  refine LdO.own H h3 rfl ?_
  refine LoopO.run (σ := Nat) (fun j => [(0, .int .i64 i), (1, .pointer (some ⟨b3, 0, none⟩)), (2, .pointer (some ⟨b8, 0, none⟩)), (7, .slice a l.length sc), (8, .int .i64 l.length), (9, .int .i64 j)])
    (fun j w => St g h w L ∧ j ≤ l.length ∧ ∀ k (hk : k < j) (hx : k < l.length), (ord.contains k || !prec l[k].d l[i].d) = true) (fun j => l.length - j) 0 (by exact ⟨rfl, rfl, rfl, rfl, rfl, rfl, trivial⟩) ⟨H, Nat.zero_le _, fun j hj => absurd hj (Nat.not_lt_zero j)⟩ ?_
  rintro j w e ⟨H, hj, hnj⟩
  refine CondT.dec (fun hlt => ?_) (fun hge => ?_)
  · have hjl : j < l.length := by omega
    obtain ⟨b, o, hidx, hrow⟩ := hs.sl.idxM hi
    obtain ⟨b2, o2, hidx2, hrow2⟩ := hs.sl.idxM hjl
    have bad : (ord.contains j || !prec l[j].d l[i].d) = false → readyL (ds l) ord i = false := fun hb => by
      rw [readyL, Bool.and_eq_false_iff]
      right
      rw [List.all_eq_false]
      refine ⟨j, by rw [List.mem_range, ds_length]; exact hjl, ?_⟩
      rw [dat_ds hjl, dat_ds hi, hb]; simp
    have next : (ord.contains j || !prec l[j].d l[i].d) = true → ∀ k (hk : k < j + 1) (hx : k < l.length), (ord.contains k || !prec l[k].d l[i].d) = true := fun hb k hk hx => by
      rcases Nat.lt_or_ge k j with hkj | hkj
      · exact hnj k hkj hx
      · have : k = j := by omega
        subst this
        exact hb
    have hcj := oi_contains ord j
    refine hidx2 _ _ _ rfl ?_
    refine LdO.hrow H hrow2 rfl ?_
    refine AllocO.own H fun b6 w H => ?_
    refine StO.own H .head rfl rfl rfl fun w H => ?_
    refine DrawO.st H (pl [0, 1, 2, 3, 4, 5, 6, 7, 8, 9, 10, 1011, 12] .nil) (by kernel_rfl) fun w H => ?_
    refine LdQ.own (.tail h8) rfl ?_
    refine IdxO.at0 rfl hjl ?_
    refine LdQ.own (.tail hu) (usedC_get hjl) ?_
    refine CondT.bool (fun h2 => ?_) (fun h2 => ?_)
    · have h2' : (!(oi ord).contains (j : Int)) = true := h2
      have h2 : ord.contains j = false := by rw [← hcj]; simpa using h2'
      refine LdQ.owns .head rfl ?_
      refine LdQ.own (.tail h3) rfl ?_
      refine hidx _ _ _ rfl ?_
      refine LdQ.hrow hrow rfl ?_
      refine (precedes H l[j] l[i]).mono ?_; rintro _ w ⟨rfl, H⟩; refine ⟨H, ?_⟩
      refine CondT.bool (fun h3 => ?_) (fun h3 => ?_)
      · exact ⟨Eq.trans (b := .bool false) rfl (by rw [bad (by rw [h2, h3]; rfl)]), H.tail⟩
      · refine ArO.i64 ?_
        exact ⟨rfl, j + 1, ⟨rfl, rfl, rfl, rfl, rfl, rfl, trivial⟩, ⟨H.tail, hjl, next (by rw [h3]; simp)⟩, by omega⟩
    · have h2' : (!(oi ord).contains (j : Int)) = false := h2
      have h2 : ord.contains j = true := by rw [← hcj]; simpa using h2'
      refine CondT.mk ?_
      refine ArO.i64 ?_
      exact ⟨rfl, j + 1, ⟨rfl, rfl, rfl, rfl, rfl, rfl, trivial⟩, ⟨H.tail, hjl, next (by rw [h2]; rfl)⟩, by omega⟩
  · refine LdO.own H h8 rfl ?_
    refine IdxO.at0 rfl hi ?_
    refine LdO.own H hu (usedC_get hi) ?_
    refine ⟨Eq.trans (b := .bool (!(oi ord).contains (i : Int))) rfl (congrArg Value.bool (Eq.symm ?_)), H⟩
    rw [readyL, oi_contains]
    have : (List.range (ds l).length).all (fun j => ord.contains j || !prec (dat (ds l) j) (dat (ds l) i)) = true := by
      rw [List.all_eq_true]
      intro k hk
      rw [List.mem_range, ds_length] at hk
      rw [dat_ds hk, dat_ds hi]
      exact hnj k (by omega) hk
    rw [this, Bool.and_true]
end Go.Proofs.YtbdoinigeaaclaaGreat
set_option maxRecDepth 20000
namespace Go.Proofs.YtbdoinigeaaclaaGreat
open Go RL PQ
variable {g : World} {h : Hp} {w : World} {L : List (Nat × Obj)}
theorem usedC_unset {n : Nat} {seen : List Int} {x : Nat} (hx : seen.contains (x : Int) = false) : putA (usedC n (seen ++ [(x : Int)])).toArray (x * 1) [.bool false] = (usedC n seen).toArray := by
  apply Array.ext'
  rw [putA_one, Nat.mul_one]
  show (usedC n (seen ++ [(x : Int)])).set x (.bool false) = usedC n seen
  apply List.ext_getElem
  · simp [usedC]
  · intro k h1 h2
    simp only [usedC, List.length_map, List.length_range] at h2
    rw [List.getElem_set]
    by_cases hk : x = k
    · subst hk
      have hx' : ¬ (x : Int) ∈ seen := by rw [← List.contains_iff_mem, hx]; decide
      simp [usedC, hx']
    · rw [if_neg hk]
      have h3 : ¬ (k : Int) = (x : Int) := by omega
      simp [usedC, h3]
theorem OwnSl.pop {el sz : Nat} {a : Option Addr} {n cap : Nat} {rows : List (List Value)} {r : List Value} {x : List (Nat × Obj)} (ho : OwnSl el sz (.slice a (n + 1) cap) (rows ++ [r]) x) (hn : rows.length = n) : OwnSl el sz (.slice a n cap) rows x := by
  obtain ⟨hr, ⟨_, hnil, _⟩ | ⟨b, c, cap', he, h1, h2, h3, rfl⟩⟩ := ho
  · simp at hnil
  · simp only [Value.slice.injEq] at he
    obtain ⟨rfl, he2, rfl⟩ := he
    subst hn
    refine ⟨fun q hq => hr q (by simp [hq]), .inr ⟨b, c, cap, rfl, by simp only [List.length_append, List.length_cons, List.length_nil] at h1; omega, h2, ?_, rfl⟩⟩
    have hfl := flat_len rows (fun q hq => (hr q (by simp [hq])).1)
    have h4 : c.toList.take (rows.length * sz) = ((rows ++ [r]).flatten).take (rows.length * sz) := by
      rw [← h3, List.take_take, Nat.min_eq_left (by simp only [List.length_append, List.length_cons, List.length_nil]; exact Nat.mul_le_mul_right _ (by omega))]
    rw [h4, List.flatten_append, List.take_append_of_le_length (by omega), List.take_of_length_le (by omega)]
theorem undo (B9 B6 : Nat × Obj) {R : List (Nat × Obj)} {n : Nat} {ord : List Nat} {i : Nat} (hi : i < n) (hni : ord.contains i = false) {br bi bs b10 b12 b11 b9 b8 : Nat} {o12 o11 o9 : Obj} {oa : Option Addr} {oc : Nat} (hoc : ord.length + 1 ≤ oc) (hol : ord.length ≤ 1000)
    (H : St g h w (B9 :: (br, .cells #[.bool false] 4 (0, 0)) :: (bi, .cells #[.int .i64 i] 3 (0, 0)) :: B6 :: (bs, .cells (usedC n (oi (ord ++ [i]))).toArray 4 (0, 0)) :: (b10, .cells #[.slice oa (ord.length + 1) oc] 31 (0, 0)) :: (b12, o12) :: (b11, o11) :: (b9, o9) :: (b8, .cells #[.slice (some ⟨bs, 0, none⟩) n n] 69 (0, 0)) :: R)) :
    RetD Tryz.prog 28 [.pointer (some ⟨br, 0, none⟩), .pointer (some ⟨b8, 0, none⟩), .pointer (some ⟨bi, 0, none⟩), .pointer (some ⟨b10, 0, none⟩)] w fun w' =>
      St g h w' (B9 :: (br, .cells #[.bool false] 4 (0, 0)) :: (bi, .cells #[.int .i64 i] 3 (0, 0)) :: B6 :: (bs, .cells (usedC n (oi ord)).toArray 4 (0, 0)) :: (b10, .cells #[.slice oa ord.length oc] 31 (0, 0)) :: (b12, o12) :: (b11, o11) :: (b9, o9) :: (b8, .cells #[.slice (some ⟨bs, 0, none⟩) n n] 69 (0, 0)) :: R) := by
  refine RetD.enter tabOk Tryz.func28 rfl (by rfl) rfl (by rfl) (by kernel_rfl) ?_
  refine LdO.own H (.tail .head) rfl ?_
  refine CondT.mk ?_
  refine LdO.own H (.tail (.tail (.tail (.tail (.tail (.tail (.tail (.tail (.tail .head))))))))) rfl ?_
  refine LdO.own H (.tail (.tail .head)) rfl ?_
  refine IdxO.at0 rfl hi ?_
  refine StO.own H (.tail (.tail (.tail (.tail .head)))) rfl rfl (Nat.ble_eq_true_of_le (by show i * 1 + 1 ≤ (usedC n (oi (ord ++ [i]))).toArray.size; rw [List.size_toArray, usedC_length]; omega)) fun w H => ?_
  have e : putA (usedC n (oi (ord ++ [i]))).toArray (i * 1) [.bool false] = (usedC n (oi ord)).toArray := by
    have h1 : oi (ord ++ [i]) = oi ord ++ [(i : Int)] := by simp [oi]
    rw [h1]; exact usedC_unset (by rw [oi_contains]; exact hni)
  have H : St g h w (B9 :: (br, .cells #[.bool false] 4 (0, 0)) :: (bi, .cells #[.int .i64 i] 3 (0, 0)) :: B6 :: (bs, .cells (usedC n (oi ord)).toArray 4 (0, 0)) :: (b10, .cells #[.slice oa (ord.length + 1) oc] 31 (0, 0)) :: (b12, o12) :: (b11, o11) :: (b9, o9) :: (b8, .cells #[.slice (some ⟨bs, 0, none⟩) n n] 69 (0, 0)) :: R) := by
    rw [← e]; exact H
  refine LdO.own H (.tail (.tail (.tail (.tail (.tail .head))))) rfl ?_
  refine LdO.own H (.tail (.tail (.tail (.tail (.tail .head))))) rfl ?_
  refine ArO.i64 ?_
  refine SlcO.hi (n := ord.length) (by omega) (by omega) ?_
  refine StO.own H (.tail (.tail (.tail (.tail (.tail .head))))) rfl rfl rfl fun w H => ?_
  exact H
theorem undoNot (B9 : Nat × Obj) {R : List (Nat × Obj)} {br bi b8 b10 : Nat} (H : St g h w (B9 :: (br, .cells #[.bool true] 4 (0, 0)) :: R)) :
    RetD Tryz.prog 28 [.pointer (some ⟨br, 0, none⟩), .pointer (some ⟨b8, 0, none⟩), .pointer (some ⟨bi, 0, none⟩), .pointer (some ⟨b10, 0, none⟩)] w fun w' =>
      St g h w' (B9 :: (br, .cells #[.bool true] 4 (0, 0)) :: R) := by
  refine RetD.enter tabOk Tryz.func28 rfl (by rfl) rfl (by rfl) (by kernel_rfl) ?_
  refine LdO.own H (.tail .head) rfl ?_
  refine CondT.mk ?_
  exact H
end Go.Proofs.YtbdoinigeaaclaaGreat
set_option maxRecDepth 20000
namespace Go.Proofs.YtbdoinigeaaclaaGreat
open Go RL PQ
variable {g : World} {h : Hp} {w : World} {L : List (Nat × Obj)}
def ptr (b : Nat) : Value := .pointer (some ⟨b, 0, none⟩)
/-- The blocks that the closures share. -/
structure SB where
  b3 : Nat
  b8 : Nat
  b9 : Nat
  b10 : Nat
  b11 : Nat
  b12 : Nat
  bs : Nat
  a : Option Addr
  sc : Nat
abbrev SR (B : SB) (n : Nat) (R : List (Nat × Obj)) : List (Nat × Obj) :=
  (B.b12, .cells #[.func (.func 26) #[] #[.pointer (some ⟨B.b3, 0, none⟩), .pointer (some ⟨B.b8, 0, none⟩), .pointer (some ⟨B.b10, 0, none⟩), .pointer (some ⟨B.b11, 0, none⟩)]] 75 (0, 0)) ::
  (B.b11, .cells #[.func (.func 29) #[] #[.pointer (some ⟨B.b10, 0, none⟩), .pointer (some ⟨B.b3, 0, none⟩), .pointer (some ⟨B.b9, 0, none⟩), .pointer (some ⟨B.b12, 0, none⟩)]] 72 (0, 0)) ::
  (B.b9, .cells #[.func (.func 24) #[] #[.pointer (some ⟨B.b3, 0, none⟩), .pointer (some ⟨B.b8, 0, none⟩)]] 71 (0, 0)) ::
  (B.b8, .cells #[.slice (some ⟨B.bs, 0, none⟩) n n] 69 (0, 0)) :: (B.b3, .cells #[.slice B.a n B.sc] 28 (0, 0)) :: R
abbrev SL (B : SB) (n : Nat) (ord : List Nat) (oa : Option Addr) (oc : Nat) (R : List (Nat × Obj)) : List (Nat × Obj) :=
  (B.bs, .cells (usedC n (oi ord)).toArray 4 (0, 0)) :: (B.b10, .cells #[.slice oa ord.length oc] 31 (0, 0)) :: SR B n R
/-- What a search by the program's closures hands back. -/
def SeaQ (B : SB) (n : Nat) (ord : List Nat) (g : World) (h : Hp) (L : List (Nat × Obj)) (r : Option (List Nat)) : Value → World → Prop := fun v w =>
  ∃ (h' : Hp) (oa : Option Addr) (oc : Nat) (x : List (Nat × Obj)), h.le h' ∧ v = .bool r.isSome ∧ OwnSl 3 1 (.slice oa (r.getD ord).length oc) ((oi (r.getD ord)).map intR) x ∧ St g h' w (SL B n (r.getD ord) oa oc (x ++ L))
/-- The search, for orders that lack k calls. -/
def SeaC (B : SB) (l : List DP) (k : Nat) : Prop := ∀ (m : Mod) (ord : List Nat) {g : World} {h : Hp} {w : World} {L : List (Nat × Obj)} {oa : Option Addr} {oc : Nat} {x : List (Nat × Obj)} {p : MP},
    St g h w (SL B l.length ord oa oc (x ++ L)) → p.ok h → DnS h (.slice B.a l.length B.sc) l → OwnSl 3 1 (.slice oa ord.length oc) ((oi ord).map intR) x → p.m = m → Inv ord.length m → ord.length + k = l.length →
    Ret Tryz.prog 29 [p.val, .pointer (some ⟨B.b10, 0, none⟩), .pointer (some ⟨B.b3, 0, none⟩), .pointer (some ⟨B.b9, 0, none⟩), .pointer (some ⟨B.b12, 0, none⟩)] w (SeaQ B l.length ord g h L (searchL (ds l) k m ord))
theorem check2 {B : SB} {l : List DP} {k : Nat} (ih : SeaC B l k) (hl : l.length ≤ 900) {ord : List Nat} {i : Nat} (hi : i < l.length) (hni : ord.contains i = false) {oa : Option Addr} {oc : Nat} {x : List (Nat × Obj)} {p : MP}
    (H : St g h w (SL B l.length ord oa oc (x ++ L))) (hp : p.ok h) (hs : DnS h (.slice B.a l.length B.sc) l) (ho : OwnSl 3 1 (.slice oa ord.length oc) ((oi ord).map intR) x) (hinv : Inv ord.length p.m) (hlen : ord.length + (k + 1) = l.length) :
    Ret Tryz.prog 26 [p.val, .int .i64 i, .pointer (some ⟨B.b3, 0, none⟩), .pointer (some ⟨B.b8, 0, none⟩), .pointer (some ⟨B.b10, 0, none⟩), .pointer (some ⟨B.b11, 0, none⟩)] w
      (SeaQ B l.length ord g h L (if (accM p.m l[i].d.call l[i].d.res).2 = true then searchL (ds l) k (accM p.m l[i].d.call l[i].d.res).1 (ord ++ [i]) else none)) := by
  have hoil : ((oi ord).map intR).length = ord.length := by rw [List.length_map, oi_length]
  refine Ret.enterD tabOk Tryz.func26 rfl (by rfl) rfl (by rfl) (by kernel_rfl) ?_
  refine AllocO.own H fun c6 w H => ?_
  refine AllocO.own H fun c7 w H => ?_
  refine AllocO.own H fun c8 w H => ?_
  obtain ⟨bx, ox, hidxx, hrowx⟩ := hs.sl.idxM hi
  have hrok : (l[i].rp).ok h := hs.ev _ (List.getElem_mem hi)
  refine DrawO.st H (pl [0, 1, 2, 3, 4, 5, 6, 7, 8, 9, 10] (.ll 11 (pl [12, 13, 14, 1015, 1016, 17] .nil) 15 (pl [1011, 12, 13, 14, 1016, 17] .nil))) (by kernel_rfl) fun w H => ?_
  refine LdQ.owns (.tail (.tail .head)) rfl ?_
  refine LdQ.own (.tail (.tail (.tail (.tail (.tail (.tail (.tail (.tail (.tail .head))))))))) rfl ?_
  refine LdQ.own (.tail .head) rfl ?_
  refine hidxx _ _ _ rfl ?_
  refine LdQ.hcs hrowx (j := 1) rfl ?_
  refine LdQ.own (.tail (.tail (.tail (.tail (.tail (.tail (.tail (.tail (.tail .head))))))))) rfl ?_
  refine LdQ.own (.tail .head) rfl ?_
  refine hidxx _ _ _ rfl ?_
  refine LdQ.hcs hrowx (j := 6) rfl ?_
  refine ⟨?_, ?_⟩
  · refine (acceptsC H hp l[i].d.call hrok hinv (by omega)).mono ?_; intro v w q
    refine q.elim fun h2 q => q.elim fun p' q => ?_
    have hle2 := q.1; have hv := q.2.1; have hp' := q.2.2.1; have hpm := q.2.2.2.1; have H := q.2.2.2.2
    clear q
    subst hv
    refine ⟨H.less hle2, ?_⟩
    refine AllocO.own H fun c9 w H => ⟨(H.less hle2).tail, ?_⟩
    refine StO.own H .head rfl rfl rfl fun w H => ⟨(H.less hle2).tail, ?_⟩
    refine CondT.bool (fun h7 => ?_) (fun h7 => ?_)
    · have h7' : (!(accM p.m l[i].d.call l[i].d.res).2) = true := h7
      have h7 : ¬ (accM p.m l[i].d.call l[i].d.res).2 = true := by simpa using h7'
      refine StO.own H (.tail .head) rfl rfl rfl fun w H => ?_
      refine LdO.own H (.tail .head) rfl ?_
      rw [if_neg h7]
      exact ⟨h2, oa, oc, x, hle2, rfl, ho, H.tail.tail.tail.tail⟩
    · have h7' : (!(accM p.m l[i].d.call l[i].d.res).2) = false := h7
      have h7 : (accM p.m l[i].d.call l[i].d.res).2 = true := by simpa using h7'
      rw [if_pos h7]
      refine LdO.own H (.tail (.tail (.tail (.tail (.tail (.tail (.tail (.tail (.tail .head))))))))) rfl ?_
      refine LdO.own H (.tail (.tail .head)) rfl ?_
      refine IdxO.at0 rfl hi ?_
      refine StO.own H (.tail (.tail (.tail (.tail .head)))) rfl rfl (Nat.ble_eq_true_of_le (by show i * 1 + 1 ≤ (usedC l.length (oi ord)).toArray.size; rw [List.size_toArray, usedC_length]; omega)) fun w H => ?_
      have he : oi (ord ++ [i]) = oi ord ++ [(i : Int)] := by simp [oi]
      have e : putA (usedC l.length (oi ord)).toArray (i * 1) [.bool true] = (usedC l.length (oi (ord ++ [i]))).toArray := by
        rw [he]; exact usedC_set
      refine LdO.own H (.tail (.tail (.tail (.tail (.tail .head))))) rfl ?_
      refine LdO.own H (.tail (.tail .head)) rfl ?_
      refine AllocO.own H fun bq w H => ?_
      have hsrc2 : Src w 1 (.slice (some ⟨bq, 0, none⟩) 1 1) [[.int .i64 i]] := H.srcOwn .head (by simp) rfl rfl
      have H := St.pull (A := [_, _, _, _, _, _, _, _, _, _, _, _]) H
      refine RunO.apps (m := 1) tabOk rfl rfl rfl rfl rfl rfl rfl H ho hsrc2 (by simp [oneCells, Value.oneCell']) hoil rfl (by omega) fun v5 w x5 ho5 H => ?_
      have ho5 : OwnSl 3 1 v5 ((oi (ord ++ [i])).map intR) x5 := by
        have : (oi (ord ++ [i])).map intR = (oi ord).map intR ++ [[.int .i64 i]] := by simp [intR, oi]
        rw [this]; exact ho5
      have H := St.pull (x := [_, _, _, _, _, _, _, _, _, _, _, _]) H
      refine (OwnSl.lenM ho5).elim fun oa5 q2 => q2.elim fun oc5 q2 => ?_
      rw [oi_length] at q2
      subst q2
      refine StO.own H (.tail (.tail (.tail (.tail (.tail (.tail .head)))))) rfl rfl rfl fun w H => ?_
      have H := H.tail
      have H : St g h2 w ((c9, .cells p'.row.toArray 66 (0, 0)) :: (c8, .cells #[.bool false] 4 (0, 0)) :: (c7, .cells #[.int .i64 i] 3 (0, 0)) :: (c6, .cells p.row.toArray 66 (0, 0)) :: SL B l.length (ord ++ [i]) oa5 oc5 (x5 ++ L)) := by
        unfold SL
        rw [← e]; exact H
      refine LdO.own H (.tail (.tail (.tail (.tail (.tail (.tail (.tail .head))))))) rfl ?_
      refine LdO.owns H .head rfl ?_
      have Hs : St g h2 w (SL B l.length (ord ++ [i]) oa5 oc5 (x5 ++ ([(c9, .cells p'.row.toArray 66 (0, 0)), (c8, .cells #[.bool false] 4 (0, 0)), (c7, .cells #[.int .i64 i] 3 (0, 0)), (c6, .cells p.row.toArray 66 (0, 0))] ++ L))) := St.pull (A := [_, _, _, _]) (x := SL B l.length (ord ++ [i]) oa5 oc5 x5) H
      refine (ih (accM p.m l[i].d.call l[i].d.res).1 (ord ++ [i]) Hs hp' (hs.le hle2) ho5 hpm (by rw [List.length_append]; exact hinv.acc _ _) (by simp only [List.length_append, List.length_cons, List.length_nil]; omega)).mono ?_; intro v w q
      refine q.elim fun h3 q => q.elim fun oa6 q => q.elim fun oc6 q => q.elim fun x6 q => ?_
      have hle3 := q.1; have hv := q.2.1; have ho6 := q.2.2.1; have H := q.2.2.2; clear q
      by_cases hsome : (searchL (ds l) k (accM p.m l[i].d.call l[i].d.res).1 (ord ++ [i])).isSome = true
      · rw [hsome] at hv
        subst hv
        have H := St.pull (A := SL B l.length _ oa6 oc6 x6) (x := [_, _, _, _]) H
        refine StO.own H (.tail .head) rfl rfl rfl fun w H => ?_
        refine (undoNot _ H).mono fun w H => ?_
        refine LdO.own H (.tail .head) rfl ?_
        refine (Option.isSome_iff_exists.1 hsome).elim fun r hsea => ?_
        rw [hsea] at ho6 H ⊢
        exact ⟨h3, oa6, oc6, x6, Hp.le_trans hle2 hle3, rfl, ho6, H.tail.tail.tail.tail⟩
      · have hsea := Option.not_isSome_iff_eq_none.1 hsome
        rw [hsea] at hv ho6 H
        subst hv
        have hcc := ho6.len
        refine hcc.elim fun q1 q => q.elim fun q2 q => ?_
        have hoc6 : ord.length + 1 ≤ oc6 := by
          have h1 := q.1
          have h2 := q.2
          simp only [Value.slice.injEq] at h1
          rw [List.length_map, oi_length] at h2
          simp only [Option.getD_none, List.length_append, List.length_cons, List.length_nil] at h2
          omega
        have H := St.pull (A := SL B l.length (ord ++ [i]) oa6 oc6 x6) (x := [_, _, _, _]) H
        refine StO.own H (.tail .head) rfl rfl rfl fun w H => ?_
        have H : St g h3 w ((c9, .cells p'.row.toArray 66 (0, 0)) :: (c8, .cells #[.bool false] 4 (0, 0)) :: (c7, .cells #[.int .i64 i] 3 (0, 0)) :: (c6, .cells p.row.toArray 66 (0, 0)) :: SL B l.length (ord ++ [i]) oa6 oc6 (x6 ++ L)) := H
        have H : St g h3 w ((c9, .cells p'.row.toArray 66 (0, 0)) :: (c8, .cells #[.bool false] 4 (0, 0)) :: (c7, .cells #[.int .i64 i] 3 (0, 0)) :: (c6, .cells p.row.toArray 66 (0, 0)) :: (B.bs, .cells (usedC l.length (oi (ord ++ [i]))).toArray 4 (0, 0)) :: (B.b10, .cells #[.slice oa6 (ord.length + 1) oc6] 31 (0, 0)) :: SR B l.length (x6 ++ L)) := by
          have hll : ord.length + 1 = (ord ++ [i]).length := by simp
          rw [hll]; exact H
        refine (undo _ _ hi hni hoc6 (by omega) H).mono fun w H => ?_
        refine LdO.own H (.tail .head) rfl ?_
        rw [hsea]
        have ho7 : OwnSl 3 1 (.slice oa6 ord.length oc6) ((oi ord).map intR) x6 := by
          refine OwnSl.pop (r := [.int .i64 i]) ?_ hoil
          have h1 : (oi (ord ++ [i])).map intR = (oi ord).map intR ++ [[.int .i64 i]] := by simp [intR, oi]
          have h2 : (ord ++ [i]).length = ord.length + 1 := by simp
          have ho6 : OwnSl 3 1 (.slice oa6 (ord ++ [i]).length oc6) ((oi (ord ++ [i])).map intR) x6 := ho6
          rw [h1, h2] at ho6; exact ho6
        exact ⟨h3, oa6, oc6, x6, Hp.le_trans hle2 hle3, rfl, ho7, H.tail.tail.tail.tail⟩
  · refine AllocO.own H fun c9 w H => ⟨H.tail, ?_⟩
    refine (acceptsC H hp l[i].d.call hrok hinv (by omega)).mono ?_; intro v w q
    refine q.elim fun h2 q => q.elim fun p' q => ?_
    have hle2 := q.1; have hv := q.2.1; have hp' := q.2.2.1; have hpm := q.2.2.2.1; have H := q.2.2.2.2
    clear q
    subst hv
    refine ⟨(H.less hle2).tail, ?_⟩
    refine StO.own H .head rfl rfl rfl fun w H => ⟨(H.less hle2).tail, ?_⟩
    refine CondT.bool (fun h7 => ?_) (fun h7 => ?_)
    · have h7' : (!(accM p.m l[i].d.call l[i].d.res).2) = true := h7
      have h7 : ¬ (accM p.m l[i].d.call l[i].d.res).2 = true := by simpa using h7'
      refine StO.own H (.tail .head) rfl rfl rfl fun w H => ?_
      refine LdO.own H (.tail .head) rfl ?_
      rw [if_neg h7]
      exact ⟨h2, oa, oc, x, hle2, rfl, ho, H.tail.tail.tail.tail⟩
    · have h7' : (!(accM p.m l[i].d.call l[i].d.res).2) = false := h7
      have h7 : (accM p.m l[i].d.call l[i].d.res).2 = true := by simpa using h7'
      rw [if_pos h7]
      refine LdO.own H (.tail (.tail (.tail (.tail (.tail (.tail (.tail (.tail (.tail .head))))))))) rfl ?_
      refine LdO.own H (.tail (.tail .head)) rfl ?_
      refine IdxO.at0 rfl hi ?_
      refine StO.own H (.tail (.tail (.tail (.tail .head)))) rfl rfl (Nat.ble_eq_true_of_le (by show i * 1 + 1 ≤ (usedC l.length (oi ord)).toArray.size; rw [List.size_toArray, usedC_length]; omega)) fun w H => ?_
      have he : oi (ord ++ [i]) = oi ord ++ [(i : Int)] := by simp [oi]
      have e : putA (usedC l.length (oi ord)).toArray (i * 1) [.bool true] = (usedC l.length (oi (ord ++ [i]))).toArray := by
        rw [he]; exact usedC_set
      refine LdO.own H (.tail (.tail (.tail (.tail (.tail .head))))) rfl ?_
      refine LdO.own H (.tail (.tail .head)) rfl ?_
      refine AllocO.own H fun bq w H => ?_
      have hsrc2 : Src w 1 (.slice (some ⟨bq, 0, none⟩) 1 1) [[.int .i64 i]] := H.srcOwn .head (by simp) rfl rfl
      have H := St.pull (A := [_, _, _, _, _, _, _, _, _, _, _, _]) H
      refine RunO.apps (m := 1) tabOk rfl rfl rfl rfl rfl rfl rfl H ho hsrc2 (by simp [oneCells, Value.oneCell']) hoil rfl (by omega) fun v5 w x5 ho5 H => ?_
      have ho5 : OwnSl 3 1 v5 ((oi (ord ++ [i])).map intR) x5 := by
        have : (oi (ord ++ [i])).map intR = (oi ord).map intR ++ [[.int .i64 i]] := by simp [intR, oi]
        rw [this]; exact ho5
      have H := St.pull (x := [_, _, _, _, _, _, _, _, _, _, _, _]) H
      refine (OwnSl.lenM ho5).elim fun oa5 q2 => q2.elim fun oc5 q2 => ?_
      rw [oi_length] at q2
      subst q2
      refine StO.own H (.tail (.tail (.tail (.tail (.tail (.tail .head)))))) rfl rfl rfl fun w H => ?_
      have H := H.tail
      have H : St g h2 w ((c9, .cells p'.row.toArray 66 (0, 0)) :: (c8, .cells #[.bool false] 4 (0, 0)) :: (c7, .cells #[.int .i64 i] 3 (0, 0)) :: (c6, .cells p.row.toArray 66 (0, 0)) :: SL B l.length (ord ++ [i]) oa5 oc5 (x5 ++ L)) := by
        unfold SL
        rw [← e]; exact H
      refine LdO.own H (.tail (.tail (.tail (.tail (.tail (.tail (.tail .head))))))) rfl ?_
      refine LdO.owns H .head rfl ?_
      have Hs : St g h2 w (SL B l.length (ord ++ [i]) oa5 oc5 (x5 ++ ([(c9, .cells p'.row.toArray 66 (0, 0)), (c8, .cells #[.bool false] 4 (0, 0)), (c7, .cells #[.int .i64 i] 3 (0, 0)), (c6, .cells p.row.toArray 66 (0, 0))] ++ L))) := St.pull (A := [_, _, _, _]) (x := SL B l.length (ord ++ [i]) oa5 oc5 x5) H
      refine (ih (accM p.m l[i].d.call l[i].d.res).1 (ord ++ [i]) Hs hp' (hs.le hle2) ho5 hpm (by rw [List.length_append]; exact hinv.acc _ _) (by simp only [List.length_append, List.length_cons, List.length_nil]; omega)).mono ?_; intro v w q
      refine q.elim fun h3 q => q.elim fun oa6 q => q.elim fun oc6 q => q.elim fun x6 q => ?_
      have hle3 := q.1; have hv := q.2.1; have ho6 := q.2.2.1; have H := q.2.2.2; clear q
      by_cases hsome : (searchL (ds l) k (accM p.m l[i].d.call l[i].d.res).1 (ord ++ [i])).isSome = true
      · rw [hsome] at hv
        subst hv
        have H := St.pull (A := SL B l.length _ oa6 oc6 x6) (x := [_, _, _, _]) H
        refine StO.own H (.tail .head) rfl rfl rfl fun w H => ?_
        refine (undoNot _ H).mono fun w H => ?_
        refine LdO.own H (.tail .head) rfl ?_
        refine (Option.isSome_iff_exists.1 hsome).elim fun r hsea => ?_
        rw [hsea] at ho6 H ⊢
        exact ⟨h3, oa6, oc6, x6, Hp.le_trans hle2 hle3, rfl, ho6, H.tail.tail.tail.tail⟩
      · have hsea := Option.not_isSome_iff_eq_none.1 hsome
        rw [hsea] at hv ho6 H
        subst hv
        have hcc := ho6.len
        refine hcc.elim fun q1 q => q.elim fun q2 q => ?_
        have hoc6 : ord.length + 1 ≤ oc6 := by
          have h1 := q.1
          have h2 := q.2
          simp only [Value.slice.injEq] at h1
          rw [List.length_map, oi_length] at h2
          simp only [Option.getD_none, List.length_append, List.length_cons, List.length_nil] at h2
          omega
        have H := St.pull (A := SL B l.length (ord ++ [i]) oa6 oc6 x6) (x := [_, _, _, _]) H
        refine StO.own H (.tail .head) rfl rfl rfl fun w H => ?_
        have H : St g h3 w ((c9, .cells p'.row.toArray 66 (0, 0)) :: (c8, .cells #[.bool false] 4 (0, 0)) :: (c7, .cells #[.int .i64 i] 3 (0, 0)) :: (c6, .cells p.row.toArray 66 (0, 0)) :: SL B l.length (ord ++ [i]) oa6 oc6 (x6 ++ L)) := H
        have H : St g h3 w ((c9, .cells p'.row.toArray 66 (0, 0)) :: (c8, .cells #[.bool false] 4 (0, 0)) :: (c7, .cells #[.int .i64 i] 3 (0, 0)) :: (c6, .cells p.row.toArray 66 (0, 0)) :: (B.bs, .cells (usedC l.length (oi (ord ++ [i]))).toArray 4 (0, 0)) :: (B.b10, .cells #[.slice oa6 (ord.length + 1) oc6] 31 (0, 0)) :: SR B l.length (x6 ++ L)) := by
          have hll : ord.length + 1 = (ord ++ [i]).length := by simp
          rw [hll]; exact H
        refine (undo _ _ hi hni hoc6 (by omega) H).mono fun w H => ?_
        refine LdO.own H (.tail .head) rfl ?_
        rw [hsea]
        have ho7 : OwnSl 3 1 (.slice oa6 ord.length oc6) ((oi ord).map intR) x6 := by
          refine OwnSl.pop (r := [.int .i64 i]) ?_ hoil
          have h1 : (oi (ord ++ [i])).map intR = (oi ord).map intR ++ [[.int .i64 i]] := by simp [intR, oi]
          have h2 : (ord ++ [i]).length = ord.length + 1 := by simp
          have ho6 : OwnSl 3 1 (.slice oa6 (ord ++ [i]).length oc6) ((oi (ord ++ [i])).map intR) x6 := ho6
          rw [h1, h2] at ho6; exact ho6
        exact ⟨h3, oa6, oc6, x6, Hp.le_trans hle2 hle3, rfl, ho7, H.tail.tail.tail.tail⟩
end Go.Proofs.YtbdoinigeaaclaaGreat
set_option maxRecDepth 20000
namespace Go.Proofs.YtbdoinigeaaclaaGreat
open Go RL PQ
variable {g : World} {h : Hp} {w : World} {L : List (Nat × Obj)}
structure Sea3 where
  i : Nat
  h : Hp
  oa : Option Addr
  oc : Nat
  x : List (Nat × Obj)
theorem check3 (B : SB) (l : List DP) (hl : l.length ≤ 900) : ∀ k, SeaC B l k := by
  intro k
  induction k with
  | zero =>
    intro m ord g h w L oa oc x p H hp hs ho hm hinv hlen
    refine Ret.enter tabOk Tryz.func29 rfl (by rfl) rfl (by rfl) (by kernel_rfl) ?_
    refine AllocO.own H fun c5 w H => ?_
    refine LdO.own H (.tail (.tail .head)) rfl ?_
    refine LdO.own H (.tail (.tail (.tail (.tail (.tail (.tail (.tail .head))))))) rfl ?_
    refine CondT.dec (fun h1 => ?_) (fun h1 => absurd (show (ord.length : Int) = l.length by omega) h1)
    exact ⟨h, oa, oc, x, Hp.le_refl h, rfl, ho, H.tail⟩
  | succ k ih =>
    intro m ord g h w L oa oc x p H hp hs ho hm hinv hlen
    subst hm
    refine Ret.enter tabOk Tryz.func29 rfl (by rfl) rfl (by rfl) (by kernel_rfl) ?_
    refine AllocO.own H fun c5 w H => ?_
    refine LdO.own H (.tail (.tail .head)) rfl ?_
    refine LdO.own H (.tail (.tail (.tail (.tail (.tail (.tail (.tail .head))))))) rfl ?_
    refine CondT.dec (fun h1 => absurd h1 (by omega)) (fun _ => ?_)
    refine LdO.own H (.tail (.tail (.tail (.tail (.tail (.tail (.tail .head))))))) rfl ?_
    refine LoopO.run (σ := Sea3) (fun s => [(1, .pointer (some ⟨B.b10, 0, none⟩)), (2, .pointer (some ⟨B.b3, 0, none⟩)), (3, .pointer (some ⟨B.b9, 0, none⟩)), (4, .pointer (some ⟨B.b12, 0, none⟩)), (5, .pointer (some ⟨c5, 0, none⟩)), (14, .int .i64 l.length), (15, .int .i64 s.i)])
      (fun s w => h.le s.h ∧ St g s.h w ((c5, .cells p.row.toArray 66 (0, 0)) :: SL B l.length ord s.oa s.oc (s.x ++ L)) ∧ OwnSl 3 1 (.slice s.oa ord.length s.oc) ((oi ord).map intR) s.x ∧ s.i ≤ l.length ∧ ∀ j, j < s.i → (if readyL (ds l) ord j = true then if (accM p.m (dat (ds l) j).call (dat (ds l) j).res).2 = true then searchL (ds l) k (accM p.m (dat (ds l) j).call (dat (ds l) j).res).1 (ord ++ [j]) else none else none) = none)
      (fun s => l.length - s.i) ⟨0, h, oa, oc, x⟩ (by exact ⟨rfl, rfl, rfl, rfl, rfl, rfl, rfl, trivial⟩) ⟨Hp.le_refl h, H, ho, Nat.zero_le _, fun j hj => absurd hj (Nat.not_lt_zero j)⟩ ?_
    clear H ho
    rintro ⟨i, h', oa, oc, x⟩ w e ⟨hle, H, ho, hi, hno⟩
    simp only at hle H ho hi hno
    refine CondT.dec (fun hlt => ?_) (fun hge => ?_)
    · have hlt' : i < l.length := by simp only at hlt; omega
      have hdi : dat (ds l) i = l[i].d := dat_ds hlt'
      obtain ⟨f, hf0⟩ : ∃ f : Nat → Option (List Nat), f = fun j => (if readyL (ds l) ord j = true then if (accM p.m (dat (ds l) j).call (dat (ds l) j).res).2 = true then searchL (ds l) k (accM p.m (dat (ds l) j).call (dat (ds l) j).res).1 (ord ++ [j]) else none else none) := ⟨_, rfl⟩
      have hf : f i = (if readyL (ds l) ord i = true then if (accM p.m l[i].d.call l[i].d.res).2 = true then searchL (ds l) k (accM p.m l[i].d.call l[i].d.res).1 (ord ++ [i]) else none else none) := by rw [hf0]; simp only [hdi]
      have hno' : ∀ j, j < i → f j = none := by rw [hf0]; exact hno
      have next : f i = none → ∀ j, j < i + 1 → (if readyL (ds l) ord j = true then if (accM p.m (dat (ds l) j).call (dat (ds l) j).res).2 = true then searchL (ds l) k (accM p.m (dat (ds l) j).call (dat (ds l) j).res).1 (ord ++ [j]) else none else none) = none := fun hn j hj => by
        rcases Nat.lt_or_ge j i with hji | hji
        · exact hno j hji
        · have : j = i := by omega
          subst this
          rw [hf0] at hn; exact hn
      have found : ∀ {r : List Nat}, f i = some r → searchL (ds l) (k + 1) p.m ord = some r := fun hr => by
        rw [searchL_succ, ds_length, ← hf0]; exact range_at hlt' hno' hr
      refine LdO.own H (.tail (.tail (.tail (.tail (.tail .head))))) rfl ?_
      refine (check1 H (hs.le hle) hl hlt' (ord := ord) (.tail (.tail (.tail (.tail (.tail (.tail (.tail .head))))))) (.tail (.tail (.tail (.tail (.tail (.tail .head)))))) (.tail .head)).mono ?_; intro v w q
      have hv := q.1; have H := q.2; clear q; subst hv
      refine CondT.bool (fun h1 => ?_) (fun h1 => ?_)
      · refine LdO.own H (.tail (.tail (.tail .head))) rfl ?_
        refine LdO.owns H .head rfl ?_
        have hni : ord.contains i = false := by
          rw [readyL, Bool.and_eq_true] at h1
          simpa using h1.1
        have Hs : St g h' w (SL B l.length ord oa oc (x ++ ([(c5, .cells p.row.toArray 66 (0, 0))] ++ L))) := St.pull (A := [_]) (x := SL B l.length ord oa oc x) H
        refine (check2 ih hl hlt' hni Hs (hp.le hle) (hs.le hle) ho hinv hlen).mono ?_; intro v w q
        refine q.elim fun h3 q => q.elim fun oa6 q => q.elim fun oc6 q => q.elim fun x6 q => ?_
        have hle3 := q.1; have hv := q.2.1; have ho6 := q.2.2.1; have H := q.2.2.2; clear q
        rw [if_pos h1] at hf
        rw [← hf] at hv ho6 H
        have H := St.pull (A := SL B l.length _ oa6 oc6 x6) (x := [_]) H
        by_cases hsome : (f i).isSome = true
        · rw [hsome] at hv
          subst hv
          refine CondT.mk ?_
          refine (Option.isSome_iff_exists.1 hsome).elim fun r hsea => ?_
          rw [hsea] at ho6 H
          rw [found hsea]
          exact ⟨h3, oa6, oc6, x6, Hp.le_trans hle hle3, rfl, ho6, H.tail⟩
        · have hsea := Option.not_isSome_iff_eq_none.1 hsome
          rw [hsea] at hv ho6 H
          subst hv
          refine CondT.mk ?_
          refine ArO.i64 ?_
          exact ⟨rfl, ⟨i + 1, h3, oa6, oc6, x6⟩, ⟨rfl, rfl, rfl, rfl, rfl, rfl, rfl, trivial⟩, ⟨Hp.le_trans hle hle3, H, ho6, hlt', next hsea⟩, by simp only; omega⟩
      · have h1 : ¬ readyL (ds l) ord i = true := by rw [h1]; decide
        refine CondT.mk ?_
        refine ArO.i64 ?_
        exact ⟨rfl, ⟨i + 1, h', oa, oc, x⟩, ⟨rfl, rfl, rfl, rfl, rfl, rfl, rfl, trivial⟩, ⟨hle, H, ho, hlt', next (by rw [hf, if_neg h1])⟩, by simp only; omega⟩
    · have hie : i = l.length := by simp only at hge; omega
      subst hie
      have hn : searchL (ds l) (k + 1) p.m ord = none := by
        rw [searchL_succ, ds_length]; exact range_none hno
      rw [hn]
      exact ⟨h', oa, oc, x, hle, rfl, ho, H.tail⟩
theorem check (H : St g h w L) (cap : Int) {sv : Value} {l : List DP} (hs : DnS h sv l) (hl : l.length ≤ 900) :
    Ret Tryz.prog 11 [.int .i64 cap, sv] w (SeaPost g h L (checkL cap (ds l))) := by
  refine Ret.enter tabOk Tryz.func11 rfl (by rfl) rfl (by rfl) (by kernel_rfl) ?_
  obtain ⟨a, sc, rfl⟩ := hs.sl.lenM
  refine AllocO.own H fun b3 w H => ?_
  refine (pqNew H cap).mono ?_; intro v w q
  have hv := q.1; have H := q.2; clear q
  by_cases hcb : cap < 1 ∨ 64 < cap
  · rw [if_pos hcb] at hv; subst hv
    refine AllocO.own H fun b7 w H => ?_
    refine StO.own H .head rfl rfl rfl fun w H => ?_
    refine CondT.dec (fun _ => ?_) (fun hh => absurd (show (1 : Int) ≠ 0 by decide) hh)
    exact ⟨h, .slice none 0 0, Hp.le_refl h, Eq.trans (b := .tuple #[.slice none 0 0, .bool false]) rfl (by rw [checkL, if_pos (show capBad cap from hcb)]; rfl), by rw [checkL, if_pos (show capBad cap from hcb)]; exact Sl.nil h 1, H.tail.tail⟩
  rw [if_neg hcb] at hv; subst hv
  refine AllocO.own H fun b6 w H => ?_
  refine StO.own H .head rfl rfl rfl fun w H => ?_
  refine CondT.dec (fun hh => absurd rfl hh) (fun _ => ?_)
  have hc : checkL cap (ds l) = searchL (ds l) l.length (newM cap) [] := by rw [checkL, if_neg (show ¬ capBad cap from hcb), ds_length]; rfl
  refine LdO.own H (.tail .head) rfl ?_
  refine ⟨⟨l.length, l.length, .i64, .i64, rfl, rfl, Nat.le_refl _, by omega, by show 1 * l.length ≤ _; omega, ?_⟩⟩
  refine AllocO.own H fun bs w H => ?_
  have H : St g h w ((bs, .cells (RL.repL l.length [.bool false]).toArray 4 (0, 0)) :: (b6, .cells (newP cap).row.toArray 66 (0, 0)) :: (b3, .cells #[.slice a l.length sc] 28 (0, 0)) :: L) := H
  rw [usedC_nil] at H
  refine AllocO.own H fun b8 w H => ?_
  refine StO.own H .head rfl rfl rfl fun w H => ?_
  refine AllocO.own H fun b9 w H => ?_
  refine StO.own H .head rfl rfl rfl fun w H => ?_
  refine AllocO.own H fun b10 w H => ?_
  refine AllocO.own H fun b11 w H => ?_
  refine AllocO.own H fun b12 w H => ?_
  refine StO.own H .head rfl rfl rfl fun w H => ?_
  refine StO.own H (.tail .head) rfl rfl rfl fun w H => ?_
  refine LdO.own H (.tail .head) rfl ?_
  refine LdO.owns H (.tail (.tail (.tail (.tail (.tail (.tail .head)))))) rfl ?_
  have H := St.pull (A := [_, _, _, _, _, _, _]) (x := [_]) H
  have H := St.pull (A := [_, _, _, _, _]) (x := [_]) H
  have H := St.pull (A := [_, _, _, _, _]) (x := [_]) H
  have H := St.pull (A := [_, _, _, _]) (x := [_]) H
  have H := St.pull (A := [_, _, _, _]) (x := [_]) H
  have H := St.pull (A := [_, _, _, _, _]) (x := [_]) H
  have H := St.pull (A := [_, _, _, _, _, _]) (x := [_]) H
  have Hs : St g h w (SL ⟨b3, b8, b9, b10, b11, b12, bs, a, sc⟩ l.length [] none 0 ([] ++ ((b6, .cells (newP cap).row.toArray 66 (0, 0)) :: L))) := H
  refine (check3 ⟨b3, b8, b9, b10, b11, b12, bs, a, sc⟩ l hl l.length (newM cap) [] Hs (newP_ok h cap) hs (OwnSl.nil _ _) rfl (newInv (by omega) (by omega)) (by simp)).mono ?_; intro v w q
  refine q.elim fun h3 q => q.elim fun oa6 q => q.elim fun oc6 q => q.elim fun x6 q => ?_
  have hle3 := q.1; have hv := q.2.1; have ho6 := q.2.2.1; have H := q.2.2.2; clear q
  subst hv
  refine LdO.own H (.tail .head) rfl ?_
  have H := H.tail.tail.tail.tail.tail.tail.tail
  refine (OwnSl.sealIt ho6 H).elim fun h4 q => ?_
  have hle4 := q.1; have H := q.2.1; have hs4 := q.2.2
  rw [hc]
  exact ⟨h4, .slice oa6 ((searchL (ds l) l.length (newM cap) []).getD []).length oc6, Hp.le_trans hle3 hle4, rfl, hs4, H.tail⟩
end Go.Proofs.YtbdoinigeaaclaaGreat
