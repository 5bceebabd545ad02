/- LinearSound: whatever the history and the capacity, the law's function returns true. Conditions: slices are of a length that memory can hold. -/
import Derived.Test.YtbdoinigeaaclaaW7
set_option linter.all false
namespace Go.Proofs.Ytbdoinigeaaclaa
open Go RL PQ
variable {g : World} {h : Hp} {w : World} {L : List (Nat × Obj)}
/-- What an order that replays gives at two of its places. -/
theorem sound_at {cap : Int} {l : List Done} {r : List Nat} (h : replayL cap l (oI r) = true) {i k : Nat} (hk : k < i) (hi : i < r.length) :
    r[i] ≠ r[k] ∧ r[i] < l.length ∧ r[k] < l.length ∧ prec (dat l r[i]) (dat l r[k]) = false := by
  unfold replayL at h
  split at h
  · cases h
  · have ho := repL_obeys h
    have hn := oI_nodup.1 ho.nodup
    have hkl : k < r.length := by omega
    refine ⟨fun e => (List.pairwise_iff_getElem.1 hn) k i hkl hi hk e.symm, ?_, ?_, ?_⟩
    · have := (ho.rng _ (oI_mem.2 (List.getElem_mem hi))).2
      omega
    · have := (ho.rng _ (oI_mem.2 (List.getElem_mem hkl))).2
      omega
    · have := List.pairwise_iff_getElem.1 ho.ord k i (by rw [oI_length]; exact hkl) (by rw [oI_length]; exact hi) hk
      simp only [oI, List.getElem_map, Int.toNat_natCast] at this
      exact this
set_option maxHeartbeats 1000000 in
set_option maxRecDepth 10000 in
theorem linSound (H : St g h w L) {sv : Value} {l : List DP} {cap : Int} (hs : DnS h sv l)
    (hl : l.length ≤ 9223372036854775807) (hc0 : 0 ≤ cap) (hc1 : cap ≤ 255) :
    Ret Try.prog 4 [sv, .int .u8 cap] w fun v w' => v = .bool true ∧ ∃ h', h.le h' ∧ St g h' w' L := by
  have hdl := ds_length l
  refine Ret.enter tabOk Try.func4 rfl (by rfl) rfl (by rfl) (by kernel_rfl) ?_
  obtain ⟨sa, sc, rfl⟩ := hs.sl.lenM
  refine (head H).mono ?_; intro v w q
  have hv := q.1; have H := q.2; clear q
  subst hv
  refine (great H hs hl).mono ?_; intro v w q
  have hv := q.1; have H := q.2; clear q
  subst hv
  refine CondT.bool (fun hg => ?_) (fun hg => ?_)
  · refine CondT.mk ?_
    refine CondT.mk ?_
    exact ⟨rfl, h, Hp.le_refl h, H⟩
  have hglen := great_len hg
  rw [hdl] at hglen
  refine (refValid H hs).mono ?_; intro v w q
  have hv := q.1; have H := q.2; clear q
  subst hv
  refine CondT.bool (fun hv => ?_) (fun hv => ?_)
  · refine CondT.mk ?_
    exact ⟨rfl, h, Hp.le_refl h, H⟩
  refine CondT.dec (fun h7 => ?_) (fun h7 => ?_)
  · exact ⟨rfl, h, Hp.le_refl h, H⟩
  have hn : 0 ≤ cap.tmod 64 ∧ cap.tmod 64 < 64 := ⟨Int.tmod_nonneg _ hc0, Int.tmod_lt_of_pos _ (by omega)⟩
  refine ArO.i64 ?_
  refine ⟨⟨by omega, ?_⟩⟩
  refine ArO.i64 ?_
  refine (check H (cap.tmod 64 + 1) hs (by omega)).mono ?_; intro v w q
  refine q.elim fun h2 q => q.elim fun x1 q => ?_
  have hle2 := q.1; have hv1 := q.2.1; have hx1 := q.2.2.1; have H := q.2.2.2; clear q
  subst hv1
  cases hck : checkL (cap.tmod 64 + 1) (ds l) with
  | none =>
    rw [hck] at hx1
    refine (Sl.lenM hx1).elim fun oa q => q.elim fun oc q => ?_
    subst q
    refine CondT.mk ?_
    refine CondT.mk ?_
    exact ⟨rfl, h2, hle2, H⟩
  | some r =>
    rw [hck] at hx1
    have hx1 : IntS h2 x1 (oi r) := hx1
    have hsd := check_sound hck
    rw [hdl] at hsd
    refine (Sl.lenM hx1).elim fun oa q => q.elim fun oc q => ?_
    subst q
    refine CondT.mk ?_
    refine CondT.dec (fun hne => absurd (by rw [oi_length]; exact congrArg _ hsd.1) hne) (fun _ => ?_)
    have hrl : (oi r).length = l.length := (oi_length r).trans hsd.1
    have hs2 := hs.le hle2
    refine LoopO.run (σ := Nat) (fun i => [(0, .slice sa l.length sc), (5, .bool true), (6, .int .i64 (cap.tmod 64 + 1)), (7, .slice oa (oi r).length oc), (9, .int .i64 i)])
      (fun i w => St g h2 w L ∧ i ≤ l.length) (fun i => l.length - i) 0 (by exact ⟨rfl, rfl, rfl, rfl, rfl, trivial⟩) ⟨H, Nat.zero_le _⟩ ?_
    rintro i w e ⟨H, hi⟩
    refine CondT.dec (fun hlt => ?_) (fun hge => ?_)
    · have hir : i < (oi r).length := by omega
      refine LoopO.run (σ := Nat) (fun k => [(0, .slice sa l.length sc), (5, .bool true), (6, .int .i64 (cap.tmod 64 + 1)), (7, .slice oa (oi r).length oc), (9, .int .i64 i), (10, .int .i64 k)])
        (fun k w => St g h2 w L ∧ k ≤ i) (fun k => i - k) 0 (by exact ⟨rfl, rfl, rfl, rfl, rfl, rfl, trivial⟩) ⟨H, Nat.zero_le _⟩ ?_
      rintro k w e ⟨H, hk⟩
      refine CondT.dec (fun hlt2 => ?_) (fun hge2 => ?_)
      · have hki : k < i := by omega
        have hkr : k < (oi r).length := by omega
        have hir' : i < r.length := by rw [← oi_length r]; exact hir
        have hkr' : k < r.length := by rw [← oi_length r]; exact hkr
        have hat := sound_at hsd.2 hki hir'
        rw [hdl] at hat
        have hgi : (oi r)[i] = (r[i] : Int) := by simp [oi]
        have hgk : (oi r)[k] = (r[k] : Int) := by simp [oi]
        refine (Sl.idxM hx1 hir).elim fun bi q => q.elim fun ci q => ?_
        have hidxi := q.1; have hrowi := q.2; clear q
        refine (Sl.idxM hx1 hkr).elim fun bk q => q.elim fun ck q => ?_
        have hidxk := q.1; have hrowk := q.2; clear q
        rw [hgi] at hrowi
        rw [hgk] at hrowk
        refine (Sl.idxM hs2.sl hat.2.1).elim fun di q => q.elim fun ei q => ?_
        have hidxdi := q.1; have hrowdi := q.2; clear q
        refine (Sl.idxM hs2.sl hat.2.2.1).elim fun dk q => q.elim fun ek q => ?_
        have hidxdk := q.1; have hrowdk := q.2; clear q
        refine DrawO.st H (pl [0, 1, 2, 3, 4, 5, 6, 7, 8, 9, 10, 11, 12, 13, 14, 15, 16, 17, 18, 19, 20, 21, 22, 23, 24, 25, 26, 27, 28, 29, 30, 31, 32, 33, 34, 35, 36, 37, 38, 39, 40, 41, 42, 43, 44, 45, 46, 47, 48, 49, 50, 51, 52, 53, 54, 55, 56, 57, 58, 59] .nil) (by kernel_rfl) fun w H => ?_
        refine hidxi _ _ _ rfl ?_
        refine LdQ.hc hrowi (j := 0) rfl ?_
        refine hidxk _ _ _ rfl ?_
        refine LdQ.hc hrowk (j := 0) rfl ?_
        refine CondT.dec (fun hh => absurd (by omega) hat.1) (fun _ => ?_)
        refine hidxi _ _ _ rfl ?_
        refine LdQ.hc hrowi (j := 0) rfl ?_
        refine CondT.dec (fun hh => absurd hh (by omega)) (fun _ => ?_)
        refine hidxi _ _ _ rfl ?_
        refine LdQ.hc hrowi (j := 0) rfl ?_
        refine CondT.dec (fun hh => absurd hh (by omega)) (fun _ => ?_)
        refine hidxk _ _ _ rfl ?_
        refine LdQ.hc hrowk (j := 0) rfl ?_
        refine CondT.dec (fun hh => absurd hh (by omega)) (fun _ => ?_)
        refine hidxk _ _ _ rfl ?_
        refine LdQ.hc hrowk (j := 0) rfl ?_
        refine CondT.dec (fun hh => absurd hh (by omega)) (fun _ => ?_)
        refine hidxi _ _ _ rfl ?_
        refine LdQ.hc hrowi (j := 0) rfl ?_
        refine hidxdi _ _ _ rfl ?_
        refine LdQ.hc hrowdi (j := 12) rfl ?_
        refine hidxk _ _ _ rfl ?_
        refine LdQ.hc hrowk (j := 0) rfl ?_
        refine hidxdk _ _ _ rfl ?_
        refine LdQ.hc hrowdk (j := 10) rfl ?_
        refine CondT.dec (fun hh => ?_) (fun _ => ?_)
        · have hri := hat.2.1
          have hrk := hat.2.2.1
          have hp : prec l[r[i]].d l[r[k]].d = false := by rw [← dat_ds hri, ← dat_ds hrk]; exact hat.2.2.2
          exact absurd hh (of_decide_eq_false hp)
        · refine ArO.i64 ?_
          exact ⟨rfl, k + 1, ⟨rfl, rfl, rfl, rfl, rfl, rfl, trivial⟩, ⟨H, hki⟩, by omega⟩
      · refine ArO.i64 ?_
        exact ⟨rfl, i + 1, ⟨rfl, rfl, rfl, rfl, rfl, trivial⟩, ⟨H, by omega⟩, by omega⟩
    · refine CondT.mk ?_
      refine (replay H (cap.tmod 64 + 1) hs2 (by omega) hx1 (by omega)).mono ?_; intro v w q
      have hv := q.1; have H := q.2; clear q
      rw [show replayL (cap.tmod 64 + 1) (ds l) (oi r) = true from hsd.2] at hv
      subst hv
      exact ⟨rfl, h2, hle2, H⟩
end Go.Proofs.Ytbdoinigeaaclaa
