/- LinearMatchesReference: whatever the history, the order and the capacity, the law's function returns true. Conditions: slices are of a length that memory can hold. -/
import Derived.Test.YtbdoinigeaaclaaW6
set_option linter.all false
namespace Go.Proofs.Ytbdoinigeaaclaa
open Go RL PQ
variable {g : World} {h : Hp} {w : World} {L : List (Nat × Obj)}
theorem great_len {l : List Done} (h : greatL l = false) : l.length ≤ 12 ∧ ∀ d ∈ l, d.res.evs.length ≤ 20 := by
  rw [greatL, Bool.or_eq_false_iff, decide_eq_false_iff_not, List.any_eq_false] at h
  refine ⟨by omega, fun d hd => ?_⟩
  have := h.2 d hd
  simp only [decide_eq_true_eq] at this
  omega
set_option maxHeartbeats 1000000 in
set_option maxRecDepth 10000 in
theorem linMatches (H : St g h w L) {sv ov : Value} {l : List DP} {ord : List Int} {cap : Int} {a b : DP} (hs : DnS h sv l) (ho : IntS h ov ord)
    (hl : l.length ≤ 9223372036854775807) (hol : ord.length ≤ 9223372036854775807) (hc0 : 0 ≤ cap) (hc1 : cap ≤ 255) :
    Ret Try.prog 3 [sv, ov, .int .u8 cap, a.val, b.val] w fun v w' => v = .bool true ∧ ∃ h', h.le h' ∧ St g h' w' L := by
  have hdl := ds_length l
  refine Ret.enter tabOk Try.func3 rfl (by rfl) rfl (by rfl) (by kernel_rfl) ?_
  obtain ⟨sa, sc, rfl⟩ := hs.sl.lenM
  obtain ⟨oa, oc, rfl⟩ := ho.lenM
  refine AllocO.own H fun b8 w H => ?_
  refine AllocO.own H fun b9 w H => ?_
  have H : St g h w ((b9, .cells b.row.toArray 31 (0, 0)) :: (b8, .cells a.row.toArray 31 (0, 0)) :: L) := H
  refine (head H).mono ?_; intro v w q
  have hv := q.1; have H := q.2; clear q
  subst hv
  refine DrawO.st H (pl [0, 1001, 2, 3, 4, 5, 6, 7, 8, 10, 1009, 1011, 12, 13, 14, 15, 16, 18, 19, 1017, 1020, 21, 22] .nil) (by kernel_rfl) fun w H => ?_
  refine (great H hs hl).mono ?_; intro v w q
  have hv := q.1; have H := q.2; clear q
  subst hv
  refine ⟨H, ?_⟩
  refine CondT.bool (fun hg => ?_) (fun hg => ?_)
  · refine CondT.mk ?_
    refine CondT.mk ?_
    refine CondT.mk ?_
    refine CondT.mk ?_
    refine (great H hs hl).mono ?_; intro v w q
    have hv := q.1; have H := q.2; clear q
    rw [hg] at hv
    subst hv
    refine CondT.mk ?_
    exact ⟨rfl, h, Hp.le_refl h, H.tail.tail⟩
  have hglen := great_len hg
  rw [hdl] at hglen
  have hev : ∀ p ∈ l, p.d.res.evs.length ≤ 1000 := fun p hp => Nat.le_trans (hglen.2 p.d (List.mem_map_of_mem hp)) (by omega)
  refine CondT.dec (fun ho20 => ?_) (fun ho20 => ?_)
  · refine CondT.mk ?_
    refine CondT.mk ?_
    refine CondT.mk ?_
    refine (great H hs hl).mono ?_; intro v w q
    have hv := q.1; have H := q.2; clear q
    rw [hg] at hv
    subst hv
    exact ⟨Eq.trans (b := .bool (decide (20 < (ord.length : Int)))) rfl (by rw [decide_eq_true (by omega)]), h, Hp.le_refl h, H.tail.tail⟩
  refine (valid H hs).mono ?_; intro v w q
  have hv := q.1; have H := q.2; clear q
  subst hv
  refine ⟨H, ?_⟩
  refine (refValid H hs).mono ?_; intro v w q
  have hv := q.1; have H := q.2; clear q
  subst hv
  refine ⟨H, ?_⟩
  refine CondT.of (u := false) (by simp) ?_
  refine LdQ.owns (.tail .head) rfl ?_
  refine LdQ.owns .head rfl ?_
  refine LdQ.owns (.tail .head) rfl ?_
  refine LdQ.owns .head rfl ?_
  refine (precedes H a b).mono ?_; intro v w q
  have hv := q.1; have H := q.2; clear q
  subst hv
  refine ⟨H, ?_⟩
  refine (refPrecedes H a b).mono ?_; intro v w q
  have hv := q.1; have H := q.2; clear q
  subst hv
  refine ⟨H, ?_⟩
  refine CondT.of (u := false) (by simp) ?_
  refine (refValid H hs).mono ?_; intro v w q
  have hv := q.1; have H := q.2; clear q
  subst hv
  refine CondT.bool (fun hv => ?_) (fun hv => ?_)
  · refine CondT.mk ?_
    exact ⟨rfl, h, Hp.le_refl h, H.tail.tail⟩
  refine CondT.dec (fun h7 => ?_) (fun h7 => ?_)
  · exact ⟨rfl, h, Hp.le_refl h, H.tail.tail⟩
  refine ArO.i64 ?_
  refine ⟨⟨by omega, ?_⟩⟩
  refine (check H (cap.tmod 66) hs (by omega)).mono ?_; intro v w q
  refine q.elim fun h2 q => q.elim fun x1 q => ?_
  have hle2 := q.1; have hv1 := q.2.1; have hx1 := q.2.2.1; have H := q.2.2.2; clear q
  subst hv1
  refine (refCheck H (cap.tmod 66) (hs.le hle2) (by omega) hev).mono ?_; intro v w q
  refine q.elim fun h3 q => q.elim fun x2 q => ?_
  have hle3 := q.1; have hv2 := q.2.1; have hx2 := q.2.2.1; have H := q.2.2.2; clear q
  subst hv2
  have hsame : (oi ((checkL (cap.tmod 66) (ds l)).getD [])).length ≤ 9223372036854775807 := by
    rw [oi_length]
    cases hc : checkL (cap.tmod 66) (ds l) with
    | none => exact Nat.zero_le _
    | some r =>
      have := (check_sound hc).1
      show r.length ≤ _
      omega
  refine CondT.mk ?_
  refine (refSame H (hx1.le hle3) hx2 hsame).mono ?_; intro v w q
  have hv := q.1; have H := q.2; clear q
  rw [decide_eq_true rfl] at hv
  subst hv
  refine CondT.mk ?_
  refine CondT.of (u := true) (by simp) ?_
  have hs3 := hs.le (Hp.le_trans hle2 hle3)
  have ho3 : IntS h3 _ ord := ho.le (Hp.le_trans hle2 hle3)
  refine (replay H (cap.tmod 66) hs3 (by omega) ho3 hol).mono ?_; intro v w q
  have hv := q.1; have H := q.2; clear q
  subst hv
  refine (refReplay H (cap.tmod 66) hs3 (by omega) hev ho3 hol).mono ?_; intro v w q
  have hv := q.1; have H := q.2; clear q
  subst hv
  exact ⟨Eq.trans (b := .bool (replayL (cap.tmod 66) (ds l) ord == replayL (cap.tmod 66) (ds l) ord)) rfl (by simp), h3, Hp.le_trans hle2 hle3, H.tail.tail⟩
end Go.Proofs.Ytbdoinigeaaclaa
