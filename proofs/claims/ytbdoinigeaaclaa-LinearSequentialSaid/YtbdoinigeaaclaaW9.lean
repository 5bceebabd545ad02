/- LinearComplete: whatever the history, the order and the capacity, the law's function returns true. Conditions: slices are of a length that memory can hold. -/
import Derived.Test.YtbdoinigeaaclaaW8
set_option linter.all false
namespace Go.Proofs.Ytbdoinigeaaclaa
open Go RL PQ
variable {g : World} {h : Hp} {w : World} {L : List (Nat × Obj)}
theorem lex_at : ∀ {r t : List Nat} {i : Nat} (_ : LexLe r t) (hr : i < r.length) (ht : i < t.length) (_ : ∀ j (hj : j < i), r[j]'(by omega) = t[j]'(by omega)), r[i] ≤ t[i]
  | a :: x, b :: y, 0, hle, _, _, _ => by
    rcases hle with h | h
    · exact Nat.le_of_lt h
    · exact Nat.le_of_eq h.1
  | a :: x, b :: y, i + 1, hle, hr, ht, he => by
    have h0 := he 0 (by omega)
    simp only [List.getElem_cons_zero] at h0
    rcases hle with h | h
    · omega
    · exact lex_at (r := x) (t := y) h.2 (by simpa using hr) (by simpa using ht) (fun j hj => by
        have := he (j + 1) (by omega)
        simpa using this)
set_option maxHeartbeats 1000000 in
set_option maxRecDepth 10000 in
theorem linComplete (H : St g h w L) {sv ov : Value} {l : List DP} {ord : List Int} {cap : Int} (hs : DnS h sv l) (ho : IntS h ov ord)
    (hl : l.length ≤ 9223372036854775807) (hol : ord.length ≤ 9223372036854775807) (hc0 : 0 ≤ cap) (hc1 : cap ≤ 255) :
    Ret Try.prog 5 [sv, ov, .int .u8 cap] w fun v w' => v = .bool true ∧ ∃ h', h.le h' ∧ St g h' w' L := by
  have hdl := ds_length l
  refine Ret.enter tabOk Try.func5 rfl (by rfl) rfl (by rfl) (by kernel_rfl) ?_
  obtain ⟨sa, sc, rfl⟩ := hs.sl.lenM
  obtain ⟨ova, ovc, rfl⟩ := ho.lenM
  refine (head H).mono ?_; intro v w q
  have hv := q.1; have H := q.2; clear q
  subst hv
  refine (great H hs hl).mono ?_; intro v w q
  have hv := q.1; have H := q.2; clear q
  subst hv
  refine CondT.bool (fun hg => ?_) (fun hg => ?_)
  · refine CondT.mk ?_
    refine CondT.mk ?_
    refine CondT.mk ?_
    exact ⟨rfl, h, Hp.le_refl h, H⟩
  have hglen := great_len hg
  rw [hdl] at hglen
  refine (refValid H hs).mono ?_; intro v w q
  have hv := q.1; have H := q.2; clear q
  subst hv
  refine CondT.bool (fun hv => ?_) (fun hv => ?_)
  · refine CondT.mk ?_
    refine CondT.mk ?_
    exact ⟨rfl, h, Hp.le_refl h, H⟩
  have hval : validL (ds l) = true := by simpa using hv
  refine CondT.dec (fun h7 => ?_) (fun h7 => ?_)
  · refine CondT.mk ?_
    exact ⟨rfl, h, Hp.le_refl h, H⟩
  refine CondT.dec (fun h20 => ?_) (fun h20 => ?_)
  · exact ⟨rfl, h, Hp.le_refl h, H⟩
  have hn : 0 ≤ cap.tmod 64 ∧ cap.tmod 64 < 64 := ⟨Int.tmod_nonneg _ hc0, Int.tmod_lt_of_pos _ (by omega)⟩
  refine ArO.i64 ?_
  refine ⟨⟨by omega, ?_⟩⟩
  refine ArO.i64 ?_
  refine (replay H (cap.tmod 64 + 1) hs (by omega) ho hol).mono ?_; intro v w q
  have hv := q.1; have H := q.2; clear q
  subst hv
  refine CondT.bool (fun hrp => ?_) (fun hrp => ?_)
  · exact ⟨rfl, h, Hp.le_refl h, H⟩
  have hrp : replayL (cap.tmod 64 + 1) (ds l) ord = true := by simpa using hrp
  refine (check_complete (valid_fin hval) hrp).elim fun r q => q.elim fun t q => ?_
  have hck := q.1; have hrl := q.2.1; have hot := q.2.2.1; have htl := q.2.2.2.1; have hlex := q.2.2.2.2; clear q
  rw [hdl] at hrl htl
  refine (check H (cap.tmod 64 + 1) hs (by omega)).mono ?_; intro v w q
  refine q.elim fun h2 q => q.elim fun x1 q => ?_
  have hle2 := q.1; have hv1 := q.2.1; have hx1 := q.2.2.1; have H := q.2.2.2; clear q
  rw [hck] at hv1 hx1
  subst hv1
  have hx1 : IntS h2 x1 (oi r) := hx1
  refine (Sl.lenM hx1).elim fun oa q => q.elim fun oc q => ?_
  subst q
  have hrl2 : (oi r).length = l.length := (oi_length r).trans hrl
  have hol2 : ord.length = l.length := by rw [hot]; exact (oi_length t).trans htl
  have ho2 := ho.le hle2
  refine CondT.mk ?_
  refine CondT.dec (fun hne => absurd (by omega) hne) (fun _ => ?_)
  refine CondT.dec (fun hne => absurd (by omega) hne) (fun _ => ?_)
  refine LoopO.run (σ := Nat) (fun i => [(0, .slice sa l.length sc), (1, .slice ova ord.length ovc), (7, .bool true), (9, .slice oa (oi r).length oc), (11, .int .i64 i)])
    (fun i w => St g h2 w L ∧ i ≤ l.length ∧ ∀ j (hj : j < i) (h1 : j < r.length) (h2 : j < t.length), r[j] = t[j]) (fun i => l.length - i) 0 (by exact ⟨rfl, rfl, rfl, rfl, rfl, trivial⟩) ⟨H, Nat.zero_le _, fun j hj => absurd hj (Nat.not_lt_zero j)⟩ ?_
  rintro i w e ⟨H, hi, heq⟩
  refine CondT.dec (fun hlt => ?_) (fun hge => ?_)
  · have hil : i < l.length := by omega
    have hir : i < r.length := by omega
    have hit : i < t.length := by omega
    have hgi : (oi r)[i]'(by omega) = (r[i] : Int) := by simp [oi]
    have hgt : ord[i]'(by omega) = (t[i] : Int) := by simp [hot, oI]
    have hlei : r[i] ≤ t[i] := lex_at hlex hir hit (fun j hj => heq j hj (by omega) (by omega))
    refine (Sl.idxM hx1 (i := i) (by omega)).elim fun bi q => q.elim fun ci q => ?_
    have hidxi := q.1; have hrowi := q.2; clear q
    refine (Sl.idxM ho2 (i := i) (by omega)).elim fun bk q => q.elim fun ck q => ?_
    have hidxk := q.1; have hrowk := q.2; clear q
    rw [hgi] at hrowi
    rw [hgt] at hrowk
    refine DrawO.st H (pl [0, 1, 2, 3, 4, 5, 6, 7, 8] .nil) (by kernel_rfl) fun w H => ?_
    refine hidxi _ _ _ rfl ?_
    refine LdQ.hc hrowi (j := 0) rfl ?_
    refine hidxk _ _ _ rfl ?_
    refine LdQ.hc hrowk (j := 0) rfl ?_
    refine CondT.dec (fun hne => ?_) (fun he => ?_)
    · have hlt2 : (r[i] : Int) < t[i] := by omega
      refine DrawO.st H (pl [0, 1, 2, 3, 4, 5, 6, 7, 8, 9, 10, 11, 12] .nil) (by kernel_rfl) fun w H => ?_
      refine CondT.mk ?_
      refine hidxi _ _ _ rfl ?_
      refine LdQ.hc hrowi (j := 0) rfl ?_
      refine hidxk _ _ _ rfl ?_
      refine LdQ.hc hrowk (j := 0) rfl ?_
      exact ⟨Eq.trans (b := .bool (decide ((r[i] : Int) < t[i]))) rfl (by rw [decide_eq_true hlt2]), h2, hle2, H⟩
    · have he : (r[i] : Int) = t[i] := Decidable.not_not.1 he
      refine ArO.i64 ?_
      refine ⟨rfl, i + 1, ⟨rfl, rfl, rfl, rfl, rfl, trivial⟩, ⟨H, hil, fun j hj h1 h2 => ?_⟩, by omega⟩
      rcases Nat.lt_or_ge j i with hji | hji
      · exact heq j hji h1 h2
      · have : j = i := by omega
        subst this
        omega
  · exact ⟨rfl, h2, hle2, H⟩
end Go.Proofs.Ytbdoinigeaaclaa
