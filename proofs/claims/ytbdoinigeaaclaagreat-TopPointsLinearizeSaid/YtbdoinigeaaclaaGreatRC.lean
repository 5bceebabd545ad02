/- The calls of a run, picked one by one in the order of their points. Conditions: none.
   TopPointsLinearize: whatever the capacity, the threads, the calls and the picks, the law's function returns true. Conditions: slices are of a length that memory can hold.
   The law TopPointsLinearize returns true, whatever the capacity, the threads, the calls and the picks; each argument reads as it did. Conditions: none. -/
import Derived.Test.YtbdoinigeaaclaaGreatC1
import Derived.Test.YtbdoinigeaaclaaGreatRows
import Derived.WalkKit
import Derived.ProofKit
import Derived.OpenShut
import Derived.ChangeOld
import Derived.Below
set_option linter.all false
namespace PQ
structure Srt (l : List Done) (os : List Nat) : Prop where
  len : os.length = l.length
  mem : ∀ i, i ∈ os ↔ i < l.length
  pw : os.Pairwise (PtLt l)
  pos : ∀ j, j < l.length → 0 ≤ (dat l j).point
def lastP (l : List Done) (os : List Nat) (i : Nat) : Int := if i = 0 then -1 else (dat l (os[i - 1]?.getD 0)).point
theorem lastP_succ {l : List Done} {os : List Nat} {i : Nat} (hi : i < os.length) : lastP l os (i + 1) = (dat l os[i]).point := by
  unfold lastP
  rw [if_neg (by omega), Nat.add_sub_cancel, List.getElem?_eq_getElem hi]
  rfl
theorem Srt.le {l : List Done} {os : List Nat} (hs : Srt l os) {i j : Nat} (hj : j < i) (hi : i ≤ os.length) : (dat l (os[j]'(by omega))).point ≤ lastP l os i := by
  obtain ⟨k, rfl⟩ : ∃ k, i = k + 1 := ⟨i - 1, by omega⟩
  rw [lastP_succ (by omega)]
  rcases Nat.lt_or_ge j k with h | h
  · have := List.pairwise_iff_getElem.1 hs.pw j k (by omega) (by omega) h
    unfold PtLt at this
    omega
  · have : j = k := by omega
    subst this
    exact Int.le_refl _
theorem Srt.gt {l : List Done} {os : List Nat} (hs : Srt l os) {i j : Nat} (hij : i ≤ j) (hj : j < os.length) : lastP l os i < (dat l os[j]).point := by
  cases i with
  | zero =>
    have := hs.pos os[j] ((hs.mem _).1 (List.getElem_mem hj))
    show (-1 : Int) < _
    omega
  | succ k =>
    rw [lastP_succ (by omega)]
    exact List.pairwise_iff_getElem.1 hs.pw k j (by omega) hj (by omega)
def LeastAt (l : List Done) (last : Int) (k : Nat) (z : Int) : Prop :=
  (z = -1 ∧ ∀ j, j < k → ¬ last < (dat l j).point) ∨ ∃ m : Nat, z = (m : Int) ∧ m < k ∧ last < (dat l m).point ∧ ∀ j, j < k → last < (dat l j).point → (dat l m).point ≤ (dat l j).point
theorem least_zero (l : List Done) (last : Int) : LeastAt l last 0 (-1) := .inl ⟨rfl, fun j hj => absurd hj (Nat.not_lt_zero j)⟩
theorem least_skip {l : List Done} {last z : Int} {k : Nat} (h : LeastAt l last k z) (hk : ¬ last < (dat l k).point) : LeastAt l last (k + 1) z := by
  rcases h with ⟨h1, h2⟩ | ⟨m, h1, h2, h3, h4⟩
  · refine .inl ⟨h1, fun j hj => ?_⟩
    rcases Nat.lt_or_ge j k with h | h
    · exact h2 j h
    · have : j = k := by omega
      subst this; exact hk
  · refine .inr ⟨m, h1, by omega, h3, fun j hj hp => ?_⟩
    rcases Nat.lt_or_ge j k with h | h
    · exact h4 j h hp
    · have : j = k := by omega
      subst this; exact absurd hp hk
theorem least_first {l : List Done} {last : Int} {k : Nat} (h : LeastAt l last k (-1)) (hk : last < (dat l k).point) : LeastAt l last (k + 1) (k : Int) := by
  rcases h with ⟨_, h2⟩ | ⟨m, h1, _⟩
  · refine .inr ⟨k, rfl, by omega, hk, fun j hj hp => ?_⟩
    rcases Nat.lt_or_ge j k with h | h
    · exact absurd hp (h2 j h)
    · have : j = k := by omega
      subst this; exact Int.le_refl _
  · omega
theorem least_idx {l : List Done} {last z : Int} {k : Nat} (h : LeastAt l last k z) (hz : z ≠ -1) : ∃ m : Nat, z = (m : Int) ∧ m < k := by
  rcases h with ⟨h1, _⟩ | ⟨m, h1, h2, _⟩
  · exact absurd h1 hz
  · exact ⟨m, h1, h2⟩
theorem least_new {l : List Done} {last : Int} {k m : Nat} (h : LeastAt l last k (m : Int)) (hk : last < (dat l k).point) (hlt : (dat l k).point < (dat l m).point) : LeastAt l last (k + 1) (k : Int) := by
  rcases h with ⟨h1, _⟩ | ⟨m', h1, h2, h3, h4⟩
  · omega
  · have e : m = m' := by omega
    subst e
    refine .inr ⟨k, rfl, by omega, hk, fun j hj hp => ?_⟩
    rcases Nat.lt_or_ge j k with h | h
    · have := h4 j h hp; omega
    · have : j = k := by omega
      subst this; exact Int.le_refl _
theorem least_old {l : List Done} {last : Int} {k m : Nat} (h : LeastAt l last k (m : Int)) (hge : ¬ (dat l k).point < (dat l m).point) : LeastAt l last (k + 1) (m : Int) := by
  rcases h with ⟨h1, _⟩ | ⟨m', h1, h2, h3, h4⟩
  · omega
  · have e : m = m' := by omega
    subst e
    refine .inr ⟨m, rfl, by omega, h3, fun j hj hp => ?_⟩
    rcases Nat.lt_or_ge j k with h | h
    · exact h4 j h hp
    · have : j = k := by omega
      subst this; omega
theorem least_end {l : List Done} {os : List Nat} (hs : Srt l os) {i : Nat} (hi : i < os.length) {z : Int} (h : LeastAt l (lastP l os i) l.length z) : z = (os[i] : Int) := by
  have hil := (hs.mem _).1 (List.getElem_mem hi)
  have hgt := hs.gt (Nat.le_refl i) hi
  rcases h with ⟨_, h2⟩ | ⟨m, h1, h2, h3, h4⟩
  · exact absurd hgt (h2 _ hil)
  · obtain ⟨j, hj, e⟩ := List.mem_iff_getElem.1 ((hs.mem m).2 h2)
    have h5 := h4 _ hil hgt
    rw [h1, ← e]
    rcases Nat.lt_or_ge j i with h | h
    · have h6 := hs.le h (by omega)
      rw [e] at h6
      omega
    · rcases Nat.lt_or_ge i j with h6 | h6
      · have h7 := List.pairwise_iff_getElem.1 hs.pw i j hi hj h6
        unfold PtLt at h7
        rw [e] at h7
        omega
      · have : i = j := by omega
        subst this; rfl
end PQ
set_option maxRecDepth 20000
namespace Go.Proofs.YtbdoinigeaaclaaGreat
open Go RL PQ
variable {g : World} {h h' : Hp} {w : World} {L : List (Nat × Obj)}
structure TopS where
  i : Nat
  a : Option Addr
  c : Nat
  x : List (Nat × Obj)
theorem lex_le : ∀ {r t : List Nat} {i : Nat} (_ : LexLe r t) (hr : i < r.length) (ht : i < t.length) (_ : ∀ j (hj : j < i), r[j]'(by omega) = t[j]'(by omega)), r[i] ≤ t[i]
  | a :: x, b :: y, 0, hle, _, _, _ => by
    rcases hle with h | h
    · exact Nat.le_of_lt h
    · exact Nat.le_of_eq h.1
  | a :: x, b :: y, i + 1, hle, hr, ht, he => by
    have h0 := he 0 (by omega)
    simp only [List.getElem_cons_zero] at h0
    rcases hle with h | h
    · omega
    · exact lex_le (r := x) (t := y) h.2 (by simpa using hr) (by simpa using ht) (fun j hj => by
        have := he (j + 1) (by omega)
        simpa using this)
theorem ordT (os : List Nat) (i : Nat) (hi : i < os.length) : (((os.take i).map fun (n : Nat) => (n : Int)).map intR) ++ [intR ((os[i] : Nat) : Int)] = (((os.take (i + 1)).map fun (n : Nat) => (n : Int)).map intR) := by
  rw [List.take_succ_eq_append_getElem hi, List.map_append, List.map_append]; rfl
set_option maxHeartbeats 4000000 in
theorem topPoints (H : St g h w L) {rv pv : Value} {raw : List PQ.Call} {ps : List Nat} {cap thr : Nat} (hc : cap ≤ 255) (ht : thr ≤ 255) (hr : Sl h 5 rv (raw.map callL)) (hp : Sl h 1 pv (ps.map u8R)) (hpb : ∀ i (hi : i < ps.length), ps[i] ≤ 255) :
    Ret Tryz.prog 3 [.int .u8 (cap : Int), .int .u8 (thr : Int), rv, pv] w fun v w' => v = .bool true ∧ ∃ h', h.le h' ∧ St g h' w' L := by
  have hrl : (raw.take 7).length ≤ 7 := by rw [List.length_take]; omega
  obtain ⟨pa, pc, hpv⟩ := hp.lenM
  subst hpv
  obtain ⟨ra, rc, hrv⟩ := hr.lenM
  subst hrv
  have em : (if (7 : Int) < (raw.length : Int) then (7 : Int) else (raw.length : Int)) = ((min raw.length 7 : Nat) : Int) := by split <;> omega
  have et : raw.take (min raw.length 7) = raw.take 7 := by rw [Nat.min_comm, ← List.take_take, List.take_length]
  refine Ret.enter tabOk Tryz.func3 rfl (by rfl) rfl (by rfl) (by kernel_rfl) ?_
  refine (head16 H).mono ?_; intro v w q
  have hv := q.1; have q2 := q.2; clear q
  subst hv
  refine q2.elim fun h0 q => ?_
  have hle0 := q.1; have H := q.2; clear q
  refine CondT.dec (fun h300 => ?_) (fun h300 => ?_)
  · exact ⟨rfl, h0, hle0, H⟩
  have hps : ps.length ≤ 300 := by omega
  refine min2O rfl rfl ?_
  rw [em]
  refine Sl.takeO (n := min raw.length 7) (hr.le hle0) (by rw [List.length_map]; exact Nat.min_le_left _ _) fun v' hr7 => ?_
  rw [← List.map_take, et] at hr7
  refine (lawScripts H hr7 hrl ht).mono ?_; intro v w q
  refine q.elim fun h1 q => q.elim fun l q => ?_
  have hle1 := q.1; have hln := q.2.1; have hcn := q.2.2.1; have hsc := q.2.2.2.1; have H := q.2.2.2.2; clear q
  refine (lawPre (c := cap) hln hcn hrl hps).elim fun hF hE => ?_
  refine (lawCap H hc).mono ?_; intro v2 w q
  have hv := q.1; have H := q.2; clear q
  subst hv
  have hl1 : 1 ≤ l.length := by omega
  have hl2 : l.length ≤ 1000 := by omega
  refine (lawPicks H ((hp.le hle0).le hle1) hsc hl1 hl2 (by omega) hpb).mono ?_; intro v3 w q
  refine q.elim fun h2 q => ?_
  have hle2 := q.1; have hpk := q.2.1; have H := q.2.2; clear q
  refine (ilFinishAll H (hsc.le hle2) hpk hF).mono ?_; intro v4 w q
  refine q.elim fun h3 q => q.elim fun dv q => q.elim fun dps q => ?_
  have hle3 := q.1; have hv := q.2.1; have hdn := q.2.2.1; have hds := q.2.2.2.1; have H := q.2.2.2.2; clear q
  subst hv
  rw [← hds] at hE
  have hle : h.le h3 := Hp.le_trans hle0 (Hp.le_trans hle1 (Hp.le_trans hle2 hle3))
  have h7 : dps.length ≤ 7 := by have h5 := hE.len; rw [ds_length] at h5; exact h5
  refine (Sl.lenM hdn.sl).elim fun da q => q.elim fun dc q => ?_
  subst q
  refine (run_check hE).elim fun r q => q.elim fun os q => ?_
  have hck := q.1; have hrlen := q.2.2.1; have hol := q.2.2.2.1; have hom := q.2.2.2.2.1; have hpw := q.2.2.2.2.2.1; have hlex := q.2.2.2.2.2.2.1; have hrp := q.2.2.2.2.2.2.2; clear q
  have hsrt : Srt (ds dps) os := ⟨hol, hom, hpw, fun j hj => by
    have h5 := hE.pts _ (List.getElem_mem hj)
    rw [dat_get hj]; exact h5.1⟩
  have hdl := ds_length dps
  have hpt : ∀ j (hj : j < dps.length), (dat (ds dps) j).point = dps[j].d.point := fun j hj => by rw [dat_ds hj]
  refine CondT.dec (fun hx => absurd hx (by omega)) (fun _ => ?_)
  refine LoopO.run (σ := TopS) (fun s => [(9, .bool true), (11, .int .i64 ((cap % 6 + 1 : Nat) : Int)), (12, .slice da dps.length dc), (14, .slice s.a s.i s.c), (15, .int .i64 (lastP (ds dps) os s.i)), (16, .int .i64 (s.i : Int))])
    (fun s w => s.i ≤ dps.length ∧ OwnSl 3 1 (.slice s.a s.i s.c) (((os.take s.i).map fun (n : Nat) => (n : Int)).map intR) s.x ∧ St g h3 w (s.x ++ L)) (fun s => dps.length - s.i) ⟨0, none, 0, []⟩ (by exact ⟨rfl, rfl, rfl, rfl, rfl, rfl, trivial⟩) ⟨Nat.zero_le _, OwnSl.nil _ _, H⟩ ?_
  rintro ⟨i, a, c, x⟩ w e ⟨hi, ho, H⟩
  simp only at hi ho H
  refine CondT.dec (fun hlt => ?_) (fun hge => ?_)
  · have hil : i < dps.length := by have h5 : (i : Int) < dps.length := hlt; omega
    have hio : i < os.length := by omega
    refine LoopO.run (σ := Nat × Int) (fun s => [(9, .bool true), (11, .int .i64 ((cap % 6 + 1 : Nat) : Int)), (12, .slice da dps.length dc), (14, .slice a i c), (15, .int .i64 (lastP (ds dps) os i)), (16, .int .i64 (i : Int)), (17, .int .i64 s.2), (18, .int .i64 (s.1 : Int))])
      (fun s w => s.1 ≤ dps.length ∧ LeastAt (ds dps) (lastP (ds dps) os i) s.1 s.2 ∧ St g h3 w (x ++ L)) (fun s => dps.length - s.1) (0, -1) (by exact ⟨rfl, rfl, rfl, rfl, rfl, rfl, rfl, rfl, trivial⟩) ⟨Nat.zero_le _, least_zero _ _, H⟩ ?_
    rintro ⟨k, z⟩ w e ⟨hk, hz, H⟩
    simp only at hk hz H
    refine CondT.dec (fun hlt2 => ?_) (fun hge2 => ?_)
    · have hkl : k < dps.length := by have h5 : (k : Int) < dps.length := hlt2; omega
      have hkl' : k + 1 ≤ dps.length := hkl
      refine (Sl.idxM hdn.sl hkl).elim fun bk q => q.elim fun ok q => ?_
      have hidxk := q.1; have hrowk := q.2; clear q
      have hptk := hpt k hkl
      refine DrawO.st H (pl [0, 1, 2, 3, 4, 5, 6, 7, 8, 9, 10, 11, 12, 13, 14, 15, 16, 17, 18, 19, 20, 21, 22, 23] .nil) (by kernel_rfl) fun w H => ?_
      refine hidxk _ _ _ rfl ?_
      refine LdQ.hc hrowk (j := 11) rfl ?_
      refine CondT.dec (fun hgt => ?_) (fun hle' => ?_)
      · have hgt' : lastP (ds dps) os i < (dat (ds dps) k).point := by rw [hptk]; exact hgt
        refine CondT.dec (fun hz1 => ?_) (fun hz1 => ?_)
        · have hz1' : z = -1 := hz1
          have hz2 : LeastAt (ds dps) (lastP (ds dps) os i) k (-1) := by rw [← hz1']; exact hz
          refine CondT.mk ?_
          refine ArO.i64 ?_ (by omega) (by omega)
          exact ⟨rfl, (k + 1, (k : Int)), ⟨rfl, rfl, rfl, rfl, rfl, rfl, rfl, rfl, trivial⟩, ⟨hkl', least_first hz2 hgt', H⟩, by simp only; omega⟩
        · refine (least_idx hz hz1).elim fun m q => ?_
          have hzm := q.1; have hmk := q.2; clear q
          have hml : m < dps.length := by omega
          have hptm := hpt m hml
          have hz2 : LeastAt (ds dps) (lastP (ds dps) os i) k (m : Int) := by rw [← hzm]; exact hz
          refine (Sl.idxM hdn.sl hml).elim fun bm q => q.elim fun om q => ?_
          have hidxm := q.1; have hrowm := q.2; clear q
          refine hidxk _ _ _ rfl ?_
          refine LdQ.hc hrowk (j := 11) rfl ?_
          refine hidxm _ _ _ hzm ?_
          refine LdQ.hc hrowm (j := 11) rfl ?_
          refine CondT.dec (fun hlt3 => ?_) (fun hge3 => ?_)
          · have h5 : (dat (ds dps) k).point < (dat (ds dps) m).point := by rw [hptk, hptm]; exact hlt3
            refine ArO.i64 ?_ (by omega) (by omega)
            exact ⟨rfl, (k + 1, (k : Int)), ⟨rfl, rfl, rfl, rfl, rfl, rfl, rfl, rfl, trivial⟩, ⟨hkl', least_new hz2 hgt' h5, H⟩, by simp only; omega⟩
          · have h5 : ¬ (dat (ds dps) k).point < (dat (ds dps) m).point := by rw [hptk, hptm]; exact hge3
            have h6 : LeastAt (ds dps) (lastP (ds dps) os i) (k + 1) z := by rw [hzm]; exact least_old hz2 h5
            refine ArO.i64 ?_ (by omega) (by omega)
            exact ⟨rfl, (k + 1, z), ⟨rfl, rfl, rfl, rfl, rfl, rfl, rfl, rfl, trivial⟩, ⟨hkl', h6, H⟩, by simp only; omega⟩
      · have hle2' : ¬ lastP (ds dps) os i < (dat (ds dps) k).point := by rw [hptk]; exact hle'
        refine CondT.mk ?_
        refine ArO.i64 ?_ (by omega) (by omega)
        exact ⟨rfl, (k + 1, z), ⟨rfl, rfl, rfl, rfl, rfl, rfl, rfl, rfl, trivial⟩, ⟨hkl', least_skip hz hle2', H⟩, by simp only; omega⟩
    · have hke : k = dps.length := by have h5 : ¬ (k : Int) < dps.length := hge2; omega
      have hzz : z = (os[i] : Int) := least_end hsrt hio (by rw [hdl, ← hke]; exact hz)
      have hoil : os[i] < dps.length := by rw [← hdl]; exact (hom _).1 (List.getElem_mem hio)
      subst hzz
      refine CondT.dec (fun hx => absurd hx (by show ¬ ((os[i] : Int) = -1); omega)) (fun _ => ?_)
      refine AllocO.own H fun b89 w H => ?_
      have hsrc : Src w 1 (.slice (some ⟨b89, 0, none⟩) 1 1) [intR ((os[i] : Nat) : Int)] := H.srcOwn .head (by simp [intR]) rfl rfl
      have H := St.pull (A := [_]) H
      have hol2 : (((os.take i).map fun (n : Nat) => (n : Int)).map intR).length = i := by simp; omega
      refine RunO.apps (n := i) (m := 1) tabOk rfl rfl rfl rfl rfl rfl rfl H ho hsrc (by simp [oneCells, intR, Value.oneCell']) hol2 rfl (by omega) fun v w x' ho' H => ?_
      have H := (St.pull (x := [_]) H).tail
      rw [ordT os i hio] at ho'
      have hln2 : (((os.take (i + 1)).map fun (n : Nat) => (n : Int)).map intR).length = i + 1 := by simp; omega
      refine (OwnSl.len ho').elim fun a' q => q.elim fun c' q => ?_
      have q := q.1
      rw [hln2] at q
      subst q
      refine (Sl.idxM hdn.sl hoil).elim fun bm q => q.elim fun om q => ?_
      have hidxm := q.1; have hrowm := q.2; clear q
      refine hidxm _ _ _ rfl ?_
      refine LdO.hc (j := 11) H hrowm rfl ?_
      have hlast : lastP (ds dps) os (i + 1) = dps[os[i]].d.point := by rw [lastP_succ hio, hpt _ hoil]
      refine ArO.i64 ?_ (by omega) (by omega)
      refine ⟨rfl, ⟨i + 1, a', c', x'⟩, ⟨rfl, rfl, rfl, rfl, ?_, rfl, trivial⟩, ⟨hil, ho', H⟩, by simp only; omega⟩
      show Value.int .i64 dps[os[i]].d.point = .int .i64 (lastP (ds dps) os (i + 1))
      rw [hlast]
  · have hie : i = dps.length := by have h5 : ¬ (i : Int) < dps.length := hge; omega
    have htk : os.take i = os := List.take_of_length_le (by omega)
    rw [htk] at ho
    refine (OwnSl.sealIt ho H).elim fun h4 q => ?_
    have hle4 := q.1; have H := q.2.1; have hord := q.2.2; clear q
    have hord : IntS h4 (.slice a i c) (oi os) := hord
    refine (check H ((cap % 6 + 1 : Nat) : Int) (hdn.le hle4) (by omega)).mono ?_; intro v w q
    refine q.elim fun h5 q => q.elim fun x1 q => ?_
    have hle5 := q.1; have hv1 := q.2.1; have hx1 := q.2.2.1; have H := q.2.2.2; clear q
    rw [hck] at hv1 hx1
    subst hv1
    have hx1 : IntS h5 x1 (oi r) := hx1
    refine (Sl.lenM hx1).elim fun oa q => q.elim fun oc q => ?_
    subst q
    have hord5 := hord.le hle5
    have hril : (oi r).length = i := by rw [oi_length, hrlen]; omega
    have hoil : (oi os).length = i := by rw [oi_length, hol]; omega
    refine (replay H ((cap % 6 + 1 : Nat) : Int) ((hdn.le hle4).le hle5) (by omega) hord5 (by omega)).mono ?_; intro v w q
    have hv := q.1; have H := q.2; clear q
    rw [show replayL ((cap % 6 + 1 : Nat) : Int) (ds dps) (oi os) = true from hrp] at hv
    subst hv
    refine CondT.mk ?_
    refine CondT.mk ?_
    refine CondT.of (u := false) (by simp; omega) ?_
    have hle35 := Hp.le_trans hle (Hp.le_trans hle4 hle5)
    refine LoopO.run (σ := Nat) (fun k => [(9, .bool true), (14, .slice a i c), (19, .slice oa (oi r).length oc), (21, .int .i64 (k : Int))])
      (fun k w => St g h5 w L ∧ k ≤ i ∧ ∀ j (hj : j < k) (h1 : j < r.length) (h2 : j < os.length), r[j] = os[j]) (fun k => i - k) 0 (by exact ⟨rfl, rfl, rfl, rfl, trivial⟩) ⟨H, Nat.zero_le _, fun j hj => absurd hj (Nat.not_lt_zero j)⟩ ?_
    rintro k w e ⟨H, hk, heq⟩
    refine CondT.dec (fun hlt => ?_) (fun hge => ?_)
    · have hki : k < i := by have h6 : (k : Int) < i := hlt; omega
      have hkr : k < r.length := by omega
      have hko : k < os.length := by omega
      have hgr : (oi r)[k]'(by omega) = (r[k] : Int) := by simp [oi]
      have hgo : (oi os)[k]'(by omega) = (os[k] : Int) := by simp [oi]
      have hlek : r[k] ≤ os[k] := lex_le hlex hkr hko (fun j hj => heq j hj (by omega) (by omega))
      refine (Sl.idxM hx1 (i := k) (by omega)).elim fun b1 q => q.elim fun o1 q => ?_
      have hidx1 := q.1; have hrow1 := q.2; clear q
      refine (Sl.idxM hord5 (i := k) (by omega)).elim fun b2 q => q.elim fun o2 q => ?_
      have hidx2 := q.1; have hrow2 := q.2; clear q
      rw [hgr] at hrow1
      rw [hgo] at hrow2
      refine DrawO.st H (pl [0, 1, 2, 3, 4, 5, 6, 7, 8] .nil) (by kernel_rfl) fun w H => ?_
      refine hidx1 _ _ _ rfl ?_
      refine LdQ.hc hrow1 (j := 0) rfl ?_
      refine hidx2 _ _ _ rfl ?_
      refine LdQ.hc hrow2 (j := 0) rfl ?_
      refine CondT.dec (fun hne => ?_) (fun he => ?_)
      · have hlt2 : (r[k] : Int) < os[k] := by omega
        refine DrawO.st H (pl [0, 1, 2, 3, 4, 5, 6, 7, 8, 9, 10, 11, 12] .nil) (by kernel_rfl) fun w H => ?_
        refine CondT.mk ?_
        refine hidx1 _ _ _ rfl ?_
        refine LdQ.hc hrow1 (j := 0) rfl ?_
        refine hidx2 _ _ _ rfl ?_
        refine LdQ.hc hrow2 (j := 0) rfl ?_
        exact ⟨Eq.trans (b := .bool (decide ((r[k] : Int) < os[k]))) rfl (by rw [decide_eq_true hlt2]), h5, hle35, H⟩
      · have he : (r[k] : Int) = os[k] := Decidable.not_not.1 he
        refine ArO.i64 ?_ (by omega) (by omega)
        refine ⟨rfl, k + 1, ⟨rfl, rfl, rfl, rfl, trivial⟩, ⟨H, hki, fun j hj h1 h2 => ?_⟩, by omega⟩
        rcases Nat.lt_or_ge j k with hjk | hjk
        · exact heq j hjk h1 h2
        · have : j = k := by omega
          subst this
          omega
    · exact ⟨rfl, h5, hle35, H⟩
theorem topPointsZ (H : St g h w L) {rv pv : Value} {raw : List PQ.Call} {ps : List Nat} {cap thr : Int} (c0 : 0 ≤ cap) (c1 : cap ≤ 255) (t0 : 0 ≤ thr) (t1 : thr ≤ 255) (hr : Sl h 5 rv (raw.map callL)) (hp : Sl h 1 pv (ps.map u8R)) (hpb : ∀ i (hi : i < ps.length), ps[i] ≤ 255) :
    Ret Tryz.prog 3 [.int .u8 cap, .int .u8 thr, rv, pv] w fun v w' => v = .bool true ∧ ∃ h', h.le h' ∧ St g h' w' L := by
  obtain ⟨a, rfl⟩ : ∃ a : Nat, cap = (a : Int) := ⟨cap.toNat, by omega⟩
  obtain ⟨b, rfl⟩ : ∃ b : Nat, thr = (b : Int) := ⟨thr.toNat, by omega⟩
  exact topPoints H (by omega) (by omega) hr hp hpb
end Go.Proofs.YtbdoinigeaaclaaGreat
set_option maxRecDepth 20000
namespace Go.Proofs.YtbdoinigeaaclaaGreat
open Go RL PQ Go.ChangeShapes Go.WideShapes Go.ChangeAt Go.RowKit
set_option maxRecDepth 100000 in
theorem topPointsLinearize_lifted (os : Os) (started : os.Started) (H : Type) (enc : TypeId × Value → H) :
    ReturnsInHanded {} Tryz.checked os 3 .any (Rows.topPointsLinearizeSpec.pre6 enc Tryz.prog Tryz.f3 Rows.topPointsLinearizeRow.domain false) (Rows.topPointsLinearizeSpec.post enc Tryz.prog Tryz.f3 false true false false) := by
  refine returnsInHanded_of_change (C := Tryz.checked) own started (by kernel_rfl) Tryz.func3
    (ChangeSpec.witness6 (enc := enc) (C := Tryz.checked) false ⟨#[], #[.int .u8 0, .int .u8 0, .slice none 0 0, .slice none 0 0], []⟩ 8 (by kernel_rfl) (by kernel_rfl) (by kernel_rfl) (by kernel_rfl)) ?_
  intro W base args ds gs before hval0 hW hcnd _
  have hval : ∀ (j : Nat) t v, Tryz.f3.params[j]? = some t → args[j]? = some v → Value.okWide Tryz.prog W .any base t v := hval0
  have hW' := hW
  obtain ⟨p, q, hA0, hV, rfl, hfz, hnd⟩ := hW
  have hA : DataW.TrodAll enc Tryz.prog W 0 (fun _ => true) true Tryz.f3.params.toList args.toList ds p := hA0
  rw [Tryz.params3] at hA hval
  obtain ⟨v0, vs0, d0, ds0, p0, q0, hargs, rfl, rfl, h0, r0⟩ := trodAll_cons hA
  obtain ⟨v1, vs1, d1, ds1, p1, q1, rfl, rfl, rfl, h1, r1⟩ := trodAll_cons r0
  obtain ⟨v2, vs2, d2, ds2, p2, q2, rfl, rfl, rfl, h2, r2⟩ := trodAll_cons r1
  obtain ⟨v3, vs3, d3, ds3, p3, q3, rfl, rfl, rfl, h3, r3⟩ := trodAll_cons r2
  obtain ⟨rfl, rfl, rfl⟩ := trodAll_nil r3
  obtain rfl : args = #[v0, v1, v2, v3] := by cases args; simp_all
  obtain ⟨rfl, rfl⟩ := trodVars_none hV
  have b2 : ∀ x ∈ p2, x.block < W.heap.size := by obtain ⟨m, hm⟩ := h2; exact DataW.trod_lt m _ _ _ hm
  have b3 : ∀ x ∈ p3, x.block < W.heap.size := by obtain ⟨m, hm⟩ := h3; exact DataW.trod_lt m _ _ _ hm
  obtain ⟨a0, rfl, rfl, rfl, w0⟩ := open_int Tryz.underlying5 (hval 0 _ v0 rfl rfl) h0
  have c0 := bounds_u8 w0
  obtain ⟨a1, rfl, rfl, rfl, w1⟩ := open_int Tryz.underlying5 (hval 1 _ v1 rfl rfl) h1
  have c1 := bounds_u8 w1
  obtain ⟨a2, e2, c2⟩ := arg_calls (hval 2 _ v2 rfl rfl) h2
  obtain ⟨a3, e3, c3⟩ := arg_u8s (hval 3 _ v3 rfl rfl) h3
  clear hA0 hval0
  refine ((topPointsZ (St.start W) c0.1 c0.2 c1.1 c1.2 e2 e3 c3).calls Tryz.func3 rfl (by decide +kernel)).mono fun e W' q => ?_
  obtain ⟨v, rfl, rfl, h', hle, HS⟩ := q
  have bel := HS.keeps hle
  exact ⟨_, rfl, _, _, _, [], _, [], hW', trodAll_mk1 (shut_bool Tryz.underlying4 _),
    (trodAll_cons_mk (shut_int Tryz.underlying5 w0) (trodAll_cons_mk (shut_int Tryz.underlying5 w1) (trodAll_cons_mk (Below.trod laidOut (by kernel_rfl) (of_decide_eq_true (by kernel_rfl)) h2 bel b2) (trodAll_cons_mk (Below.trod laidOut (by kernel_rfl) (of_decide_eq_true (by kernel_rfl)) h3 bel b3) trodAll_mk0)))),
    rfl, bel.frame _, fun h => by cases h⟩
/-- The statement. -/
theorem topPointsLinearize_holds : Rows.TopPointsLinearizeSaid :=
  OpenClaim.holds_of_wide 3 Tryz.f3 rfl rfl rfl rfl rfl rfl rfl ⟨rfl, rfl, rfl, rfl, rfl⟩ rfl rfl rfl rfl rfl (by kernel_rfl) Tryz.func3 (by kernel_rfl)
    (of_decide_eq_true (by kernel_rfl)) (by unfold Func.isWrapper; rw [if_neg (of_decide_eq_false (by kernel_rfl))]; exact ⟨rfl, rfl⟩)
    (fun os started H enc _ => topPointsLinearize_lifted os started H enc)
#print axioms topPointsLinearize_holds
end Go.Proofs.YtbdoinigeaaclaaGreat
