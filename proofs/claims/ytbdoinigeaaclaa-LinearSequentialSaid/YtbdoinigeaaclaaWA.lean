/- LinearSequential: whatever the calls, the results and the capacity, the law's function returns true. Conditions: slices are of a length that memory can hold. -/
import Derived.Test.YtbdoinigeaaclaaW9
set_option linter.all false
namespace Go.Proofs.Ytbdoinigeaaclaa
open Go RL PQ
variable {g : World} {h : Hp} {w : World} {L : List (Nat × Obj)}
theorem min3O {P : Program} {d : Option Tmp} {x y z : Operand} {ts : Array TypeId} {ty : TypeId} {pos : String} {af : Array Edge} {gd : Option (Nat × Bool)} {e : Env} {a b c : Int}
    (hx : ev e x = .int .i64 a) (hy : ev e y = .int .i64 b) (hz : ev e z = .int .i64 c) {K : Value → Prop}
    (k : K (.int .i64 (if c < (if b < a then b else a) then c else (if b < a then b else a)))) : PurO P ⟨d, .call ⟨.builtin .min, #[x, y, z], ts⟩, ty, pos, af, gd⟩ e K := by
  refine ⟨⟨_, fun w => ?_, k⟩⟩
  simp [execOp, resolve, invoke, Go.builtin, Builtin.min_, Builtin.min2, hx, hy, hz]
theorem min3_nat (a b : Nat) : ∃ n : Nat, (if (7 : Int) < (if (b : Int) < a then (b : Int) else a) then (7 : Int) else (if (b : Int) < a then (b : Int) else a)) = (n : Int) ∧ n ≤ a ∧ n ≤ b ∧ n ≤ 7 := by
  by_cases h1 : (b : Int) < a
  · rw [if_pos h1]
    by_cases h2 : (7 : Int) < b
    · rw [if_pos h2]; exact ⟨7, rfl, by omega, by omega, by omega⟩
    · rw [if_neg h2]; exact ⟨b, rfl, by omega, by omega, by omega⟩
  · rw [if_neg h1]
    by_cases h2 : (7 : Int) < a
    · rw [if_pos h2]; exact ⟨7, rfl, by omega, by omega, by omega⟩
    · rw [if_neg h2]; exact ⟨a, rfl, by omega, by omega, by omega⟩
/-- The completed call at a place of a sequential history. -/
def seqDP (calls : List PQ.Call) (ress : List RP) (j : Nat) : DP :=
  ⟨⟨(j : Int).tmod 2, calls[j]?.getD default, (ress[j]?.getD default).r, 10 * (j : Int), 0, 10 * (j : Int) + 5⟩, (ress[j]?.getD default).ea, (ress[j]?.getD default).ec⟩
def seqDPs (calls : List PQ.Call) (ress : List RP) (n : Nat) : List DP := (List.range n).map (seqDP calls ress)
theorem seqDPs_length (calls : List PQ.Call) (ress : List RP) (n : Nat) : (seqDPs calls ress n).length = n := by simp [seqDPs]
theorem seqDPs_succ (calls : List PQ.Call) (ress : List RP) (n : Nat) : seqDPs calls ress (n + 1) = seqDPs calls ress n ++ [seqDP calls ress n] := by simp [seqDPs, List.range_succ]
theorem seqDPs_at {calls : List PQ.Call} {ress : List RP} {n i : Nat} (hi : i < n) : dat (ds (seqDPs calls ress n)) i = (seqDP calls ress i).d := by
  simp [dat, ds, seqDPs, hi]
theorem seqd_seq (calls : List PQ.Call) (ress : List RP) (n : Nat) : Seqd (ds (seqDPs calls ress n)) := by
  intro i j hi hj
  rw [ds_length, seqDPs_length] at hi hj
  rw [seqDPs_at hi, seqDPs_at hj]
  show decide (10 * (i : Int) + 5 < 10 * (j : Int)) = true ↔ i < j
  rw [decide_eq_true_eq]
  omega
def foldM (m : Mod) (l : List Done) : Mod := l.foldl (fun m x => (accM m x.call x.res).1) m
theorem foldM_snoc (m : Mod) (l : List Done) (x : Done) : foldM m (l ++ [x]) = (accM (foldM m l) x.call x.res).1 := by simp [foldM]
theorem fitsL_snoc : ∀ (m : Mod) (l : List Done) (x : Done), fitsL m (l ++ [x]) = (fitsL m l && (accM (foldM m l) x.call x.res).2)
  | m, [], x => by simp [fitsL, foldM]
  | m, y :: l, x => by
    have ih := fitsL_snoc (accM m y.call y.res).1 l x
    show ((accM m y.call y.res).2 && fitsL (accM m y.call y.res).1 (l ++ [x])) = (((accM m y.call y.res).2 && fitsL (accM m y.call y.res).1 l) && _)
    rw [ih, Bool.and_assoc]
    rfl
structure SeqS where
  i : Nat
  p : MP
  h : Hp
  la : Option Addr
  lc : Nat
  x : List (Nat × Obj)
  f : Bool
set_option maxHeartbeats 2000000 in
set_option maxRecDepth 10000 in
theorem linSequential (H : St g h w L) {cv rv : Value} {calls : List PQ.Call} {ress : List RP} {cap : Int} (hc : Sl h 5 cv (calls.map callL)) (hr : Sl h 4 rv (ress.map RP.row)) (hrok : ∀ r ∈ ress, r.ok h)
    (hc0 : 0 ≤ cap) (hc1 : cap ≤ 255) :
    Ret Try.prog 6 [cv, rv, .int .u8 cap] w fun v w' => v = .bool true ∧ ∃ h', h.le h' ∧ St g h' w' L := by
  refine Ret.enter tabOk Try.func6 rfl (by rfl) rfl (by rfl) (by kernel_rfl) ?_
  obtain ⟨ca, cc, rfl⟩ := hc.lenM
  obtain ⟨ra, rc, rfl⟩ := hr.lenM
  refine (head H).mono ?_; intro v w q
  have hv := q.1; have H := q.2; clear q
  subst hv
  refine min3O rfl rfl rfl ?_
  obtain ⟨n, hn, hn1, hn2, hn7⟩ := min3_nat calls.length ress.length
  rw [hn]
  have hcap : 0 ≤ cap.tmod 6 ∧ cap.tmod 6 < 6 := ⟨Int.tmod_nonneg _ hc0, Int.tmod_lt_of_pos _ (by omega)⟩
  refine ArO.i64 ?_
  refine ⟨⟨by omega, ?_⟩⟩
  refine ArO.i64 ?_
  refine (refNew H (cap.tmod 6 + 1)).mono ?_; intro v w q
  have hv := q.1; have H := q.2; clear q
  rw [if_neg (by omega)] at hv
  subst hv
  refine AllocO.own H fun b11 w H => ?_
  refine StO.own H .head rfl rfl rfl fun w H => ?_
  refine LoopO.run (σ := SeqS) (fun s => [(0, .slice ca calls.length cc), (1, .slice ra ress.length rc), (7, .bool true), (8, .int .i64 n), (9, .int .i64 (cap.tmod 6 + 1)), (10, .slice s.la s.i s.lc), (11, .pointer (some ⟨b11, 0, none⟩)), (13, .bool s.f), (14, .int .i64 s.i)])
    (fun s w => h.le s.h ∧ St g s.h w ((b11, .cells s.p.row.toArray 46 (0, 0)) :: (s.x ++ L)) ∧ OwnSl 31 13 (.slice s.la s.i s.lc) ((seqDPs calls ress s.i).map DP.row) s.x ∧ s.i ≤ n ∧ s.p.ok s.h ∧ s.p.m = foldM (newM (cap.tmod 6 + 1)) (ds (seqDPs calls ress s.i)) ∧
      Inv s.i s.p.m ∧ s.f = fitsL (newM (cap.tmod 6 + 1)) (ds (seqDPs calls ress s.i)))
    (fun s => n - s.i) ⟨0, newP (cap.tmod 6 + 1), h, none, 0, [], true⟩ (by exact ⟨rfl, rfl, rfl, rfl, rfl, rfl, rfl, rfl, rfl, trivial⟩)
    ⟨Hp.le_refl h, H, OwnSl.nil _ _, Nat.zero_le _, newP_ok _ _, rfl, newInv (by omega) (by omega), rfl⟩ ?_
  rintro ⟨i, p, h', la, lc, x, f⟩ w e ⟨hle, H, ho, hi, hp, hpm, hinv, hf⟩
  simp only at hle H ho hi hp hpm hinv hf
  refine CondT.dec (fun hlt => ?_) (fun hge => ?_)
  · have hin : i < n := by simp only at hlt; omega
    have hic : i < calls.length := by omega
    have hir : i < ress.length := by omega
    refine (Sl.idxM hc hic).elim fun bc q => q.elim fun oc q => ?_
    have hidxc := q.1; have hrowc := q.2.le hle; clear q
    refine (Sl.idxM hr hir).elim fun br q => q.elim fun oR q => ?_
    have hidxr := q.1; have hrowr := q.2.le hle; clear q
    have hro : (ress[i]).ok h' := Sl.le (hrok _ (List.getElem_mem hir)) hle
    refine hidxr _ _ _ rfl ?_
    refine LdO.hc H hrowr (j := 3) rfl ?_
    refine CondT.dec (fun h20 => ?_) (fun h20 => ?_)
    · exact ⟨rfl, h', hle, H.tail.sub (List.sublist_append_right _ _)⟩
    obtain ⟨d, hd⟩ : ∃ d : DP, d = ⟨⟨(i : Int).tmod 2, calls[i], (ress[i]).r, 10 * (i : Int), 0, 10 * (i : Int) + 5⟩, (ress[i]).ea, (ress[i]).ec⟩ := ⟨_, rfl⟩
    have hsd : seqDP calls ress i = d := by rw [hd]; simp [seqDP, hic, hir]
    refine DrawO.st H (pl [0, 1, 2, 3, 4, 5, 6, 7, 8, 9, 10, 11, 12, 13, 14, 15, 1016, 1017] .nil) (by kernel_rfl) fun w H => ?_
    refine ⟨⟨by omega, ?_⟩⟩
    refine hidxc _ _ _ rfl ?_
    refine LdQ.hcs hrowc (j := 0) rfl ?_
    refine hidxr _ _ _ rfl ?_
    refine LdQ.hcs hrowr (j := 0) rfl ?_
    refine ArO.i64 ?_
    refine ArO.i64 ?_
    refine ArO.i64 ?_
    refine AllocO.own H fun b15 w H => ⟨H.tail, ?_⟩
    refine StO.own H .head (by kernel_rfl) (by kernel_rfl) (by kernel_rfl) fun w H => ⟨H.tail, ?_⟩
    have H : St g h' w ((b15, .cells d.row.toArray 31 (0, 0)) :: (b11, .cells p.row.toArray 46 (0, 0)) :: (x ++ L)) := by rw [hd]; exact H
    refine LdO.owns H .head rfl ?_
    refine AllocO.own H fun b9 w H => ?_
    have H : St g h' w ((b9, .cells d.row.toArray 31 (0, 0)) :: (b15, .cells d.row.toArray 31 (0, 0)) :: (b11, .cells p.row.toArray 46 (0, 0)) :: (x ++ L)) := H
    have hsrc : Src w 13 (.slice (some ⟨b9, 0, none⟩) 1 1) [d.row] := H.srcOwn .head (by simp [DP.row]) rfl rfl
    have H := St.pull (A := [_, _, _]) H
    refine RunO.apps (n := i) (m := 1) tabOk rfl rfl rfl rfl rfl rfl rfl H ho hsrc (by simp [oneCells, DP.row, DP.ev, Value.oneCell']) (by rw [List.length_map, seqDPs_length]) rfl (by omega) fun v w x' ho' H => ?_
    have H := St.pull (x := [_, _, _]) H
    have ho' : OwnSl 31 13 v ((seqDPs calls ress (i + 1)).map DP.row) x' := by
      rw [seqDPs_succ, List.map_append, hsd]; exact ho'
    refine (OwnSl.lenM ho').elim fun la' q2 => q2.elim fun lc' q2 => ?_
    rw [seqDPs_length] at q2
    subst q2
    have H := H.tail
    refine LdO.owns H (.tail .head) rfl ?_
    refine LdO.owns H .head rfl ?_
    refine LdO.owns H .head rfl ?_
    have hdc : d.d.call = calls[i] := by rw [hd]
    have hdr : d.d.res = (ress[i]).r := by rw [hd]
    have hrv : RP.ok h' ⟨d.d.res, d.ea, d.ec⟩ := by rw [hd]; exact hro
    refine (refAccepts H hp d.d.call hrv hinv (by omega) (by show d.d.res.evs.length ≤ _; rw [hdr]; omega)).mono ?_; intro v w q
    refine q.elim fun h2 q => q.elim fun p' q => ?_
    have hle2 := q.1; have hv := q.2.1; have hp' := q.2.2.1; have hm' := q.2.2.2.1; have H := q.2.2.2.2; clear q
    subst hv
    refine AllocO.own H fun b16 w H => ?_
    refine StO.own H .head (by kernel_rfl) (by kernel_rfl) (by kernel_rfl) fun w H => ?_
    have H : St g h2 w ((b16, .cells p'.row.toArray 46 (0, 0)) :: (b15, .cells d.row.toArray 31 (0, 0)) :: (b11, .cells p.row.toArray 46 (0, 0)) :: (x' ++ L)) := H
    have hdl : ds (seqDPs calls ress (i + 1)) = ds (seqDPs calls ress i) ++ [d.d] := by rw [seqDPs_succ, hsd, ds, List.map_append]; rfl
    have hpm' : p'.m = foldM (newM (cap.tmod 6 + 1)) (ds (seqDPs calls ress (i + 1))) := by rw [hdl, foldM_snoc, ← hpm]; exact hm'
    have hinv' : Inv (i + 1) p'.m := by rw [hm']; exact hinv.acc _ _
    have hf' : fitsL (newM (cap.tmod 6 + 1)) (ds (seqDPs calls ress (i + 1))) = (f && (accM p.m d.d.call d.d.res).2) := by rw [hdl, fitsL_snoc, ← hpm, ← hf]
    refine CondT.bool (fun h1 => ?_) (fun h1 => ?_)
    · have h1 : f = true := h1
      refine LdO.owns H .head rfl ?_
      refine StO.own H (.tail (.tail .head)) (by kernel_rfl) (by kernel_rfl) (by kernel_rfl) fun w H => ?_
      have H : St g h2 w ((b16, .cells p'.row.toArray 46 (0, 0)) :: (b15, .cells d.row.toArray 31 (0, 0)) :: (b11, .cells p'.row.toArray 46 (0, 0)) :: (x' ++ L)) := H
      refine ArO.i64 ?_
      exact ⟨rfl, ⟨i + 1, p', h2, la', lc', x', ((accM p.m d.d.call d.d.res).2)⟩, ⟨rfl, rfl, rfl, rfl, rfl, rfl, rfl, rfl, rfl, trivial⟩, ⟨Hp.le_trans hle hle2, H.tail.tail, ho', hin, hp', hpm', hinv', by simp only; rw [hf', h1]; rfl⟩, by simp only; omega⟩
    · have h1 : f = false := h1
      refine LdO.owns H .head rfl ?_
      refine StO.own H (.tail (.tail .head)) (by kernel_rfl) (by kernel_rfl) (by kernel_rfl) fun w H => ?_
      have H : St g h2 w ((b16, .cells p'.row.toArray 46 (0, 0)) :: (b15, .cells d.row.toArray 31 (0, 0)) :: (b11, .cells p'.row.toArray 46 (0, 0)) :: (x' ++ L)) := H
      refine ArO.i64 ?_
      exact ⟨rfl, ⟨i + 1, p', h2, la', lc', x', (false)⟩, ⟨rfl, rfl, rfl, rfl, rfl, rfl, rfl, rfl, rfl, trivial⟩, ⟨Hp.le_trans hle hle2, H.tail.tail, ho', hin, hp', hpm', hinv', by simp only; rw [hf', h1]; rfl⟩, by simp only; omega⟩
  · have hie : i = n := by simp only at hge; omega
    have HH := H.tail
    subst hie
    refine (OwnSl.sealIt ho HH).elim fun h3 q => ?_
    have hle3 := q.1; have H := q.2.1; have hsl := q.2.2; clear q
    have hdn : DnS h3 (.slice la (seqDPs calls ress i).length lc) (seqDPs calls ress i) := by
      refine ⟨by rw [seqDPs_length]; exact hsl, fun d hd => ?_⟩
      obtain ⟨j, hj, rfl⟩ := List.mem_map.1 hd
      have hj := List.mem_range.1 hj
      have hjr : j < ress.length := by omega
      have : (seqDP calls ress j).ev = (ress[j]).ev ∧ (seqDP calls ress j).d.res.evs = (ress[j]).r.evs := by
        constructor
        · simp [seqDP, DP.ev, RP.ev, hjr]
        · simp [seqDP, hjr]
      rw [this.1, this.2]
      exact Sl.le (Sl.le (hrok _ (List.getElem_mem hjr)) hle) hle3
    have hlen := seqDPs_length calls ress i
    rw [hlen] at hdn
    refine (check H (cap.tmod 6 + 1) hdn (by omega)).mono ?_; intro v w q
    refine q.elim fun h2 q => q.elim fun x1 q => ?_
    have hle2 := q.1; have hv1 := q.2.1; have hx1 := q.2.2.1; have H := q.2.2.2; clear q
    have hck := check_seq (cap := cap.tmod 6 + 1) (by rintro (hh | hh) <;> omega) (seqd_seq calls ress i)
    rw [ds_length, hlen] at hck
    have hff : f = fitsL ⟨cap.tmod 6 + 1, [], 0, []⟩ (ds (seqDPs calls ress i)) := hf
    rw [hck, ← hff] at hv1 hx1
    subst hv1
    cases f with
    | false =>
      have hx1 : IntS h2 x1 [] := hx1
      refine (Sl.lenM hx1).elim fun oa q => q.elim fun oc q => ?_
      subst q
      refine CondT.mk ?_
      refine LoopO.run (σ := Nat) (fun k => [(7, .bool true), (8, .int .i64 i), (18, .slice oa 0 oc), (19, .bool false), (20, .int .i64 k)])
        (fun k w => St g h2 w L ∧ k = 0) (fun k => 0) 0 (by exact ⟨rfl, rfl, rfl, rfl, rfl, trivial⟩) ⟨H, rfl⟩ ?_
      rintro k w e ⟨H, hk⟩
      subst hk
      refine CondT.mk ?_
      refine CondT.mk ?_
      refine CondT.mk ?_
      exact ⟨rfl, h2, Hp.le_trans hle (Hp.le_trans hle3 hle2), H⟩
    | true =>
      have hx1 : IntS h2 x1 (oi (List.range i)) := hx1
      have hol : (oi (List.range i)).length = i := by rw [oi_length, List.length_range]
      refine (Sl.lenM hx1).elim fun oa q => q.elim fun oc q => ?_
      subst q
      refine CondT.mk ?_
      refine LoopO.run (σ := Nat) (fun k => [(7, .bool true), (8, .int .i64 i), (18, .slice oa (oi (List.range i)).length oc), (19, .bool true), (20, .int .i64 k)])
        (fun k w => St g h2 w L ∧ k ≤ i) (fun k => i - k) 0 (by exact ⟨rfl, rfl, rfl, rfl, rfl, trivial⟩) ⟨H, Nat.zero_le _⟩ ?_
      rintro k w e ⟨H, hk⟩
      refine CondT.dec (fun hlt2 => ?_) (fun hge2 => ?_)
      · have hki : k < i := by omega
        refine (Sl.idxM hx1 (i := k) (by omega)).elim fun bk q => q.elim fun ok q => ?_
        have hidxk := q.1; have hrowk := q.2; clear q
        rw [show (oi (List.range i))[k]'(by omega) = (k : Int) by simp [oi]] at hrowk
        refine hidxk _ _ _ rfl ?_
        refine LdO.hc H hrowk (j := 0) rfl ?_
        refine CondT.dec (fun hne => absurd rfl hne) (fun _ => ?_)
        refine ArO.i64 ?_
        exact ⟨rfl, k + 1, ⟨rfl, rfl, rfl, rfl, rfl, trivial⟩, ⟨H, hki⟩, by omega⟩
      · refine CondT.mk ?_
        refine CondT.mk ?_
        exact ⟨Eq.trans (b := .bool (decide (((oi (List.range i)).length : Int) = i))) rfl (by rw [decide_eq_true (by rw [hol])]), h2, Hp.le_trans hle (Hp.le_trans hle3 hle2), H⟩
end Go.Proofs.Ytbdoinigeaaclaa
