/- The iterator over windows of picks. Conditions: the picks are few; the loop's body always goes on.
   Round-robin picks, their fairness, the bound on a run's steps. Conditions: few threads, few picks.
   Whether picks are fair: every window holds every thread. Conditions: few threads, few picks; the picks are fair.
   The law's own first check: a run of two threads. Conditions: none. -/
import Derived.Test.YtbdoinigeaaclaaGreatK21
set_option linter.all false
set_option maxRecDepth 20000
namespace Go.Proofs.YtbdoinigeaaclaaGreat
open Go RL PQ
variable {g : World} {h h' : Hp} {w : World} {L : List (Nat × Obj)}
set_option maxHeartbeats 400000 in
theorem windows1 {l b1 b2 n win : Nat} (hw : win ≤ n) (hn : n ≤ 1000) {sa : Option Addr} {sc : Nat} {rows : List (List Value)} (hsl : Sl h 1 (.slice sa n sc) rows) (hr : rows.length = n) (J : Nat → World → Prop)
    (hy : ∀ i w v, i + win ≤ n → J i w → Sl h 1 v ((rows.take (i + win)).drop i) → YldO Tryz.prog l [v] w fun r w' => r = .bool true ∧ J (i + 1) w')
    (hc1 : ∀ i w, J i w → w.cell? ⟨b1, 0, none⟩ = some (.int .i64 (win : Int))) (hc2 : ∀ i w, J i w → w.cell? ⟨b2, 0, none⟩ = some (.slice sa n sc)) (h0 : J 0 w) :
    Ret Tryz.prog 51 [yieldV l, .pointer (some ⟨b1, 0, none⟩), .pointer (some ⟨b2, 0, none⟩)] w fun _ w' => ∃ i, J i w' := by
  refine ⟨?_⟩
  rw [callFunc_run Tryz.func51 rfl (by kernel_rfl)]
  simp only [retK]
  refine (callsIn_wide (n := 0)).1 (callsIn_of_wp (F := Fence.wide) Tryz.func51 rfl trivial ?_ rfl)
  refine wpIn_seq (Go.wpIn_mono (TCIn_sound tabOk open_wide (n := 22) _ (fun x e ds w' => x = .normal ∧ ds = [] ∧ e 0 = yieldV l ∧ e 1 = .pointer (some ⟨b1, 0, none⟩) ∧ e 2 = .pointer (some ⟨b2, 0, none⟩) ∧ e 4 = .int .i64 0 ∧ w' = w) rfl rfl (ini [yieldV l, .pointer (some ⟨b1, 0, none⟩), .pointer (some ⟨b2, 0, none⟩)]) [] w _ ⟨by simp, ini_env _ _, rfl⟩ ?_) ?_)
  · exact ⟨rfl, rfl, rfl, rfl, rfl, rfl, rfl⟩
  intro x a w1 hx
  cases x with
  | normal =>
    obtain ⟨hz, _, hd, e0, e1, e2, e4, rfl⟩ := hx
    refine wpIn_block (wpIn_loop (fun a w => a.tmps.size = 22 ∧ a.defers = [] ∧ ∃ i, i ≤ n + 1 ∧ envOf a 0 = yieldV l ∧ envOf a 1 = .pointer (some ⟨b1, 0, none⟩) ∧ envOf a 2 = .pointer (some ⟨b2, 0, none⟩) ∧ envOf a 4 = .int .i64 ((i : Nat) : Int) ∧ J i w)
      (fun a _ => match envOf a 4 with | .int _ z => (1001 - z).toNat | _ => 0) ⟨hz, hd, 0, by omega, e0, e1, e2, e4, h0⟩ ?_)
    rintro a w ⟨hz, hd, i, hi, e0, e1, e2, e4, hJ⟩
    have hf : Fr 22 a (envOf a) [] := ⟨hz, rfl, hd⟩
    have hm4 : (match envOf a 4 with | .int _ z => (1001 - z).toNat | _ => 0) = 1001 - i := by rw [e4]; show ((1001 : Int) - (i : Int)).toNat = _; omega
    rw [hm4]
    refine wpIn_seq (Go.wpIn_mono (TCIn_sound tabOk open_wide (n := 22) _ (fun x e ds w' => ds = [] ∧ w' = w ∧ (x = .normal ∧ i + win ≤ n ∧ e 0 = yieldV l ∧ e 1 = .pointer (some ⟨b1, 0, none⟩) ∧ e 2 = .pointer (some ⟨b2, 0, none⟩) ∧ e 4 = .int .i64 ((i : Nat) : Int) ∨ x = .exit 0)) rfl rfl _ [] w _ hf ?_) ?_)
    · clear hf hm4
      generalize envOf a = E at e0 e1 e2 e4
      have hE : upd (upd (upd (upd E 0 (yieldV l)) 1 (.pointer (some ⟨b1, 0, none⟩))) 2 (.pointer (some ⟨b2, 0, none⟩))) 4 (.int .i64 ((i : Nat) : Int)) = E := by
        rw [upd_self E e0, upd_self E e1, upd_self E e2, upd_self E e4]
      rw [← hE]
      refine LdO.cell1 (hc1 _ _ hJ) ?_
      refine ArO.i64 ?_ (by omega) (by omega)
      refine LdO.cell1 (hc2 _ _ hJ) ?_
      refine CondT.dec (fun hle => ?_) (fun hgt => ?_)
      · exact ⟨rfl, rfl, .inl ⟨rfl, by have h5 : (i : Int) + win ≤ n := hle; omega, rfl, rfl, rfl, rfl⟩⟩
      · exact ⟨rfl, rfl, .inr rfl⟩
    · clear hf
      intro x a2 w2 hx
      cases x with
      | normal =>
        obtain ⟨hz2, hd2, rfl, ⟨_, hle, f0, f1, f2, f4⟩ | hx⟩ := hx
        · have hf : Fr 22 a2 (envOf a2) [] := ⟨hz2, rfl, hd2⟩
          refine wpIn_seq (wpIn_block (wpIn_seq (wpIn_region_list ?_)))
          generalize envOf a2 = E at hf f0 f1 f2 f4
          have hE : upd (upd (upd (upd E 0 (yieldV l)) 1 (.pointer (some ⟨b1, 0, none⟩))) 2 (.pointer (some ⟨b2, 0, none⟩))) 4 (.int .i64 ((i : Nat) : Int)) = E := by
            rw [upd_self E f0, upd_self E f1, upd_self E f2, upd_self E f4]
          rw [← hE] at hf
          clear f0 f1 f2 f4 hE
          refine wpListIn_opF tabOk open_wide hf rfl rfl rfl ?_
          intro a3 hf
          refine wpListIn_opF tabOk open_wide hf rfl rfl rfl ?_
          refine LdO.cell1 (hc2 _ _ hJ) ?_
          intro a4 hf
          refine wpListIn_opF tabOk open_wide hf rfl rfl rfl ?_
          intro a5 hf
          refine wpListIn_opF tabOk open_wide hf rfl rfl rfl ?_
          intro a6 hf
          refine wpListIn_opF tabOk open_wide hf rfl rfl rfl ?_
          refine LdO.cell1 (hc1 _ _ hJ) ?_
          intro a7 hf
          refine wpListIn_opF tabOk open_wide hf rfl rfl rfl ?_
          refine ArO.i64 ?_ (by omega) (by omega)
          intro a8 hf
          refine wpListIn_opF tabOk open_wide hf rfl rfl rfl ?_
          refine Sl.midO (i := i) (j := i + win) hsl (by omega) (by omega) fun v' hv' => ?_
          intro a9 hf
          refine wpListIn_yieldF open_wide rfl (l := l) (y := v') hf rfl rfl rfl ?_
          refine (hy i _ _ hle hJ hv').mono ?_
          rintro r w3 ⟨rfl, hJ3⟩
          intro a10 hf
          refine wpListIn_opF tabOk open_wide hf rfl rfl rfl ?_
          intro a11 hf
          refine wpIn_cond_false (by rw [eval_eq, hf.env]; rfl) (wpIn_skip ?_)
          refine Go.wpIn_mono (TCIn_sound tabOk open_wide (n := 22) _ (fun x e ds w' => x = .normal ∧ ds = [] ∧ e 0 = yieldV l ∧ e 1 = .pointer (some ⟨b1, 0, none⟩) ∧ e 2 = .pointer (some ⟨b2, 0, none⟩) ∧ e 4 = .int .i64 (((i + 1 : Nat)) : Int) ∧ w' = w3) rfl rfl _ [] w3 _ hf ?_) ?_
          · refine ArO.i64 ?_ (by omega) (by omega)
            exact ⟨rfl, rfl, rfl, rfl, rfl, rfl, rfl⟩
          · intro x a12 w4 hx
            cases x with
            | normal =>
              obtain ⟨hz2, _, hd2, k0, k1, k2, k4, rfl⟩ := hx
              refine ⟨⟨hz2, hd2, i + 1, by omega, k0, k1, k2, k4, hJ3⟩, ?_⟩
              rw [k4]
              show ((1001 : Int) - ((i + 1 : Nat) : Int)).toNat < _
              omega
            | ret => exact absurd hx.2.1 (by intro h; cases h)
            | exit id => exact absurd hx.2.1 (by intro h; cases h)
            | _ => exact hx.elim
        · cases hx
      | exit id =>
        obtain ⟨hz2, hd2, rfl, ⟨hx, _⟩ | hx⟩ := hx
        · cases hx
        · cases hx
          obtain ⟨v, hv, _⟩ := results_run (P := Tryz.prog) (tab := tab) (fn := Tryz.f51) (a := a2) (w := w2) (K := fun _ => True) tabOk trivial
          exact ⟨hd2, v, hv, v, rfl, i, hJ⟩
      | ret =>
        obtain ⟨_, _, _, ⟨hx, _⟩ | hx⟩ := hx <;> cases hx
      | _ => exact hx.elim
  | ret => exact absurd hx.2.1 (by intro h; cases h)
  | exit id => exact absurd hx.2.1 (by intro h; cases h)
  | _ => exact hx.elim
end Go.Proofs.YtbdoinigeaaclaaGreat
set_option maxRecDepth 20000
namespace Go.Proofs.YtbdoinigeaaclaaGreat
open Go RL PQ
variable {g : World} {h h' : Hp} {w : World} {L : List (Nat × Obj)}
def rrRows (n th i : Nat) : List (List Value) := (List.range n).map fun k => intR (if k < i then ((k % th : Nat) : Int) else 0)
theorem rr_zero (n th bo : Nat) : OwnSl 3 1 (.slice (some ⟨bo, 0, none⟩) n n) (rrRows n th 0) [(bo, .cells (RL.repL n [.int .i64 0]).toArray 3 (0, 0))] := by
  have hrows : rrRows n th 0 = List.replicate n [.int .i64 0] := by
    unfold rrRows
    refine List.ext_getElem (by simp) fun i h1 h2 => ?_
    simp [intR]
  rw [hrows]
  refine ⟨fun r hr => ?_, .inr ⟨bo, _, n, by simp, by simp, ?_, ?_, rfl⟩⟩
  · rw [List.eq_of_mem_replicate hr]; exact ⟨rfl, rfl⟩
  · rw [List.size_toArray, repL_length]; rfl
  · rw [List.length_replicate, repL_flat]
    exact List.take_of_length_le (by rw [List.length_flatten]; simp)
theorem rr_step {n th i : Nat} (hi : i < n) : (rrRows n th i).set i (intR ((i % th : Nat) : Int)) = rrRows n th (i + 1) := by
  unfold rrRows
  refine List.ext_getElem (by simp) fun k h1 h2 => ?_
  rw [List.getElem_set]
  simp only [List.getElem_map, List.getElem_range]
  by_cases hk : i = k
  · subst hk; rw [if_pos rfl, if_pos (by omega)]
  · rw [if_neg hk]
    by_cases h5 : k < i
    · rw [if_pos h5, if_pos (by omega)]
    · rw [if_neg h5, if_neg (by omega)]
theorem rr_end (n th : Nat) : rrRows n th n = ((List.range n).map fun (k : Nat) => ((k % th : Nat) : Int)).map intR := by
  unfold rrRows
  rw [List.map_map]
  refine List.map_congr_left fun k hk => ?_
  rw [List.mem_range] at hk
  show intR _ = intR _
  rw [if_pos hk]
set_option maxHeartbeats 1000000 in
theorem roundRobin (H : St g h w L) {n th : Nat} (hn : n ≤ 1000) (ht : 1 ≤ th) (ht2 : th ≤ 1000) :
    Ret Tryz.prog 16 [.int .i64 0, .int .i64 (th : Int), .int .i64 (n : Int)] w fun v w' => ∃ h', h.le h' ∧ IntS h' v ((List.range n).map fun (k : Nat) => ((k % th : Nat) : Int)) ∧ St g h' w' L := by
  refine Ret.enter tabOk Tryz.func16 rfl (by rfl) rfl (by rfl) (by kernel_rfl) ?_
  refine ⟨⟨n, n, .i64, .i64, rfl, rfl, Nat.le_refl _, by omega, by show 8 * n ≤ _; omega, ?_⟩⟩
  refine AllocO.own H fun bo w H => ?_
  have H : St g h w ((bo, .cells (RL.repL n [.int .i64 0]).toArray 3 (0, 0)) :: L) := H
  refine LoopO.run (σ := Nat × Array Value) (fun s => [(0, .int .i64 0), (1, .int .i64 (th : Int)), (7, .slice (some ⟨bo, 0, none⟩) n n), (12, .int .i64 (n : Int)), (13, .int .i64 (s.1 : Int))])
    (fun s w => s.1 ≤ n ∧ OwnSl 3 1 (.slice (some ⟨bo, 0, none⟩) n n) (rrRows n th s.1) [(bo, .cells s.2 3 (0, 0))] ∧ St g h w ((bo, .cells s.2 3 (0, 0)) :: L)) (fun s => n - s.1) (0, (RL.repL n [.int .i64 0]).toArray) (by exact ⟨rfl, rfl, rfl, rfl, rfl, trivial⟩) ⟨Nat.zero_le _, rr_zero n th bo, H⟩ ?_
  rintro ⟨i, c⟩ w e ⟨hi, ho, H⟩
  simp only at hi ho H
  refine CondT.dec (fun hlt => ?_) (fun hge => ?_)
  · have hin : i < n := by have h5 : (i : Int) < n := hlt; omega
    refine ArO.i64 ?_ (by omega) (by omega)
    refine ⟨⟨by omega, ?_⟩⟩
    have ee : ((0 : Int) + (i : Int)).tmod (th : Int) = ((i % th : Nat) : Int) := by rw [Int.zero_add, Int.tmod_eq_emod_of_nonneg (by omega)]; simp
    rw [ee]
    have hir : i < (rrRows n th i).length := by unfold rrRows; simp; exact hin
    have P1 := OwnSl.part ho hir (j := 0) (vs := [.int .i64 ((i % th : Nat) : Int)]) (by show 0 + 1 ≤ 1; decide) rfl (row := intR ((i % th : Nat) : Int)) (by unfold rrRows; simp [intR])
    rw [rr_step hin] at P1
    refine IdxO.at0 (i := i) rfl hin ?_
    refine StO.ownE H .head rfl rfl P1.1 rfl fun w H => ?_
    refine ArO.i64 ?_ (by omega) (by omega)
    exact ⟨rfl, (i + 1, _), ⟨rfl, rfl, rfl, rfl, rfl, trivial⟩, ⟨hin, P1.2, H⟩, by simp only; omega⟩
  · have hie : i = n := by have h5 : ¬ (i : Int) < n := hge; omega
    rw [hie, rr_end] at ho
    refine (OwnSl.sealIt (L := L) ho H).elim fun h2 q => ?_
    exact ⟨h2, q.1, q.2.2, q.2.1⟩
theorem ilBound (H : St g h w L) {v : Value} {l : List SP} (hs : ScS h v l) {cap win : Nat} (h1 : 1 ≤ cap) (h2 : cap ≤ 64) (h3 : 1 ≤ l.length) (h4 : l.length ≤ 64) (h5 : ∀ p ∈ l, p.cs.length ≤ 16) (hw : win ≤ 1000) :
    Ret Tryz.prog 17 [.int .i64 (cap : Int), v, .int .i64 (win : Int)] w fun v w' => v = .int .i64 ((win : Int) * ((callsN l : Int) + 1) * (3 * (cap : Int) + 12)) ∧ St g h w' L := by
  have hcn := callsN_le16 h5
  have hm1 : win * (callsN l + 1) ≤ 1000 * 1025 := Nat.mul_le_mul hw (by omega)
  have hm2 : win * (callsN l + 1) * (3 * cap + 12) ≤ (1000 * 1025) * 204 := Nat.mul_le_mul hm1 (by omega)
  have e1 : (win : Int) * ((callsN l : Int) + 1) = ((win * (callsN l + 1) : Nat) : Int) := by simp
  have e2 : (win : Int) * ((callsN l : Int) + 1) * (3 * (cap : Int) + 12) = ((win * (callsN l + 1) * (3 * cap + 12) : Nat) : Int) := by simp
  refine Ret.enter tabOk Tryz.func17 rfl (by rfl) rfl (by rfl) (by kernel_rfl) ?_
  refine (ilValid H hs (cap := (cap : Int)) (by omega) (by omega) h3 h4 h5).mono ?_; intro v w q
  have hv := q.1; have H := q.2; clear q
  subst hv
  refine CondT.of (u := false) rfl ?_
  refine (ilCalls H hs (by omega) (by omega)).mono ?_; intro v w q
  have hv := q.1; have H := q.2; clear q
  subst hv
  refine ArO.i64 ?_ (by omega) (by omega)
  refine ArO.i64 ?_ (by rw [e1]; omega) (by rw [e1]; omega)
  refine ArO.i64 ?_ (by omega) (by omega)
  refine ArO.i64 ?_ (by omega) (by omega)
  refine ArO.i64 ?_ (by rw [e2]; omega) (by rw [e2]; omega)
  exact ⟨rfl, H⟩
theorem lwindows (H : St g h w L) (sa : Option Addr) (n sc : Nat) (win : Nat) : Ret Tryz.prog 37 [.slice sa n sc, .int .i64 (win : Int)] w fun r w' => ∃ b1 b2, r = .func (.func 51) #[] #[.pointer (some ⟨b1, 0, none⟩), .pointer (some ⟨b2, 0, none⟩)] ∧ St g h w' ((b1, .cells #[.int .i64 (win : Int)] 3 (0, 0)) :: (b2, .cells #[.slice sa n sc] 31 (0, 0)) :: L) := by
  refine Ret.enter tabOk Tryz.func37 rfl (by rfl) rfl (by rfl) (by kernel_rfl) ?_
  refine AllocO.own H fun b2 w H => ?_
  refine AllocO.own H fun b1 w H => ?_
  exact ⟨b1, b2, rfl, H⟩
end Go.Proofs.YtbdoinigeaaclaaGreat
set_option maxRecDepth 20000
namespace Go.Proofs.YtbdoinigeaaclaaGreat
open Go RL PQ
variable {g : World} {h h' : Hp} {w : World} {L : List (Nat × Obj)}
def fairL (lp bd b1 b2 b6 b4 : Nat) (r : Loop) (win th : Nat) (sa : Option Addr) (n sc : Nat) (L : List (Nat × Obj)) : List (Nat × Obj) :=
  (lp, .loop r) :: (bd, .deferred (some [])) :: (b1, .cells #[.int .i64 (win : Int)] 3 (0, 0)) :: (b2, .cells #[.slice sa n sc] 31 (0, 0)) :: (b6, .cells #[.bool false] 4 (0, 0)) :: (b4, .cells #[.int .i64 (th : Int)] 3 (0, 0)) :: L
set_option maxHeartbeats 2000000 in
theorem fair (H : St g h w L) {pv : Value} {xs : List Int} (hs : IntS h pv xs) {th win : Nat} (hn : xs.length ≤ 1000) (hw : win ≤ xs.length) (ht : th ≤ 1000) (hall : ∀ i, i + win ≤ xs.length → ∀ t, t < th → ((xs.take (i + win)).drop i).contains (t : Int) = true) :
    Ret Tryz.prog 18 [pv, .int .i64 (th : Int), .int .i64 (win : Int)] w fun v w' => v = .bool true ∧ St g h w' L := by
  obtain ⟨sa, sc, rfl⟩ := hs.lenM
  refine Ret.enterM tabOk Tryz.func18 rfl (by rfl) rfl (by rfl) (by kernel_rfl) ?_
  refine AllocO.own H fun b4 w H => ?_
  refine AllocO.own H fun b6 w H => ?_
  have H : St g h w ((b6, .cells #[.bool false] 4 (0, 0)) :: (b4, .cells #[.int .i64 (th : Int)] 3 (0, 0)) :: L) := H
  refine (lwindows H sa xs.length sc win).mono ?_; intro v w q
  refine q.elim fun b1 q => q.elim fun b2 q => ?_
  have hv := q.1; have H := q.2; clear q
  subst hv
  refine RangeO.of tabOk H rfl Tryz.func51 rfl (by kernel_rfl) ?_
  intro lp bd r w1 hst1 hpd hps ha hbd he hsz H
  have H : St g h w1 (fairL lp bd b1 b2 b6 b4 r win th sa xs.length sc L) := H
  have hrec : ({ r with state := .ready, pending := none } : Loop) = r := by
    cases r; simp only at hst1 hpd; subst hst1 hpd; rfl
  refine (windows1 (n := xs.length) hw hn hs (List.length_map ..) (fun _ w => St g h w (fairL lp bd b1 b2 b6 b4 r win th sa xs.length sc L)) (fun i w v hle HJ hvs => ?_) (fun i w HJ => HJ.ocell (.tail (.tail .head)) rfl) (fun i w HJ => HJ.ocell (.tail (.tail (.tail .head))) rfl) H).mono ?_
  · refine hsz.elim fun sz q => ?_
    have hs1 := q.1; have cc1 := q.2.1; have cc2 := q.2.2; clear q
    have h12 : 12 < sz := by simp [codeOk, dstOk] at cc2; omega
    have hl : w.heap[lp]? = some (.loop r) := HJ.own _ (.head _)
    have htm : roundTmps r [v] = r.tmps.setIfInBounds 12 v := by unfold roundTmps; rw [hps]; simp
    have hxs : IntS h v ((xs.take (i + win)).drop i) := by
      show Sl h 1 v (((xs.take (i + win)).drop i).map intR)
      rw [List.map_drop, List.map_take]; exact hvs
    have hxl : ((xs.take (i + win)).drop i).length ≤ 4611686018427387904 := by rw [List.length_drop, List.length_take]; omega
    have hE4 : envOf ⟨r.tmps, []⟩ 4 = .pointer (some ⟨b4, 0, none⟩) := by rw [he]; rfl
    have hee : envOf ⟨roundTmps r [v], []⟩ = upd (envOf ⟨r.tmps, []⟩) 12 v := by
      rw [htm]
      exact envOf_put ⟨r.tmps, []⟩ (some 12) v (fun t ht => by cases ht; show 12 < r.tmps.size; omega)
    refine YldO.ofL tabOk hl hst1 (by rw [hps]; rfl) (n := sz) (by rw [htm, Array.size_setIfInBounds]; exact hs1) hee (by rw [ha]; exact cc1) (by rw [hbd]; exact cc2) (by rw [ha]; rfl) (by rw [hbd]; rfl) ?_
    clear hee he
    generalize envOf ⟨r.tmps, []⟩ = E at hE4
    rw [← upd_self E hE4]
    have hA : ∀ {Q : Post} {ee : Env} {w : World}, Q .normal (upd ee 7 (ee 12)) [] w → TC Tryz.prog tab r.assign Q ee [] w := fun hq => by rw [ha]; exact hq
    refine hA ⟨rfl, hl, ?_⟩
    have H1 : St g h (w.putObj lp (.loop { r with state := .busy })) (fairL lp bd b1 b2 b6 b4 { r with state := .busy } win th sa xs.length sc L) := HJ.setObj .head _
    generalize w.putObj lp (.loop { r with state := .busy }) = w2 at H1
    rw [hbd]
    refine LdO.own H1 (.tail (.tail (.tail (.tail (.tail .head))))) rfl ?_
    refine LoopO.run (σ := Nat) (fun t => [(7, v), (13, .int .i64 (th : Int)), (14, .int .i64 (t : Int))])
      (fun t w => t ≤ th ∧ St g h w (fairL lp bd b1 b2 b6 b4 { r with state := .busy } win th sa xs.length sc L)) (fun t => th - t) 0 (by exact ⟨rfl, rfl, rfl, trivial⟩) ⟨Nat.zero_le _, H1⟩ ?_
    rintro t w e ⟨htt, H⟩
    refine CondT.dec (fun hlt => ?_) (fun hge => ?_)
    · have hlt' : t < th := by have h5 : (t : Int) < th := hlt; omega
      refine (containsI H hxs hxl t).mono ?_; intro vv w q
      have hv := q.1; have H := q.2; clear q
      rw [hall i hle t hlt'] at hv
      subst hv
      refine CondT.mk ?_
      refine ArO.i64 ?_ (by omega) (by omega)
      exact ⟨rfl, t + 1, ⟨rfl, rfl, rfl, trivial⟩, ⟨hlt', H⟩, by omega⟩
    · refine ⟨_, H.own (lp, .loop { r with state := .busy }) (.head _), rfl, ?_⟩
      have H3 : St g h (w.putObj lp (.loop { r with state := .ready, pending := none })) (fairL lp bd b1 b2 b6 b4 { r with state := .ready, pending := none } win th sa xs.length sc L) := H.setObj .head _
      rw [hrec] at H3
      have e9 : w.putObj lp (.loop { ({ r with state := .busy } : Loop) with state := .ready, pending := none }) = w.putObj lp (.loop r) := by rw [← hrec]
      show St g h (w.putObj lp (.loop { ({ r with state := .busy } : Loop) with state := .ready, pending := none })) _
      rw [e9]
      exact H3
  intro v w2 hZ
  refine hZ.elim fun _ H => ?_
  refine ⟨r, _, H.own (lp, .loop r) (.head _), fun hb => (by rw [hst1] at hb; cases hb), rfl, ?_⟩
  have H3 : St g h (w2.putObj lp (.loop { r with state := .exhausted })) (fairL lp bd b1 b2 b6 b4 { r with state := .exhausted } win th sa xs.length sc L) := H.setObj .head _
  generalize w2.putObj lp (.loop { r with state := .exhausted }) = w3 at H3
  rw [hpd]
  refine StO.own H3 (.tail (.tail (.tail (.tail .head)))) rfl rfl rfl fun w H => ?_
  refine ⟨H.own (bd, .deferred (some [])) (.tail _ (.head _)), ?_⟩
  have H4 := H.setObj (.tail .head) (.deferred none)
  have H4 : St g h (w.putObj bd (.deferred none)) ((lp, _) :: (bd, _) :: (b1, _) :: (b2, _) :: (b6, .cells #[.bool true] 4 (0, 0)) :: (b4, _) :: L) := H4
  refine LdO.own H4 (.tail (.tail (.tail (.tail .head)))) rfl ?_
  exact ⟨rfl, H4.tail.tail.tail.tail.tail.tail⟩
end Go.Proofs.YtbdoinigeaaclaaGreat
set_option maxRecDepth 20000
namespace Go.Proofs.YtbdoinigeaaclaaGreat
open Go RL PQ
variable {g : World} {h h' : Hp} {w : World} {L : List (Nat × Obj)}
def hC1 : PQ.Call := ⟨1, 5, 0, 0, 0⟩
def hC2 : PQ.Call := ⟨3, 0, 0, 1, 9⟩
def hSP (b5 b7 : Nat) : List SP := [⟨some ⟨b5, 0, none⟩, 1, [hC1]⟩, ⟨some ⟨b7, 0, none⟩, 1, [hC2]⟩]
theorem h16_fin : (finishM 1 [[hC1], [hC2]] [] 1680).dones.length = 2 ∧ 0 < (finishM 1 [[hC1], [hC2]] [] 1680).picks ∧ (finishM 1 [[hC1], [hC2]] [] 1680).picks ≤ 90 := by decide +kernel
theorem h16_rr : ∀ i, i < 19 → ∀ t, t < 2 → (((((List.range 20).map fun (k : Nat) => ((k % 2 : Nat) : Int)).take (i + 2)).drop i).contains ((t : Nat) : Int)) = true := by decide +kernel
set_option maxHeartbeats 1000000 in
theorem head16 (H : St g h w L) : Ret Tryz.prog 6 [] w fun v w' => v = .bool true ∧ ∃ h', h.le h' ∧ St g h' w' L := by
  have hf1 := h16_fin.1
  have hf2 := h16_fin.2.1
  have hf3 := h16_fin.2.2
  refine Ret.enter tabOk Tryz.func6 rfl (by rfl) rfl (by rfl) (by kernel_rfl) ?_
  refine AllocO.own H fun b5 w H => ?_
  refine AllocO.own H fun b7 w H => ?_
  refine AllocO.own H fun b8 w H => ?_
  have H : St g h w ((b8, .cells #[.slice (some ⟨b5, 0, none⟩) 1 1, .slice (some ⟨b7, 0, none⟩) 1 1] 22 (0, 0)) :: (b7, .cells (callL hC2).toArray 34 (0, 0)) :: (b5, .cells (callL hC1).toArray 34 (0, 0)) :: L) := H
  have ho8 : OwnSl 22 1 (.slice (some ⟨b8, 0, none⟩) 2 2) ((hSP b5 b7).map SP.row) [(b8, .cells #[.slice (some ⟨b5, 0, none⟩) 1 1, .slice (some ⟨b7, 0, none⟩) 1 1] 22 (0, 0))] :=
    ⟨fun r hr => (by simp only [hSP, List.map_cons, List.map_nil, List.mem_cons, List.not_mem_nil, or_false] at hr; rcases hr with rfl | rfl <;> exact ⟨rfl, rfl⟩), .inr ⟨b8, _, 2, rfl, Nat.le_refl _, rfl, rfl, rfl⟩⟩
  have ho7 : OwnSl 34 5 (.slice (some ⟨b7, 0, none⟩) 1 1) ([hC2].map callL) [(b7, .cells (callL hC2).toArray 34 (0, 0))] :=
    ⟨fun r hr => (by simp only [List.map_cons, List.map_nil, List.mem_cons, List.not_mem_nil, or_false] at hr; subst hr; exact ⟨rfl, rfl⟩), .inr ⟨b7, _, 1, rfl, Nat.le_refl _, rfl, rfl, rfl⟩⟩
  have ho5 : OwnSl 34 5 (.slice (some ⟨b5, 0, none⟩) 1 1) ([hC1].map callL) [(b5, .cells (callL hC1).toArray 34 (0, 0))] :=
    ⟨fun r hr => (by simp only [List.map_cons, List.map_nil, List.mem_cons, List.not_mem_nil, or_false] at hr; subst hr; exact ⟨rfl, rfl⟩), .inr ⟨b5, _, 1, rfl, Nat.le_refl _, rfl, rfl, rfl⟩⟩
  refine (OwnSl.sealIt ho8 H).elim fun h1 q => ?_
  have hle1 := q.1; have H := q.2.1; have hs8 := q.2.2; clear q
  refine (OwnSl.sealIt ho7 H).elim fun h2 q => ?_
  have hle2 := q.1; have H := q.2.1; have hs7 := q.2.2; clear q
  refine (OwnSl.sealIt ho5 H).elim fun h3 q => ?_
  have hle3 := q.1; have H := q.2.1; have hs5 := q.2.2; clear q
  have hsc : ScS h3 (.slice (some ⟨b8, 0, none⟩) 2 2) (hSP b5 b7) := ⟨hs8.le (Hp.le_trans hle2 hle3), fun p hp => by
    simp only [hSP, List.mem_cons, List.not_mem_nil, or_false] at hp
    rcases hp with rfl | rfl
    · exact hs5
    · exact hs7.le hle3⟩
  refine (roundRobin H (n := 0) (th := 2) (by decide) (by decide) (by decide)).mono ?_; intro v w q
  refine q.elim fun h4 q => ?_
  have hle4 := q.1; have hpk := q.2.1; have H := q.2.2; clear q
  have hF : FinPre (hSP b5 b7) [] 1 1680 (RI 2 2) := finPre_of (l := hSP b5 b7) (by decide) (by decide) (by show 1 ≤ 2; decide) (by show 2 ≤ 4; decide) (by show 2 ≤ 7; decide) (by show 0 ≤ 300; decide) (fun p hp => absurd hp List.not_mem_nil)
  refine (ilFinishAll (pks := []) (cap := 1) H (hsc.le hle4) hpk hF).mono ?_; intro v4 w q
  refine q.elim fun h5 q => q.elim fun dv q => q.elim fun dps q => ?_
  have hle5 := q.1; have hv := q.2.1; have hdn := q.2.2.1; have hds := q.2.2.2.1; have H := q.2.2.2.2; clear q
  subst hv
  have hd2 : dps.length = 2 := by rw [← ds_length, hds]; exact hf1
  refine (Sl.lenM hdn.sl).elim fun da q => q.elim fun dc q => ?_
  subst q
  refine CondT.of (u := true) (decide_eq_true (by omega)) ?_
  refine CondT.of (u := true) (decide_eq_true hf2) ?_
  refine (ilBound (cap := 1) (win := 2) H ((hsc.le hle4).le hle5) (by decide) (by decide) (by show 1 ≤ 2; decide) (by show 2 ≤ 64; decide) (fun p hp => by
    simp only [hSP, List.mem_cons, List.not_mem_nil, or_false] at hp
    rcases hp with rfl | rfl <;> (show 1 ≤ 16; decide)) (by decide)).mono ?_; intro v w q
  have hv := q.1; have H := q.2; clear q
  subst hv
  refine CondT.of (u := true) (decide_eq_true (by exact hf3)) ?_
  refine (roundRobin H (n := 20) (th := 2) (by decide) (by decide) (by decide)).mono ?_; intro v w q
  refine q.elim fun h6 q => ?_
  have hle6 := q.1; have hpk := q.2.1; have H := q.2.2; clear q
  refine (fair H hpk (th := 2) (win := 2) (by decide) (by decide) (by decide) (fun i hi t ht => h16_rr i (by simp at hi; omega) t ht)).mono ?_; intro v w q
  have hv := q.1; have H := q.2; clear q
  subst hv
  exact ⟨rfl, h6, Hp.le_trans hle1 (Hp.le_trans hle2 (Hp.le_trans hle3 (Hp.le_trans hle4 (Hp.le_trans hle5 hle6)))), H⟩
end Go.Proofs.YtbdoinigeaaclaaGreat
