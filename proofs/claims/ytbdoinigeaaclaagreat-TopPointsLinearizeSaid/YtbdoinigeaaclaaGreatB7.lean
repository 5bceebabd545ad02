/- The store: replacing the queue, taking an item. Conditions: the store is in order.
   Reversing; a new arena; a new shared memory; a new ladder queue; a new store. Conditions: the capacity is between 1 and 64.
   A new arena, a new shared memory, a new ladder queue, a new store. Conditions: the capacity is between 1 and 64. -/
import Derived.Test.YtbdoinigeaaclaaGreatB6
set_option linter.all false
set_option maxRecDepth 20000
namespace Go.Proofs.YtbdoinigeaaclaaGreat
open Go RL PQ
variable {g : World} {h h' : Hp} {w : World} {L : List (Nat × Obj)}
set_option maxHeartbeats 1000000 in
theorem stoReplace {D : SD} {s : Sto} {N : Nat} (q : StoW g h D s N L w) (hN : N ≤ 499990) (th : Int) {p : LdP} (hp : p.ok h) :
    Ret Tryz.prog 204 [.pointer (some ⟨D.bs, 0, none⟩), .int .i64 th, p.val] w fun _ w' => StoW g h D (replS s p.l) (N + 1) L w' := by
  refine q.go fun h1 V hle1 hv H => ?_
  have hp := hp.le hle1
  refine Ret.enter tabOk Tryz.func204 rfl (by rfl) rfl (by rfl) (by kernel_rfl) ?_
  refine AllocO.own H fun b5 w H => ?_
  have H : St g h1 w ((b5, .cells p.row.toArray 118 (0, 0)) :: stoL D V s L) := H
  have hc5 := HC.new h1 b5 p.row.toArray 118 (0, 0)
  have hle5 := H.seal_le
  have H := H.sealIt
  have hv := hv.le hle5
  have hp := hp.le hle5
  have hle1 := Hp.le_trans hle1 hle5
  have hq := hv.q
  refine DrawO.st H (pl [0, 1, 2, 3, 4, 5, 6, 7] .nil) (by kernel_rfl) fun w H => ?_
  refine LdQ.hc hc5 (j := 0) rfl ?_
  refine LdQ.own .head rfl ?_
  refine CondT.bool (fun hne => ?_) (fun heq => ?_)
  · have hne' : p.l.ts ≠ s.q.ts := by rw [← hq]; simpa using hne
    have hr : replS s p.l = { setW s 0 p.l.ts with q := p.l } := if_pos hne'
    refine DrawO.wi H (fun w => w.cell? ⟨D.bs, 0, none⟩ = some (.pointer (some ⟨D.B.bm, 0, none⟩)) ∧ w.cell? ⟨b5, 0, none⟩ = some (.int .i64 p.l.ts)) (fun w H => ⟨H.ocell .head rfl, H.hcell hc5 (j := 0) rfl⟩) (pl [0, 1, 2, 3, 4, 5, 6, 1007] .nil) (by kernel_rfl) fun w H => ?_
    refine LdQ.cell (fun _ hs => hs.1) ?_
    refine LdQ.cell (fun _ hs => hs.2) ?_
    refine (stoStore H hv (by omega) th 0 p.l.ts).mono ?_; intro v7 w q
    refine q.go fun h4 V hle4 hv H => ⟨⟨H.ocell .head rfl, H.hcell (hc5.le hle4) (j := 0) rfl⟩, ?_⟩
    refine LdO.hcs H (hc5.le hle4) (j := 0) rfl ?_
    refine StO.own H .head rfl rfl rfl fun w H => ?_
    rw [hr]
    exact StoW.mk (V := { V with p := p }) (Hp.le_trans hle1 hle4) ⟨hv.log, hv.sl, hv.id, hp.le hle4, rfl⟩ H
  · have heq' : p.l.ts = s.q.ts := by rw [← hq]; simpa using heq
    have hr : replS s p.l = { s with q := p.l } := if_neg (fun hn => hn heq')
    refine LdO.hcs H hc5 (j := 0) rfl ?_
    refine StO.own H .head rfl rfl rfl fun w H => ?_
    rw [hr]
    exact StoW.mk (V := { V with p := p }) hle1 ⟨hv.log.mono (Nat.le_succ N), hv.sl, hv.id, hp, rfl⟩ H
theorem stoL_eq (D : SD) (V : SV) (s : Sto) (L : List (Nat × Obj)) : stoL D V s L = stoL D V s [] ++ L := by
  unfold stoL memL; simp
theorem stoIn {D : SD} {V : SV} {s : Sto} {A : List (Nat × Obj)} (H : St g h w (A ++ stoL D V s L)) : St g h w (stoL D V s (A ++ L)) := by
  rw [stoL_eq] at H ⊢
  exact St.pull H
theorem stoOut {D : SD} {V : SV} {s : Sto} {A : List (Nat × Obj)} (H : St g h w (stoL D V s (A ++ L))) : St g h w (A ++ stoL D V s L) := by
  rw [stoL_eq] at H ⊢
  exact St.pull H
set_option maxHeartbeats 1000000 in
theorem stoTake {D : SD} {s : Sto} {N : Nat} (q : StoW g h D s N L w) (hm : s.mus.length = 4) (hN : N ≤ 499990) (th : Int) (f : Nat) (l : Ld) (o : Option It)
    (hf : ∀ {h : Hp} {w : World} {L : List (Nat × Obj)} {p : LdP}, St g h w L → p.ok h → p.l = s.q → Ret Tryz.prog f [p.val] w (PeekPost g h L l o)) :
    Ret Tryz.prog 201 [.pointer (some ⟨D.bs, 0, none⟩), .int .i64 th, .func (.func f) #[] #[]] w fun v w' => v = .tuple #[itV (o.getD ⟨0, 0, 0⟩), .bool o.isSome] ∧ StoW g h D (replS s l) (N + 1) L w' := by
  refine q.go fun h1 V hle1 hv H => ?_
  refine Ret.enter tabOk Tryz.func201 rfl (by rfl) rfl (by rfl) (by kernel_rfl) ?_
  refine AllocO.own H fun b6 w H => ?_
  have H : St g h1 w ((b6, .cells (itR ⟨0, 0, 0⟩).toArray 157 (0, 0)) :: stoL D V s L) := H
  refine AllocO.own H fun bg w H => ?_
  have hleg := H.seal_le
  have H := H.sealIt
  have H := stoIn (A := [_]) H
  have hle1 := Hp.le_trans hle1 hleg
  refine (guardF (StoW.mk (Hp.le_refl _) (hv.le hleg) H) th (ms := [0, 1, 2]) (Sl.new (xs := [.int .i64 0, .int .i64 1, .int .i64 2]) rfl) (by simp [hm]) (by simp)).mono ?_; intro v w q
  refine q.go fun h2 V hle2 hv H => ?_
  have hle1 := Hp.le_trans hle1 hle2
  refine LdO.owns H .head rfl ?_
  refine (hf (p := V.p) H hv.p hv.q).mono ?_; intro v w q
  refine q.elim fun h3 q => q.elim fun p' q => ?_
  have hle3 := q.1; have hp3 := q.2.1; have hl3 := q.2.2.1; have hv3 := q.2.2.2.1; have H := q.2.2.2.2; clear q
  subst hv3
  have hv := hv.le hle3
  have hle1 := Hp.le_trans hle1 hle3
  refine AllocO.own H fun b8 w H => ?_
  refine AllocO.own H fun b9 w H => ?_
  refine StO.own H (.tail .head) rfl rfl rfl fun w H => ?_
  refine StO.own H .head rfl rfl rfl fun w H => ?_
  have H : St g h3 w ((b9, .cells (itR (o.getD ⟨0, 0, 0⟩)).toArray 157 (0, 0)) :: (b8, .cells p'.row.toArray 118 (0, 0)) :: stoL D V s ((b6, .cells (itR ⟨0, 0, 0⟩).toArray 157 (0, 0)) :: L)) := H
  refine LdO.owns H (.tail .head) rfl ?_
  have H := stoIn (A := [_, _]) H
  refine (stoReplace (StoW.mk (Hp.le_refl _) hv H) hN th (p := p') hp3).mono ?_; intro v w q
  refine q.go fun h4 V hle4 hv H => ?_
  have hle1 := Hp.le_trans hle1 hle4
  have H := stoOut (A := [_, _, _]) H
  refine LdO.owns H .head rfl ?_
  refine StO.own H (.tail (.tail .head)) rfl rfl rfl fun w H => ?_
  refine LdO.owns H (.tail (.tail .head)) rfl ?_
  rw [← hl3]
  exact ⟨rfl, StoW.mk hle1 hv H.tail.tail.tail⟩
theorem stoPeek {D : SD} {s : Sto} {N : Nat} (q : StoW g h D s N L w) {K : Int} (hk : SOk s K) (hN : N ≤ 499990) (th : Int) :
    Ret Tryz.prog 200 [.pointer (some ⟨D.bs, 0, none⟩), .int .i64 th] w fun v w' => v = .tuple #[itV ((peekS s).2.getD ⟨0, 0, 0⟩), .bool (peekS s).2.isSome] ∧ StoW g h D (peekS s).1 (N + 1) L w' := by
  have hqn := hk.qn
  refine q.go fun h1 V hle1 hv H => ?_
  refine Ret.enter tabOk Tryz.func200 rfl (by rfl) rfl (by rfl) (by kernel_rfl) ?_
  refine AllocO.own H fun b4 w H => ?_
  have H := stoIn (A := [_]) H
  refine (stoTake (StoW.mk (Hp.le_refl _) hv H) hk.ml hN th 203 (peekL s.q) (peekL s.q).bot.head? (fun {h w L p} H hp hl => by rw [← hl]; exact peekF H hp (by rw [hl]; exact hk.q) (by rw [hl]; omega))).mono ?_; intro v w q
  have hv2 := q.1; have q2 := q.2; clear q
  subst hv2
  refine q2.go fun h2 V hle2 hv H => ?_
  have H := stoOut (A := [_]) H
  refine StO.own H .head rfl rfl rfl fun w H => ?_
  refine LdO.owns H .head rfl ?_
  exact ⟨rfl, StoW.mk (Hp.le_trans hle1 hle2) hv H.tail⟩
theorem stoDrop {D : SD} {s : Sto} {N : Nat} (q : StoW g h D s N L w) {K : Int} (hk : SOk s K) (hN : N ≤ 499990) (th : Int) :
    Ret Tryz.prog 199 [.pointer (some ⟨D.bs, 0, none⟩), .int .i64 th] w fun _ w' => StoW g h D (dropS s) (N + 1) L w' := by
  have hqn := hk.qn
  refine Ret.enter tabOk Tryz.func199 rfl (by rfl) rfl (by rfl) (by kernel_rfl) ?_
  refine (stoTake q hk.ml hN th 202 (popL s.q) (peekL s.q).bot.head? (fun {h w L p} H hp hl => by rw [← hl]; exact popF H hp (by rw [hl]; exact hk.q) (by rw [hl]; omega))).mono ?_; intro v w q
  exact q.2
end Go.Proofs.YtbdoinigeaaclaaGreat
set_option maxRecDepth 20000
namespace Go.Proofs.YtbdoinigeaaclaaGreat
open Go RL PQ
variable {g : World} {h h' : Hp} {w : World} {L : List (Nat × Obj)}
theorem rev_step {xs ys : List Int} {i : Nat} (hl : ys.length = xs.length) (hi : 2 * i + 1 < xs.length)
    (hy : ∀ k (hk : k < xs.length), ys[k]? = some (if k < i ∨ xs.length - 1 - k < i then xs[xs.length - 1 - k] else xs[k])) :
    ∀ k (hk : k < xs.length), ((ys.set i (ys[xs.length - 1 - i]?.getD 0)).set (xs.length - 1 - i) (ys[i]?.getD 0))[k]? = some (if k < i + 1 ∨ xs.length - 1 - k < i + 1 then xs[xs.length - 1 - k] else xs[k]) := by
  intro k hk
  have h1 := hy i (by omega)
  have h2 := hy (xs.length - 1 - i) (by omega)
  have h3 := hy k hk
  rw [h1, h2]
  simp only [Option.getD_some]
  rw [if_neg (by omega), if_neg (by omega)]
  rw [List.getElem?_set, List.length_set]
  by_cases hk1 : xs.length - 1 - i = k
  · rw [if_pos hk1, if_pos (by omega), if_pos (by omega)]
    congr 2; omega
  · rw [if_neg hk1, List.getElem?_set]
    by_cases hk2 : i = k
    · rw [if_pos hk2, if_pos (by omega), if_pos (by omega)]
      subst hk2; rfl
    · rw [if_neg hk2, h3]
      by_cases hk3 : k < i ∨ xs.length - 1 - k < i
      · rw [if_pos hk3, if_pos (by omega)]
      · rw [if_neg hk3, if_neg (by omega)]
set_option maxHeartbeats 1000000 in
theorem reverseI {v : Value} {xs : List Int} {x : List (Nat × Obj)} (ho : OwnSl 3 1 v (xs.map intR) x) (H : St g h w (x ++ L)) (hl : xs.length ≤ 1000) :
    Ret Tryz.prog 67 [v] w fun _ w' => ∃ x', OwnSl 3 1 v (xs.reverse.map intR) x' ∧ St g h w' (x' ++ L) := by
  obtain ⟨a, cp, hv⟩ := ho.lenM
  subst hv
  refine Ret.enter tabOk Tryz.func67 rfl (by rfl) rfl (by rfl) (by kernel_rfl) ?_
  refine ArO.i64 ?_
  refine LoopO.run (σ := Nat × List Int × List (Nat × Obj)) (fun s => [(0, .slice a xs.length cp), (2, .int .i64 (s.1 : Int)), (3, .int .i64 ((xs.length : Int) - 1 - s.1))])
    (fun s w => St g h w (s.2.2 ++ L) ∧ OwnSl 3 1 (.slice a xs.length cp) (s.2.1.map intR) s.2.2 ∧ s.2.1.length = xs.length ∧ 2 * s.1 ≤ xs.length + 1 ∧
      ∀ k (hk : k < xs.length), s.2.1[k]? = some (if k < s.1 ∨ xs.length - 1 - k < s.1 then xs[xs.length - 1 - k] else xs[k])) (fun s => xs.length - s.1) (0, xs, x)
    (by exact ⟨rfl, rfl, by show Value.int .i64 _ = _; congr 1; simp, trivial⟩) ⟨H, ho, rfl, by simp, fun k hk => by rw [if_neg (by omega), List.getElem?_eq_getElem hk]⟩ ?_
  rintro ⟨i, ys, x⟩ w e ⟨H, ho, hyl, hi, hy⟩
  simp only at H ho hyl hi hy
  refine CondT.dec (fun hlt => ?_) (fun hge => ?_)
  · have hlt2 : 2 * i + 1 < xs.length := by simp only at hlt; omega
    have hrl : (ys.map intR).length = xs.length := by rw [List.length_map, hyl]
    refine (OwnSl.blk ho (by rw [hrl]; omega)).elim fun b q => q.elim fun c q => q.elim fun cap' q => ?_
    have hv := q.1; have hx := q.2; clear q
    rw [hrl] at hv
    cases hv
    subst hx
    have i1 : i < (ys.map intR).length := by omega
    have i2 : xs.length - 1 - i < (ys.map intR).length := by omega
    have a1 := OwnSl.at ho i1
    have a2 := OwnSl.at ho i2
    have e1 : (ys.map intR)[i] = intR (ys[i]?.getD 0) := by rw [List.getElem_map, List.getElem?_eq_getElem (by omega)]; rfl
    have e2 : (ys.map intR)[xs.length - 1 - i] = intR (ys[xs.length - 1 - i]?.getD 0) := by rw [List.getElem_map, List.getElem?_eq_getElem (by omega)]; rfl
    rw [e1] at a1
    rw [e2] at a2
    obtain ⟨zi, hzi⟩ : ∃ z, z = ys[i]?.getD 0 := ⟨_, rfl⟩
    obtain ⟨zj, hzj⟩ : ∃ z, z = ys[xs.length - 1 - i]?.getD 0 := ⟨_, rfl⟩
    rw [← hzi] at a1
    rw [← hzj] at a2
    have o1 := a1.2.2 (intR zj) rfl rfl
    have i3 : xs.length - 1 - i < ((ys.map intR).set i (intR zj)).length := by rw [List.length_set]; exact i2
    have a3 := OwnSl.at o1 i3
    have o2 := a3.2.2 (intR zi) rfl rfl
    have er : ((ys.map intR).set i (intR zj)).set (xs.length - 1 - i) (intR zi) = ((ys.set i zj).set (xs.length - 1 - i) zi).map intR := by rw [List.map_set, List.map_set]
    rw [er] at o2
    have hcast : (xs.length : Int) - 1 - i = ((xs.length - 1 - i : Nat) : Int) := by omega
    refine DrawO.wx H (fun w => St g h w ([(b, .cells c 3 (0, 0))] ++ L)) (fun w H => H) (fun j => Nat.ble 13 j) (by kernel_rfl)
      (pl [0, 1, 2, 3, 4, 5, 6, 7, 8, 9, 10, 11, 12, 1013, 1014, 1015] .nil) (by kernel_rfl) fun w H => ?_
    refine IdxO.at0 (i := xs.length - 1 - i) hcast (by omega) ?_
    refine LdQ.ownE .head (v := .int .i64 zj) ?_ ?_
    · have := congrArg List.head? a2.2.1
      show c.toList[(xs.length - 1 - i) * 1]? = _
      simpa [List.head?_take, List.head?_drop, intR] using this
    refine IdxO.at0 (i := i) rfl (by omega) ?_
    refine LdQ.ownE .head (v := .int .i64 zi) ?_ ?_
    · have := congrArg List.head? a1.2.1
      show c.toList[i * 1]? = _
      simpa [List.head?_take, List.head?_drop, intR] using this
    refine IdxO.at0 (i := i) rfl (by omega) ?_
    refine StO.ownE H .head rfl rfl a1.1 (c' := putA c (i * 1) (intR zj)) rfl fun w H => ⟨rfl, ?_⟩
    refine IdxO.at0 (i := xs.length - 1 - i) hcast (by omega) ⟨rfl, ?_⟩
    refine StO.ownE H .head rfl rfl a3.1 (c' := putA (putA c (i * 1) (intR zj)) ((xs.length - 1 - i) * 1) (intR zi)) rfl fun w H => ⟨rfl, ?_⟩
    refine ArO.i64 ?_
    refine ArO.i64 ?_
    refine ⟨rfl, (i + 1, (ys.set i zj).set (xs.length - 1 - i) zi, [(b, .cells (putA (putA c (i * 1) (intR zj)) ((xs.length - 1 - i) * 1) (intR zi)) 3 (0, 0))]), ⟨rfl, rfl, ?_, trivial⟩, ⟨H, o2, ?_, ?_, ?_⟩, ?_⟩
    · show Value.int .i64 _ = _; congr 1; simp only; omega
    · simp [hyl]
    · simp only; omega
    · rw [hzi, hzj]; exact rev_step hyl hlt2 hy
    · simp only; omega
  · have hge : xs.length ≤ 2 * i + 1 := by simp only at hge; omega
    have hr : ys = xs.reverse := by
      apply List.ext_getElem?
      intro k
      by_cases hk : k < xs.length
      · rw [hy k hk, List.getElem?_reverse hk, List.getElem?_eq_getElem (by omega)]
        by_cases hk2 : k < i ∨ xs.length - 1 - k < i
        · rw [if_pos hk2]
        · rw [if_neg hk2]; congr 2; omega
      · rw [List.getElem?_eq_none (by omega), List.getElem?_eq_none (by simp; omega)]
    rw [hr] at ho
    exact ⟨x, ho, H⟩
end Go.Proofs.YtbdoinigeaaclaaGreat
set_option maxRecDepth 20000
namespace Go.Proofs.YtbdoinigeaaclaaGreat
open Go RL PQ
variable {g : World} {h h' : Hp} {w : World} {L : List (Nat × Obj)}
theorem repL_flat (z : List Value) : ∀ n : Nat, RL.repL n z = (List.replicate n z).flatten
  | 0 => rfl
  | n + 1 => by rw [List.replicate_succ, List.flatten_cons, ← repL_flat z n]; rfl
theorem repL_length (z : List Value) (n : Nat) : (RL.repL n z).length = n * z.length := by
  rw [repL_flat, List.length_flatten]; simp
theorem Sl.rep {b e n : Nat} {fz : Nat × Nat} {z : List Value} (hz : z ≠ []) : Sl (h.add b (.cells (RL.repL n z).toArray e fz)) z.length (.slice (some ⟨b, 0, none⟩) n n) (List.replicate n z) := by
  refine ⟨some ⟨b, 0, none⟩, n, by simp, by simp, fun r hr => by rw [List.eq_of_mem_replicate hr], fun _ => ⟨b, 0, rfl, ?_⟩⟩
  have := HC.new h b (RL.repL n z).toArray e fz
  rw [← repL_flat]
  exact this
def ArenaPost (g : World) (h : Hp) (L : List (Nat × Obj)) (n : Nat) (v : Value) (w : World) : Prop :=
  ∃ (h' : Hp) (sa : Option Addr) (sc : Nat) (ia : Option Addr) (ic : Nat), h.le h' ∧ v = .tuple #[.agg #[.slice sa n sc, .slice ia n ic, .int .i64 0], .int .i64 0] ∧
    Sl h' 4 (.slice sa n sc) ((List.replicate n ((0, 0) : Int × Int)).map slotR) ∧ IntS h' (.slice ia n ic) ((List.range n).map fun (n : Nat) => (n : Int)).reverse ∧ St g h' w L
structure ArS where
  i : Nat
  a : Option Addr
  c : Nat
  x : List (Nat × Obj)
set_option maxHeartbeats 1000000 in
theorem arenaNew (H : St g h w L) {n : Nat} (h1 : 1 ≤ n) (h2 : n ≤ 64) : Ret Tryz.prog 53 [.int .i64 n] w (ArenaPost g h L n) := by
  refine Ret.enter tabOk Tryz.func53 rfl (by rfl) rfl (by rfl) (by kernel_rfl) ?_
  refine AllocO.own H fun b2 w H => ?_
  refine CondT.dec (fun hc => absurd hc (by omega)) (fun _ => ?_)
  refine CondT.dec (fun hc => absurd hc (by omega)) (fun _ => ?_)
  refine ⟨⟨n, n, .i64, .i64, rfl, rfl, Nat.le_refl n, by omega, by show 32 * n ≤ _; omega, ?_⟩⟩
  refine AllocO.own H fun b14 w H => ?_
  have H : St g h w ((b14, .cells (RL.repL n [.int .i64 0, .int .i64 0, .int .i64 0, .int .i64 0]).toArray 201 (0, 0)) :: (b2, .cells #[.slice none 0 0, .slice none 0 0, .int .i64 0] 110 (0, 0)) :: L) := H
  have hs := Sl.rep (h := h) (b := b14) (e := 201) (n := n) (fz := (0, 0)) (z := [.int .i64 0, .int .i64 0, .int .i64 0, .int .i64 0]) (by simp)
  have hle := H.seal_le
  have H := H.sealIt
  obtain ⟨h14, e14⟩ : ∃ h14, h14 = h.add b14 (.cells (RL.repL n [.int .i64 0, .int .i64 0, .int .i64 0, .int .i64 0]).toArray 201 (0, 0)) := ⟨_, rfl⟩
  rw [← e14] at hs hle H
  refine AllocO.own H fun b4 w H => ?_
  refine StO.own H .head rfl rfl rfl fun w H => ?_
  have H : St g h14 w ((b4, .cells #[.slice (some ⟨b14, 0, none⟩) n n, .slice none 0 0, .int .i64 0] 110 (0, 0)) :: (b2, .cells #[.slice none 0 0, .slice none 0 0, .int .i64 0] 110 (0, 0)) :: L) := H
  refine LoopO.run (σ := ArS) (fun s => [(2, .pointer (some ⟨b2, 0, none⟩)), (4, .pointer (some ⟨b4, 0, none⟩)), (16, .int .i64 n), (17, .int .i64 (s.i : Int))])
    (fun s w => St g h14 w (s.x ++ ((b4, .cells #[.slice (some ⟨b14, 0, none⟩) n n, .slice s.a s.i s.c, .int .i64 0] 110 (0, 0)) :: (b2, .cells #[.slice none 0 0, .slice none 0 0, .int .i64 0] 110 (0, 0)) :: L)) ∧ s.i ≤ n ∧
      OwnSl 3 1 (.slice s.a s.i s.c) (((List.range s.i).map fun (n : Nat) => (n : Int)).map intR) s.x) (fun s => n - s.i) ⟨0, none, 0, []⟩ (by exact ⟨rfl, rfl, rfl, rfl, trivial⟩) ⟨H, Nat.zero_le _, OwnSl.nil _ _⟩ ?_
  rintro ⟨i, a, c, x⟩ w e ⟨H, hi, ho⟩
  simp only at H hi ho
  have hat : ∃ k, At (b4, .cells #[.slice (some ⟨b14, 0, none⟩) n n, .slice a i c, .int .i64 0] 110 (0, 0)) k (x ++ ((b4, .cells #[.slice (some ⟨b14, 0, none⟩) n n, .slice a i c, .int .i64 0] 110 (0, 0)) :: (b2, .cells #[.slice none 0 0, .slice none 0 0, .int .i64 0] 110 (0, 0)) :: L)) := by
    clear ho H
    induction x with
    | nil => exact ⟨_, .head⟩
    | cons p x ih => obtain ⟨k, hk⟩ := ih; exact ⟨_, .tail hk⟩
  obtain ⟨k4, hat⟩ := hat
  refine CondT.dec (fun hlt => ?_) (fun hge => ?_)
  · have hlt2 : i < n := by simp only at hlt; omega
    refine LdO.own H hat rfl ?_
    refine AllocO.own H fun b22 w H => ?_
    have hsrc : Src w 1 (.slice (some ⟨b22, 0, none⟩) 1 1) [intR i] := H.srcOwn .head (by simp [intR]) rfl rfl
    have H := St.pull (A := [_]) H
    refine RunO.apps (n := i) (m := 1) tabOk rfl rfl rfl rfl rfl rfl rfl H ho hsrc (by simp [oneCells, intR, Value.oneCell']) (by simp) rfl (by omega) fun v w x' ho' H => ?_
    have H := (St.pull (x := [_, _]) H).tail
    refine (OwnSl.len ho').elim fun a' q => q.elim fun c' q => ?_
    have q := q.1
    rw [List.length_append, List.length_map, List.length_map, List.length_range] at q
    subst q
    refine StO.own H .head rfl rfl rfl fun w H => ?_
    have H := St.pull (A := [_]) H
    refine ArO.i64 ?_
    have hr : ((List.range i).map fun (n : Nat) => (n : Int)).map intR ++ [intR (i : Int)] = ((List.range (i + 1)).map fun (n : Nat) => (n : Int)).map intR := by
      rw [List.range_succ, List.map_append, List.map_append]; rfl
    rw [hr] at ho'
    exact ⟨rfl, ⟨i + 1, a', c', x'⟩, ⟨rfl, rfl, rfl, rfl, trivial⟩, ⟨H, hlt2, ho'⟩, by simp only; omega⟩
  · have hie : i = n := by simp only at hge; omega
    subst hie
    refine LdO.own H hat rfl ?_
    have hrl : ((List.range i).map fun (n : Nat) => (n : Int)).length = i := by simp
    refine (reverseI ho H (by rw [hrl]; omega)).mono ?_; intro v w q
    refine q.elim fun x' q => ?_
    have ho := q.1; have H := q.2; clear q
    refine (OwnSl.sealIt ho H).elim fun h3 q => ?_
    have hle3 := q.1; have H := q.2.1; have hs3 := q.2.2; clear q
    refine LdO.owns H .head rfl ?_
    refine StO.own H (.tail .head) rfl rfl rfl fun w H => ?_
    refine LdO.owns H (.tail .head) rfl ?_
    refine ⟨h3, some ⟨b14, 0, none⟩, i, a, c, Hp.le_trans hle hle3, rfl, ?_, hs3, H.tail.tail⟩
    have hm : (List.replicate i ((0, 0) : Int × Int)).map slotR = List.replicate i [.int .i64 0, .int .i64 0, .int .i64 0, .int .i64 0] := by rw [List.map_replicate]; rfl
    rw [hm]
    exact hs.le hle3
def MemPost (g : World) (h : Hp) (L : List (Nat × Obj)) (ws : List Int) (ms : List (Option Int)) (v : Value) (w : World) : Prop :=
  ∃ (B : MB), v = .pointer (some ⟨B.bm, 0, none⟩) ∧ St g h w (memL B ⟨none, 0, 0, [], 0⟩ ws ms L)
theorem shmNew1 (H : St g h w L) (n : Int) : Ret Tryz.prog 68 [.int .i64 n] w fun v w' => v = .bool (decide (0 ≤ n) && decide (n ≤ 256)) ∧ St g h w' L := by
  refine Ret.enter tabOk Tryz.func68 rfl (by rfl) rfl (by rfl) (by kernel_rfl) ?_
  refine CondT.dec (fun h1 => ?_) (fun h1 => ?_)
  · exact ⟨Eq.trans (b := .bool (decide (n ≤ 256))) rfl (by rw [decide_eq_true h1]; rfl), H⟩
  · exact ⟨Eq.trans (b := .bool false) rfl (by rw [decide_eq_false h1]; rfl), H⟩
theorem shmNew (H : St g h w L) {a b : Nat} (ha : a ≤ 256) (hb : b ≤ 256) : Ret Tryz.prog 54 [.int .i64 a, .int .i64 b] w (MemPost g h L (List.replicate a 0) (List.replicate b none)) := by
  refine Ret.enter tabOk Tryz.func54 rfl (by rfl) rfl (by rfl) (by kernel_rfl) ?_
  refine (shmNew1 H a).mono ?_; intro v w q
  have hv := q.1; have H := q.2; clear q
  subst hv
  refine CondT.of (u := false) (by simp; omega) ?_
  refine (shmNew1 H b).mono ?_; intro v w q
  have hv := q.1; have H := q.2; clear q
  subst hv
  refine CondT.of (u := false) (by simp; omega) ?_
  have hrw : RL.repL a [Value.int .i64 0] = (List.replicate a (0 : Int)).map fun z => Value.int .i64 z := by rw [repL_flat, List.map_replicate]; induction a with
    | zero => rfl
    | succ n ih => rw [List.replicate_succ, List.flatten_cons, ih (by omega), List.replicate_succ]; rfl
  have hrm : RL.repL b [Value.bool false, .int .i64 0] = (List.replicate b (none : Option Int)).flatMap muR := by rw [repL_flat]; unfold List.flatMap; rw [List.map_replicate]; rfl
  have hla : (List.replicate a (0 : Int)).length = a := List.length_replicate
  have hlb : (List.replicate b (none : Option Int)).length = b := List.length_replicate
  have hfin : ∀ (bm bw bx : Nat) (w : World), St g h w ((bm, .cells #[.slice none 0 0, .int .i64 0, .slice (some ⟨bw, 0, none⟩) a a, .slice (some ⟨bx, 0, none⟩) b b] 147 (0, 0)) ::
      (bw, .cells (RL.repL a [Value.int .i64 0]).toArray 3 (0, 0)) :: (bx, .cells (RL.repL b [Value.bool false, .int .i64 0]).toArray 184 (0, 0)) :: L) →
      MemPost g h L (List.replicate a 0) (List.replicate b none) (.pointer (some ⟨bm, 0, none⟩)) w := fun bm bw bx w H => by
    refine ⟨⟨bm, bw, bx⟩, rfl, ?_⟩
    rw [hrw, hrm] at H
    unfold memL memRow
    rw [hla, hlb]
    exact H
  refine DrawO.st H (pl [0, 3] (.ll 1 (pl [2, 1004, 5, 6, 1007, 8] .nil) 4 (pl [5, 1001, 2, 6, 1007, 8] .nil))) (by kernel_rfl) fun w H => ?_
  refine ⟨?_, ?_⟩
  · refine ⟨⟨a, a, .i64, .i64, rfl, rfl, Nat.le_refl a, by omega, by show 8 * a ≤ _; omega, ?_⟩⟩
    refine AllocO.own H fun bw w H => ⟨H.tail, ?_⟩
    refine ⟨⟨b, b, .i64, .i64, rfl, rfl, Nat.le_refl b, by omega, by show 16 * b ≤ _; omega, ?_⟩⟩
    refine AllocO.own H fun bx w H => ⟨H.tail.tail, ?_⟩
    refine AllocO.own H fun bm w H => ⟨H.tail.tail.tail, ?_⟩
    exact hfin bm bw bx w (H.perm (.cons _ (.swap _ _ _)))
  · refine ⟨⟨b, b, .i64, .i64, rfl, rfl, Nat.le_refl b, by omega, by show 16 * b ≤ _; omega, ?_⟩⟩
    refine AllocO.own H fun bx w H => ⟨H.tail, ?_⟩
    refine ⟨⟨a, a, .i64, .i64, rfl, rfl, Nat.le_refl a, by omega, by show 8 * a ≤ _; omega, ?_⟩⟩
    refine AllocO.own H fun bw w H => ⟨H.tail.tail, ?_⟩
    refine AllocO.own H fun bm w H => ⟨H.tail.tail.tail, ?_⟩
    exact hfin bm bw bx w H
theorem ladderNew (H : St g h w L) : Ret Tryz.prog 55 [] w fun v w' => v = .agg zLd.toArray ∧ St g h w' L := by
  refine Ret.enter tabOk Tryz.func55 rfl (by rfl) rfl (by rfl) (by kernel_rfl) ?_
  refine AllocO.own H fun b w H => ?_
  refine StO.own H .head rfl rfl rfl fun w H => ?_
  refine LdO.owns H .head rfl ?_
  exact ⟨rfl, H.tail⟩
set_option maxHeartbeats 1000000 in
theorem storeNew (H : St g h w L) {n : Nat} (h1 : 1 ≤ n) (h2 : n ≤ 64) : Ret Tryz.prog 40 [.int .i64 n] w fun v w' => ∃ D : SD, v = .pointer (some ⟨D.bs, 0, none⟩) ∧ StoW g h D (newS n) 0 L w' := by
  refine Ret.enter tabOk Tryz.func40 rfl (by rfl) rfl (by rfl) (by kernel_rfl) ?_
  refine (arenaNew H h1 h2).mono ?_; intro v w q
  refine q.elim fun h3 q => q.elim fun sa q => q.elim fun sc q => q.elim fun ia q => q.elim fun ic q => ?_
  have hle := q.1; have hv := q.2.1; have hsl := q.2.2.1; have hid := q.2.2.2.1; have H := q.2.2.2.2; clear q
  subst hv
  refine AllocO.own H fun b3 w H => ?_
  refine StO.own H .head rfl rfl rfl fun w H => ?_
  have H : St g h3 w ((b3, .cells #[.slice sa n sc, .slice ia n ic, .int .i64 0] 110 (0, 0)) :: L) := H
  refine CondT.mk ?_
  have hc3 := HC.new h3 b3 #[.slice sa n sc, .slice ia n ic, .int .i64 0] 110 (0, 0)
  have hle3 := H.seal_le
  have H := H.sealIt
  obtain ⟨h4, e4⟩ : ∃ h4, h4 = h3.add b3 (.cells #[.slice sa n sc, .slice ia n ic, .int .i64 0] 110 (0, 0)) := ⟨_, rfl⟩
  rw [← e4] at hc3 hle3 H
  refine DrawO.st H (pl [0, 1, 3, 1002, 1004, 5, 1006, 7] .nil) (by kernel_rfl) fun w H => ?_
  refine ArO.i64 ?_
  refine LdQ.hcs hc3 (j := 0) rfl ?_
  refine (shmNew H (a := n + 1) (b := 4) (by omega) (by omega)).mono ?_; intro v w q
  refine q.elim fun B q => ?_
  have hv := q.1; have H := q.2; clear q
  subst hv
  refine ⟨H.tail.tail.tail, ?_⟩
  refine (ladderNew H).mono ?_; intro v w q
  have hv := q.1; have H := q.2; clear q
  subst hv
  refine ⟨H.tail.tail.tail, ?_⟩
  refine AllocO.own H fun bs w H => ⟨H.tail.tail.tail.tail, ?_⟩
  have hidl : (newS n).idle.length = n := by simp [newS]
  have hsll : (newS n).slots.length = n := by simp [newS]
  refine ⟨⟨bs, B⟩, rfl, StoW.mk (V := ⟨⟨none, 0, 0, [], 0⟩, sa, sc, ia, ic, ⟨⟨0, [], [], []⟩, none, 0, none, 0, none, 0, 0, 0⟩⟩) (Hp.le_trans hle hle3) ⟨⟨⟨[], OwnSl.nil _ _, rfl⟩, Nat.le_refl 0⟩, ?_, ?_, ⟨Sl.nil _ _, ⟨[], rfl, Sl.nil _ _, by simp⟩, Sl.nil _ _⟩, rfl⟩ ?_⟩
  · rw [hsll]; exact hsl.le hle3
  · rw [hidl]; exact hid.le hle3
  · unfold stoL stoRow
    rw [hidl, hsll]
    exact H
end Go.Proofs.YtbdoinigeaaclaaGreat
