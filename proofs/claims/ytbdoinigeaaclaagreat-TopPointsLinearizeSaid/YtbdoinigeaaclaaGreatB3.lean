/- The least and the greatest time among items; sorting, whole. Conditions: few items.
   Sorted copies of items; a rung spread out of items. Conditions: few items, their sequence numbers differ.
   The ladder queue in memory; a rung spread out of items. Conditions: few items.
   Refilling the ladder queue: from the top list, from the last rung. Conditions: the queue's invariants; few items. -/
import Derived.Test.YtbdoinigeaaclaaGreatB2
set_option linter.all false
set_option maxRecDepth 20000
namespace Go.Proofs.YtbdoinigeaaclaaGreat
open Go RL PQ
variable {g : World} {h h' : Hp} {w : World} {L : List (Nat × Obj)}
theorem byTime (H : St g h w L) {a b : It} (ha : TimeOk a.time) (hb : TimeOk b.time) : Ret Tryz.prog 211 [itV a, itV b] w fun v w' => v = .int .i64 (a.time - b.time) ∧ St g h w' L := by
  have a1 := ha.1; have a2 := ha.2; have b1 := hb.1; have b2 := hb.2
  refine Ret.enter tabOk Tryz.func211 rfl (by rfl) rfl (by rfl) (by kernel_rfl) ?_
  refine AllocO.own H fun c2 w H => ?_
  refine AllocO.own H fun c3 w H => ?_
  refine LdO.own H (.tail .head) rfl ?_
  refine LdO.own H .head rfl ?_
  refine ArO.i64 ?_ (by omega) (by omega)
  exact ⟨rfl, H.tail.tail⟩
theorem subNeg {a b : Int} (h : a - b < 0) : a < b := by omega
theorem negSub {a b : Int} (h : a < b) : a - b < 0 := by omega
theorem subPos {a b : Int} (h : 0 < a - b) : b < a := by omega
theorem posSub {a b : Int} (h : b < a) : 0 < a - b := by omega
set_option maxHeartbeats 1000000 in
theorem minF (H : St g h w L) {v : Value} {l : List It} (hs : ItS h v l) (hne : l ≠ []) (hl : l.length ≤ 900) (ht : ∀ x ∈ l, TimeOk x.time) :
    Ret Tryz.prog 212 [v, .func (.func 211) #[] #[]] w fun r w' => ∃ it, r = itV it ∧ it.time = minT l ∧ St g h w' L := by
  match l, hne with
  | x0 :: l, _ =>
  obtain ⟨a, cp, hv⟩ := hs.lenM
  subst hv
  have hl' : l.length + 1 ≤ 900 := hl
  refine Ret.enter tabOk Tryz.func212 rfl (by rfl) rfl (by rfl) (by kernel_rfl) ?_
  refine AllocO.own H fun b4 w H => ?_
  refine CondT.dec (fun hh => absurd (show (((x0 :: l).length : Nat) : Int) < 1 from hh) (by simp only [List.length_cons]; omega)) (fun _ => ?_)
  refine (Sl.idxM hs (i := 0) (Nat.zero_lt_succ _)).elim fun b0 q => q.elim fun o0 q => ?_
  have hidx0 := q.1; have hrow0 := q.2; clear q
  refine hidx0 _ _ _ rfl ?_
  refine LdO.hrow H hrow0 rfl ?_
  refine AllocO.own H fun b5 w H => ?_
  refine StO.own H .head rfl rfl rfl fun w H => ?_
  have H : St g h w ((b5, .cells (itR x0).toArray 157 (0, 0)) :: (b4, .cells (itR ⟨0, 0, 0⟩).toArray 157 (0, 0)) :: L) := H
  refine LoopO.run (σ := Nat × It) (fun s => [(0, .slice a (x0 :: l).length cp), (1, .func (.func 211) #[] #[]), (4, .pointer (some ⟨b4, 0, none⟩)), (5, .pointer (some ⟨b5, 0, none⟩)), (6, .int .i64 ((s.1 + 1 : Nat) : Int))])
    (fun s w => St g h w ((b5, .cells (itR s.2).toArray 157 (0, 0)) :: (b4, .cells (itR ⟨0, 0, 0⟩).toArray 157 (0, 0)) :: L) ∧ s.1 ≤ l.length ∧ TimeOk s.2.time ∧ s.2.time = (l.take s.1).foldl ((fun m y => if y.time < m then y.time else m)) x0.time) (fun s => l.length - s.1) (0, x0)
    (by exact ⟨rfl, rfl, rfl, rfl, rfl, trivial⟩) ⟨H, Nat.zero_le _, ht x0 (.head _), rfl⟩ ?_
  rintro ⟨i, m⟩ w e ⟨H, hi, hm, hf⟩
  simp only at H hi hm hf
  refine CondT.dec (fun hlt => ?_) (fun hge => ?_)
  · have hil : i < l.length := by simp only [List.length_cons] at hlt; omega
    have hiy : (x0 :: l)[i + 1]'(by simp; omega) = l[i] := rfl
    have hy : TimeOk l[i].time := ht _ (.tail _ (List.getElem_mem hil))
    have hstep : (l.take (i + 1)).foldl ((fun m y => if y.time < m then y.time else m)) x0.time = ((fun m y => if y.time < m then y.time else m)) m.time l[i] := by
      rw [List.take_succ_eq_append_getElem hil, List.foldl_append, ← hf]; rfl
    refine (Sl.idxM hs (i := i + 1) (by simp; omega)).elim fun bi q => q.elim fun oi q => ?_
    have hidx := q.1; have hrow := q.2; clear q
    rw [hiy] at hrow
    refine DrawO.st H (pl [0, 1, 2, 3, 4, 5, 1006, 7] .nil) (by kernel_rfl) fun w H => ?_
    refine hidx _ _ _ rfl ?_
    refine LdQ.hrow hrow rfl ?_
    refine LdQ.owns .head rfl ?_
    refine (byTime H hy hm).mono ?_; rintro _ w ⟨rfl, H⟩; refine ⟨H, ?_⟩
    refine CondT.dec (fun hc => ?_) (fun hc => ?_)
    · refine hidx _ _ _ rfl ?_
      refine LdO.hrow H hrow rfl ?_
      refine StO.own H .head rfl rfl rfl fun w H => ?_
      refine ArO.i64 ?_ (by simp only; omega) (by simp only; omega)
      exact ⟨rfl, (i + 1, l[i]), ⟨rfl, rfl, rfl, rfl, rfl, trivial⟩, ⟨H, hil, hy, by rw [hstep]; exact (if_pos (subNeg hc)).symm⟩, by simp only; omega⟩
    · refine ArO.i64 ?_ (by simp only; omega) (by simp only; omega)
      exact ⟨rfl, (i + 1, m), ⟨rfl, rfl, rfl, rfl, rfl, trivial⟩, ⟨H, hil, hm, by rw [hstep]; exact (if_neg fun hx => hc (negSub hx)).symm⟩, by simp only; omega⟩
  · have hie : l.length ≤ i := by simp only [List.length_cons] at hge; omega
    rw [List.take_of_length_le hie] at hf
    refine LdO.owns H .head rfl ?_
    refine StO.own H (.tail .head) rfl rfl rfl fun w H => ?_
    refine LdO.owns H (.tail .head) rfl ?_
    exact ⟨m, rfl, hf, H.tail.tail⟩
set_option maxHeartbeats 1000000 in
theorem maxF (H : St g h w L) {v : Value} {l : List It} (hs : ItS h v l) (hne : l ≠ []) (hl : l.length ≤ 900) (ht : ∀ x ∈ l, TimeOk x.time) :
    Ret Tryz.prog 213 [v, .func (.func 211) #[] #[]] w fun r w' => ∃ it, r = itV it ∧ it.time = maxT l ∧ St g h w' L := by
  match l, hne with
  | x0 :: l, _ =>
  obtain ⟨a, cp, hv⟩ := hs.lenM
  subst hv
  have hl' : l.length + 1 ≤ 900 := hl
  refine Ret.enter tabOk Tryz.func213 rfl (by rfl) rfl (by rfl) (by kernel_rfl) ?_
  refine AllocO.own H fun b4 w H => ?_
  refine CondT.dec (fun hh => absurd (show (((x0 :: l).length : Nat) : Int) < 1 from hh) (by simp only [List.length_cons]; omega)) (fun _ => ?_)
  refine (Sl.idxM hs (i := 0) (Nat.zero_lt_succ _)).elim fun b0 q => q.elim fun o0 q => ?_
  have hidx0 := q.1; have hrow0 := q.2; clear q
  refine hidx0 _ _ _ rfl ?_
  refine LdO.hrow H hrow0 rfl ?_
  refine AllocO.own H fun b5 w H => ?_
  refine StO.own H .head rfl rfl rfl fun w H => ?_
  have H : St g h w ((b5, .cells (itR x0).toArray 157 (0, 0)) :: (b4, .cells (itR ⟨0, 0, 0⟩).toArray 157 (0, 0)) :: L) := H
  refine LoopO.run (σ := Nat × It) (fun s => [(0, .slice a (x0 :: l).length cp), (1, .func (.func 211) #[] #[]), (4, .pointer (some ⟨b4, 0, none⟩)), (5, .pointer (some ⟨b5, 0, none⟩)), (6, .int .i64 ((s.1 + 1 : Nat) : Int))])
    (fun s w => St g h w ((b5, .cells (itR s.2).toArray 157 (0, 0)) :: (b4, .cells (itR ⟨0, 0, 0⟩).toArray 157 (0, 0)) :: L) ∧ s.1 ≤ l.length ∧ TimeOk s.2.time ∧ s.2.time = (l.take s.1).foldl ((fun m y => if m < y.time then y.time else m)) x0.time) (fun s => l.length - s.1) (0, x0)
    (by exact ⟨rfl, rfl, rfl, rfl, rfl, trivial⟩) ⟨H, Nat.zero_le _, ht x0 (.head _), rfl⟩ ?_
  rintro ⟨i, m⟩ w e ⟨H, hi, hm, hf⟩
  simp only at H hi hm hf
  refine CondT.dec (fun hlt => ?_) (fun hge => ?_)
  · have hil : i < l.length := by simp only [List.length_cons] at hlt; omega
    have hiy : (x0 :: l)[i + 1]'(by simp; omega) = l[i] := rfl
    have hy : TimeOk l[i].time := ht _ (.tail _ (List.getElem_mem hil))
    have hstep : (l.take (i + 1)).foldl ((fun m y => if m < y.time then y.time else m)) x0.time = ((fun m y => if m < y.time then y.time else m)) m.time l[i] := by
      rw [List.take_succ_eq_append_getElem hil, List.foldl_append, ← hf]; rfl
    refine (Sl.idxM hs (i := i + 1) (by simp; omega)).elim fun bi q => q.elim fun oi q => ?_
    have hidx := q.1; have hrow := q.2; clear q
    rw [hiy] at hrow
    refine DrawO.st H (pl [0, 1, 2, 3, 4, 5, 1006, 7] .nil) (by kernel_rfl) fun w H => ?_
    refine hidx _ _ _ rfl ?_
    refine LdQ.hrow hrow rfl ?_
    refine LdQ.owns .head rfl ?_
    refine (byTime H hy hm).mono ?_; rintro _ w ⟨rfl, H⟩; refine ⟨H, ?_⟩
    refine CondT.dec (fun hc => ?_) (fun hc => ?_)
    · refine hidx _ _ _ rfl ?_
      refine LdO.hrow H hrow rfl ?_
      refine StO.own H .head rfl rfl rfl fun w H => ?_
      refine ArO.i64 ?_ (by simp only; omega) (by simp only; omega)
      exact ⟨rfl, (i + 1, l[i]), ⟨rfl, rfl, rfl, rfl, rfl, trivial⟩, ⟨H, hil, hy, by rw [hstep]; exact (if_pos (subPos hc)).symm⟩, by simp only; omega⟩
    · refine ArO.i64 ?_ (by simp only; omega) (by simp only; omega)
      exact ⟨rfl, (i + 1, m), ⟨rfl, rfl, rfl, rfl, rfl, trivial⟩, ⟨H, hil, hm, by rw [hstep]; exact (if_neg fun hx => hc (posSub hx)).symm⟩, by simp only; omega⟩
  · have hie : l.length ≤ i := by simp only [List.length_cons] at hge; omega
    rw [List.take_of_length_le hie] at hf
    refine LdO.owns H .head rfl ?_
    refine StO.own H (.tail .head) rfl rfl rfl fun w H => ?_
    refine LdO.owns H (.tail .head) rfl ?_
    exact ⟨m, rfl, hf, H.tail.tail⟩
end Go.Proofs.YtbdoinigeaaclaaGreat
set_option maxRecDepth 20000
namespace Go.Proofs.YtbdoinigeaaclaaGreat
open Go RL PQ
variable {g : World} {h h' : Hp} {w : World} {L : List (Nat × Obj)}
theorem stable {v : Value} {l : List It} {x : List (Nat × Obj)} (ho : OwnSl 157 3 v (l.map itR) x) (H : St g h w (x ++ L)) (hl : l.length ≤ 19) (hn : (l.map It.seq).Nodup) :
    Ret Tryz.prog 221 [v, .int .i64 l.length, .func (.func 83) #[] #[]] w fun _ w' => ∃ x', OwnSl 157 3 v ((sortIt l).map itR) x' ∧ St g h w' (x' ++ L) := by
  refine Ret.enter tabOk Tryz.func221 rfl (by rfl) rfl (by rfl) (by kernel_rfl) ?_
  refine LoopO.run (σ := Unit) (fun _ => [(0, v), (1, .int .i64 l.length), (2, .func (.func 83) #[] #[]), (6, .int .i64 20), (7, .int .i64 0), (8, .int .i64 20)])
    (fun _ w => St g h w (x ++ L)) (fun _ => 0) () (by exact ⟨rfl, rfl, rfl, rfl, rfl, rfl, trivial⟩) H ?_
  rintro _ w e H
  refine CondT.dec (fun hh => absurd (show (20 : Int) ≤ l.length from hh) (by omega)) (fun _ => ?_)
  refine (insSort ho H hl hn).mono ?_; intro v' w q
  refine q.elim fun x' q => ?_
  have ho' := q.1; have H := q.2; clear q
  refine LoopO.run (σ := Unit) (fun _ => [(1, .int .i64 l.length), (6, .int .i64 20)])
    (fun _ w => St g h w (x' ++ L)) (fun _ => 0) () (by exact ⟨rfl, rfl, trivial⟩) H ?_
  rintro _ w e H
  refine CondT.dec (fun hh => absurd (show (20 : Int) < l.length from hh) (by omega)) (fun _ => ?_)
  exact ⟨x', ho', H⟩
theorem sortStable {v : Value} {l : List It} {x : List (Nat × Obj)} (ho : OwnSl 157 3 v (l.map itR) x) (H : St g h w (x ++ L)) (hl : l.length ≤ 19) (hn : (l.map It.seq).Nodup) :
    Ret Tryz.prog 220 [v, .func (.func 83) #[] #[]] w fun _ w' => ∃ x', OwnSl 157 3 v ((sortIt l).map itR) x' ∧ St g h w' (x' ++ L) := by
  obtain ⟨a, cp, hv⟩ := ho.lenM
  subst hv
  refine Ret.enter tabOk Tryz.func220 rfl (by rfl) rfl (by rfl) (by kernel_rfl) ?_
  refine (stable ho H hl hn).mono ?_; intro v' w q
  exact q
theorem sortedF (H : St g h w L) {v : Value} {l : List It} (hs : ItS h v l) (hl : l.length ≤ 19) (hn : (l.map It.seq).Nodup) :
    Ret Tryz.prog 210 [v] w fun v' w' => ∃ h', h.le h' ∧ ItS h' v' (sortIt l) ∧ St g h' w' L := by
  refine Ret.enter tabOk Tryz.func210 rfl (by rfl) rfl (by rfl) (by kernel_rfl) ?_
  refine (cloneIt H hs (itOne l) (by rw [List.length_map]; omega)).mono ?_; intro v' w q
  refine q.elim fun x q => ?_
  have ho := q.1; have H' := q.2; clear q
  refine (sortStable ho H' hl hn).mono ?_; intro v2 w q
  refine q.elim fun x' q => ?_
  have ho' := q.1; have H := q.2; clear q
  refine (OwnSl.sealIt ho' H).elim fun h2 q => ?_
  exact ⟨h2, q.1, q.2.2, q.2.1⟩
end Go.Proofs.YtbdoinigeaaclaaGreat
set_option maxRecDepth 20000
namespace Go.Proofs.YtbdoinigeaaclaaGreat
open Go RL PQ
variable {g : World} {h h' : Hp} {w : World} {L : List (Nat × Obj)}
def RgsS (h : Hp) (v : Value) (rs : List Rg) : Prop := ∃ ps : List RgP, ps.map (·.r) = rs ∧ Sl h 4 v (ps.map RgP.row) ∧ ∀ p ∈ ps, p.ok h
theorem RgsS.le {v : Value} {rs : List Rg} (hs : RgsS h v rs) (hl : h.le h') : RgsS h' v rs := by
  obtain ⟨ps, h1, h2, h3⟩ := hs
  exact ⟨ps, h1, h2.le hl, fun p hp => (h3 p hp).le hl⟩
theorem RgP.ok.one {p : RgP} (hp : p.ok h) : oneCells p.row = true := by
  obtain ⟨a, c, e⟩ := BksS.len hp
  show oneCells [.int .i64 p.r.frm, .int .i64 p.r.width, .int .i64 p.r.cur, p.v] = true
  rw [e]; rfl
/-- A ladder queue, and the slices of its struct. -/
structure LdP where
  l : Ld
  ta : Option Addr
  tc : Nat
  ra : Option Addr
  rc : Nat
  ba : Option Addr
  bc : Nat
  mv : Int
  cp : Int
def LdP.row (p : LdP) : List Value := [.int .i64 p.l.ts, .slice p.ta p.l.top.length p.tc, .slice p.ra p.l.rungs.length p.rc, .slice p.ba p.l.bot.length p.bc, .int .i64 p.mv, .int .i64 p.cp]
def LdP.val (p : LdP) : Value := .agg p.row.toArray
structure LdP.ok (h : Hp) (p : LdP) : Prop where
  t : ItS h (.slice p.ta p.l.top.length p.tc) p.l.top
  r : RgsS h (.slice p.ra p.l.rungs.length p.rc) p.l.rungs
  b : ItS h (.slice p.ba p.l.bot.length p.bc) p.l.bot
theorem LdP.ok.le {p : LdP} (hp : p.ok h) (hl : h.le h') : p.ok h' := ⟨hp.t.le hl, hp.r.le hl, hp.b.le hl⟩
theorem putR_len {r : Rg} {k : Nat} (hk : ∀ b ∈ r.bks, b.length ≤ k) (it : It) : ∀ b ∈ (putR r it).bks, b.length ≤ k + 1 := by
  unfold putR
  split
  · exact fun b hb => Nat.le_succ_of_le (hk b hb)
  · intro b hb
    obtain ⟨i, hi, rfl⟩ := List.mem_iff_getElem.1 hb
    simp only [List.length_modify] at hi
    simp only [List.getElem_modify]
    have := hk _ (List.getElem_mem hi)
    split
    · simp only [List.length_append, List.length_cons, List.length_nil]; omega
    · omega
theorem foldl_putR_ok {items : List It} : ∀ {r : Rg}, RgOk r → (∀ x ∈ items, TimeOk x.time) → RgOk (items.foldl putR r) := by
  induction items with
  | nil => exact fun h _ => h
  | cons x items ih => exact fun h ht => ih (putR_ok h (ht x (.head _))) fun y hy => ht y (.tail _ hy)
theorem RgsS.len {v : Value} {rs : List Rg} (hs : RgsS h v rs) : ∃ a c, v = .slice a rs.length c := by
  obtain ⟨ps, h1, h2, _⟩ := hs
  obtain ⟨a, c, e⟩ := h2.lenM
  exact ⟨a, c, by rw [e, ← h1, List.length_map]⟩
structure SprS where
  i : Nat
  p : RgP
  h : Hp
set_option maxHeartbeats 2000000 in
theorem spreadF {bl : Nat} {p : LdP} (H : St g h w ((bl, .cells p.row.toArray 118 (0, 0)) :: L)) (hp : p.ok h) {frm wd : Int} (hn : RgOk (newR frm wd)) {iv : Value} {items : List It} (hi : ItS h iv items)
    (hil : items.length ≤ 800) (ht : ∀ x ∈ items, TimeOk x.time) (hrl : p.l.rungs.length ≤ 800) :
    Ret Tryz.prog 208 [.pointer (some ⟨bl, 0, none⟩), .int .i64 frm, .int .i64 wd, iv] w fun _ w' => ∃ (h' : Hp) (p' : LdP), h.le h' ∧ p'.ok h' ∧ p'.l = spreadL p.l frm wd items ∧
      St g h' w' ((bl, .cells p'.row.toArray 118 (0, 0)) :: L) := by
  obtain ⟨ia, ic, hiv⟩ := hi.lenM
  subst hiv
  refine Ret.enter tabOk Tryz.func208 rfl (by rfl) rfl (by rfl) (by kernel_rfl) ?_
  refine (rgNew H frm wd).mono ?_; intro v w q
  refine q.elim fun h1 q => q.elim fun r0 q => ?_
  have hle1 := q.1; have hv := q.2.1; have hr0 := q.2.2.1; have hr0r := q.2.2.2.1; have H := q.2.2.2.2; clear q
  subst hv
  have hone0 := hr0.one
  refine AllocO.own H fun b8 w H => ?_
  refine StO.own H .head (by rfl) (by exact hone0) (by rfl) fun w H => ?_
  have H : St g h1 w ((b8, .cells r0.row.toArray 209 (0, 0)) :: (bl, .cells p.row.toArray 118 (0, 0)) :: L) := H
  refine LoopO.run (σ := SprS) (fun s => [(0, .pointer (some ⟨bl, 0, none⟩)), (8, .pointer (some ⟨b8, 0, none⟩)), (14, .slice ia items.length ic), (15, .int .i64 items.length), (16, .int .i64 s.i)])
    (fun s w => h.le s.h ∧ St g s.h w ((b8, .cells s.p.row.toArray 209 (0, 0)) :: (bl, .cells p.row.toArray 118 (0, 0)) :: L) ∧ s.i ≤ items.length ∧ s.p.ok s.h ∧ s.p.r = (items.take s.i).foldl putR (newR frm wd) ∧ ∀ b ∈ s.p.r.bks, b.length ≤ s.i)
    (fun s => items.length - s.i) ⟨0, r0, h1⟩ (by exact ⟨rfl, rfl, rfl, rfl, rfl, trivial⟩) ⟨hle1, H, Nat.zero_le _, hr0, hr0r, ?_⟩ ?_
  · intro b hb
    rw [hr0r] at hb
    rw [(List.mem_replicate.1 hb).2]
    exact Nat.le_refl 0
  rintro ⟨i, r', h2⟩ w e ⟨hle, H, hii, hr', hr'r, hbl⟩
  simp only at hle H hii hr' hr'r hbl
  have hok : RgOk r'.r := by rw [hr'r]; exact foldl_putR_ok hn fun x hx => ht x (List.mem_of_mem_take hx)
  have hr1 := hr'.one
  refine CondT.dec (fun hlt => ?_) (fun hge => ?_)
  · have hlt' : i < items.length := by simp only at hlt; omega
    refine (Sl.idxM (hi.le hle) hlt').elim fun bx q => q.elim fun ox q => ?_
    have hidx := q.1; have hrow := q.2; clear q
    refine hidx _ _ _ rfl ?_
    refine LdO.hrow H hrow rfl ?_
    refine AllocO.own H fun b10 w H => ?_
    refine StO.own H .head rfl rfl rfl fun w H => ?_
    have H : St g h2 w ((b10, .cells (itR items[i]).toArray 157 (0, 0)) :: (b8, .cells r'.row.toArray 209 (0, 0)) :: (bl, .cells p.row.toArray 118 (0, 0)) :: L) := H
    refine LdO.owns H (.tail .head) rfl ?_
    refine LdO.owns H .head rfl ?_
    refine (rgPut (p := r') H hr' hok (it := items[i]) (ht _ (List.getElem_mem hlt')) (fun b hb => by have := hbl b hb; omega)).mono ?_; intro v w q
    refine q.elim fun h3 q => q.elim fun r3 q => q.elim fun ok q => ?_
    have hle3 := q.1; have hv := q.2.1; have hr3 := q.2.2.1; have hr3r := q.2.2.2.1; have H := q.2.2.2.2; clear q
    subst hv
    refine StO.own H (.tail .head) (by rfl) (by exact hr3.one) (by rfl) fun w H => ?_
    refine ArO.i64 ?_ (by simp only; omega) (by simp only; omega)
    refine ⟨rfl, ⟨i + 1, r3, h3⟩, ⟨rfl, rfl, rfl, rfl, rfl, trivial⟩, ⟨Hp.le_trans hle hle3, H.tail, hlt', hr3, ?_, ?_⟩, by simp only; omega⟩
    · show r3.r = _
      rw [hr3r, hr'r, List.take_succ_eq_append_getElem hlt', List.foldl_append]; rfl
    · show ∀ b ∈ r3.r.bks, b.length ≤ i + 1
      rw [hr3r]; exact putR_len hbl _
  · have hie : items.length ≤ i := by simp only at hge; omega
    rw [List.take_of_length_le hie] at hr'r
    obtain ⟨ps, hps1, hps2, hps3⟩ := hp.r.le hle
    have hpl : ps.length ≤ 800 := by rw [← hps1, List.length_map] at hrl; exact hrl
    refine DrawO.wx H (fun w => St g h w ((b8, .cells r'.row.toArray 209 (0, 0)) :: (bl, .cells p.row.toArray 118 (0, 0)) :: L)) (fun w H => H.less hle) (fun j => Nat.beq j 11) (by kernel_rfl)
      (pl [0, 1, 2, 3, 4, 6] (.ll 5 (pl [1007, 1008, 9, 10, 1011] .nil) 7 (pl [1005, 1008, 9, 10, 1011] .nil))) (by kernel_rfl) fun w H => ?_
    refine LdQ.own (.tail .head) rfl ?_
    refine LdQ.owns .head rfl ?_
    refine ⟨?_, ?_⟩
    · skip
      refine (clipRg H (hps2)).mono ?_; intro v w q
      have H := q.2; refine q.1.elim fun ca q => ?_
      have hcl := q.2; have q1 := q.1; subst q1
      refine ⟨H.less hle, ?_⟩
      refine AllocO.own H fun b7 w H => ⟨(H.less hle).tail, ?_⟩
      have hsrc : Src w 4 (.slice (some ⟨b7, 0, none⟩) 1 1) [r'.row] := H.srcOwn .head (by simp [RgP.row]) rfl rfl
      refine RunO.appFull tabOk rfl rfl rfl rfl rfl rfl H rfl hcl (fun r hr => by obtain ⟨q, hq, rfl⟩ := List.mem_map.1 hr; exact (hps3 q hq).one) hsrc (by simp) (by intro r hr; rw [List.mem_singleton.1 hr]; exact hr1) (by show (2 * ((List.map RgP.row ps).length + 1) + 1024) * 48 ≤ _; rw [List.length_map]; omega) fun v w x2 ho2 H => ?_
      refine (OwnSl.sealIt ho2 H).elim fun h3 q => ?_
      have hle3 := q.1; have H := q.2.1; have hs2 := q.2.2; clear q
      refine ⟨(H.less (Hp.le_trans hle hle3)).tail, ?_⟩
      have hnew : RgsS h3 v (spreadL p.l frm wd items).rungs := ⟨ps ++ [r'], by rw [List.map_append, hps1]; show p.l.rungs ++ [r'.r] = p.l.rungs ++ [_]; rw [hr'r], by rw [List.map_append]; exact hs2, fun q hq => by
        rcases List.mem_append.1 hq with hq | hq
        · exact (hps3 q hq).le hle3
        · rw [List.mem_singleton.1 hq]; exact hr'.le hle3⟩
      refine (RgsS.len hnew).elim fun a3 q => q.elim fun c3 q => ?_
      subst q
      refine StO.own H (.tail (.tail .head)) rfl rfl rfl fun w H => ⟨rfl, ?_⟩
      exact ⟨h3, ⟨spreadL p.l frm wd items, p.ta, p.tc, a3, c3, p.ba, p.bc, p.mv, p.cp⟩, Hp.le_trans hle hle3, ⟨(hp.t.le hle).le hle3, hnew, (hp.b.le hle).le hle3⟩, rfl, H.tail.tail⟩
    · refine AllocO.own H fun b7 w H => ⟨(H.less hle).tail, ?_⟩
      refine (clipRg H (hps2)).mono ?_; intro v w q
      have H := q.2; refine q.1.elim fun ca q => ?_
      have hcl := q.2; have q1 := q.1; subst q1
      refine ⟨(H.less hle).tail, ?_⟩
      have hsrc : Src w 4 (.slice (some ⟨b7, 0, none⟩) 1 1) [r'.row] := H.srcOwn .head (by simp [RgP.row]) rfl rfl
      refine RunO.appFull tabOk rfl rfl rfl rfl rfl rfl H rfl hcl (fun r hr => by obtain ⟨q, hq, rfl⟩ := List.mem_map.1 hr; exact (hps3 q hq).one) hsrc (by simp) (by intro r hr; rw [List.mem_singleton.1 hr]; exact hr1) (by show (2 * ((List.map RgP.row ps).length + 1) + 1024) * 48 ≤ _; rw [List.length_map]; omega) fun v w x2 ho2 H => ?_
      refine (OwnSl.sealIt ho2 H).elim fun h3 q => ?_
      have hle3 := q.1; have H := q.2.1; have hs2 := q.2.2; clear q
      refine ⟨(H.less (Hp.le_trans hle hle3)).tail, ?_⟩
      have hnew : RgsS h3 v (spreadL p.l frm wd items).rungs := ⟨ps ++ [r'], by rw [List.map_append, hps1]; show p.l.rungs ++ [r'.r] = p.l.rungs ++ [_]; rw [hr'r], by rw [List.map_append]; exact hs2, fun q hq => by
        rcases List.mem_append.1 hq with hq | hq
        · exact (hps3 q hq).le hle3
        · rw [List.mem_singleton.1 hq]; exact hr'.le hle3⟩
      refine (RgsS.len hnew).elim fun a3 q => q.elim fun c3 q => ?_
      subst q
      refine StO.own H (.tail (.tail .head)) rfl rfl rfl fun w H => ⟨rfl, ?_⟩
      exact ⟨h3, ⟨spreadL p.l frm wd items, p.ta, p.tc, a3, c3, p.ba, p.bc, p.mv, p.cp⟩, Hp.le_trans hle hle3, ⟨(hp.t.le hle).le hle3, hnew, (hp.b.le hle).le hle3⟩, rfl, H.tail.tail⟩
end Go.Proofs.YtbdoinigeaaclaaGreat
set_option maxRecDepth 20000
namespace Go.Proofs.YtbdoinigeaaclaaGreat
open Go RL PQ
variable {g : World} {h h' : Hp} {w : World} {L : List (Nat × Obj)}
def LdPost (g : World) (h : Hp) (L : List (Nat × Obj)) (bl : Nat) (l : Ld) (w : World) : Prop :=
  ∃ (h' : Hp) (p' : LdP), h.le h' ∧ p'.ok h' ∧ p'.l = l ∧ St g h' w ((bl, .cells p'.row.toArray 118 (0, 0)) :: L)
theorem top_seqs {l : Ld} (h : LdOk l) : (l.top.map It.seq).Nodup := by
  have := h.seqs
  rw [allL_eq, List.append_assoc, List.map_append, List.nodup_append] at this
  exact this.1
set_option maxHeartbeats 2000000 in
theorem takeTopF {bl : Nat} {p : LdP} (H : St g h w ((bl, .cells p.row.toArray 118 (0, 0)) :: L)) (hp : p.ok h) (hk : LdOk p.l) (hr : p.l.rungs = []) (hne : p.l.top ≠ []) (hn : p.l.top.length ≤ 19) :
    Ret Tryz.prog 206 [.pointer (some ⟨bl, 0, none⟩)] w fun _ w' => LdPost g h L bl (takeTop p.l) w' := by
  have htm : ∀ x ∈ p.l.top, TimeOk x.time := fun x hx => hk.times x (by rw [allL_eq]; exact List.mem_append_left _ (List.mem_append_left _ hx))
  have hmx : TimeOk (maxT p.l.top) := by obtain ⟨x, hx, e⟩ := maxT_mem hne; rw [e]; exact htm x hx
  have hmn : TimeOk (minT p.l.top) := by obtain ⟨x, hx, e⟩ := minT_mem hne; rw [e]; exact htm x hx
  have hmm : minT p.l.top ≤ maxT p.l.top := by obtain ⟨x, hx, e⟩ := maxT_mem hne; rw [e]; exact minT_le hx
  have hmx1 := hmx.1; have hmx2 := hmx.2; have hmn1 := hmn.1; have hmn2 := hmn.2
  have hw := ceil8_bounds (n := maxT p.l.top - minT p.l.top + 1) (by omega) (by omega)
  have hsq := top_seqs hk
  refine Ret.enter tabOk Tryz.func206 rfl (by rfl) rfl (by rfl) (by kernel_rfl) ?_
  refine LdO.own H .head rfl ?_
  refine (minF H hp.t hne (by omega) htm).mono ?_; intro v w q
  refine q.elim fun i1 q => ?_
  have hv := q.1; have he1 := q.2.1; have H := q.2.2; clear q
  obtain ⟨t1, s1, k1⟩ := i1
  replace he1 : t1 = minT p.l.top := he1
  subst he1
  subst hv
  refine (maxF H hp.t hne (by omega) htm).mono ?_; intro v w q
  refine q.elim fun i2 q => ?_
  have hv := q.1; have he2 := q.2.1; have H := q.2.2; clear q
  obtain ⟨t2, s2, k2⟩ := i2
  replace he2 : t2 = maxT p.l.top := he2
  subst he2
  subst hv
  refine ArO.i64 ?_ (show -9223372036854775808 ≤ maxT p.l.top + 1 by omega) (show maxT p.l.top + 1 ≤ 9223372036854775807 by omega)
  refine StO.own H .head rfl rfl rfl fun w H => ?_
  refine StO.own H .head rfl rfl rfl fun w H => ?_
  refine LdO.own H .head rfl ?_
  refine ArO.mk ?_
  refine StO.own H .head rfl rfl rfl fun w H => ?_
  have H : St g h w ((bl, .cells (LdP.mk { p.l with top := [], ts := maxT p.l.top + 1 } none 0 p.ra p.rc p.ba p.bc (IntKind.i64.wrap (p.mv + p.l.top.length)) p.cp).row.toArray 118 (0, 0)) :: L) := H
  refine CondT.dec (fun hc => ?_) (fun hc => ?_)
  · have hc' : p.l.top.length ≤ 4 := by omega
    refine (sortedF H hp.t hn hsq).mono ?_; intro v w q
    refine q.elim fun h2 q => ?_
    have hle := q.1; have hs := q.2.1; have H := q.2.2; clear q
    refine (Sl.lenM hs).elim fun a2 q => q.elim fun c2 q => ?_
    subst q
    refine StO.own H .head rfl rfl rfl fun w H => ?_
    refine ⟨h2, LdP.mk { p.l with top := [], ts := maxT p.l.top + 1, bot := sortIt p.l.top } none 0 p.ra p.rc a2 c2 (IntKind.i64.wrap (p.mv + p.l.top.length)) p.cp, hle, ⟨Sl.nil h2 3, hp.r.le hle, hs⟩, ?_, H⟩
    show _ = takeTop p.l
    unfold takeTop
    rw [if_pos hc']
  · have hc' : ¬ p.l.top.length ≤ 4 := by omega
    refine (bWidth H hmn1 hmm hmx2).mono ?_; rintro _ w ⟨rfl, H⟩
    refine (spreadF (p := LdP.mk { p.l with top := [], ts := maxT p.l.top + 1 } none 0 p.ra p.rc p.ba p.bc (IntKind.i64.wrap (p.mv + p.l.top.length)) p.cp) H ⟨Sl.nil h 3, hp.r, hp.b⟩ (newR_ok hmn1 hmn2 hw.1 hw.2) hp.t (by omega) htm (by show p.l.rungs.length ≤ 800; rw [hr]; decide)).mono ?_; intro v w q
    refine q.elim fun h2 q => q.elim fun p2 q => ?_
    refine ⟨h2, p2, q.1, q.2.1, ?_, q.2.2.2⟩
    rw [q.2.2.1]
    unfold takeTop
    rw [if_neg hc']
end Go.Proofs.YtbdoinigeaaclaaGreat
