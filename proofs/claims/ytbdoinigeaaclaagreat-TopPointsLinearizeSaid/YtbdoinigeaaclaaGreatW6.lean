/- The laws' own small functions: Great. Conditions: slices are short.
   The laws' own small functions: head. Conditions: none.
   What an argument of a law is, read from how it reads: histories, orders, calls, results. Conditions: none. -/
import Derived.Test.YtbdoinigeaaclaaGreatW5
import Derived.ProofKit
import Derived.Test.YtbdoinigeaaclaaGreatChecked
set_option linter.all false
set_option maxRecDepth 20000
namespace Go.Proofs.YtbdoinigeaaclaaGreat
open Go RL PQ
variable {g : World} {h : Hp} {w : World} {L : List (Nat × Obj)}
def greatL (l : List Done) : Bool := decide (12 < l.length) || l.any fun d => decide (20 < d.res.evs.length)
end Go.Proofs.YtbdoinigeaaclaaGreat
set_option maxRecDepth 20000
namespace Go.Proofs.YtbdoinigeaaclaaGreat
open Go RL PQ
variable {g : World} {h : Hp} {w : World} {L : List (Nat × Obj)}
def hIns : DP := ⟨⟨0, ⟨1, 5, 0, 0, 0⟩, { rh := 3 }, 2, 0, 9⟩, none, 0⟩
def hBat (b : Nat) : DP := ⟨⟨1, ⟨3, 0, 0, 1, 9⟩, { evs := [⟨5, 3⟩] }, 1, 0, 4⟩, some ⟨b, 0, none⟩, 1⟩
def hBat0 (b : Nat) : DP := ⟨⟨1, ⟨3, 0, 0, 1, 9⟩, { evs := [⟨5, 3⟩] }, 0, 0, 1⟩, some ⟨b, 0, none⟩, 1⟩
theorem head_t1 : checkL 4 [(hBat 0).d, hIns.d] = some [1, 0] := by decide +kernel
theorem head_t2 : checkL 4 [(hBat0 0).d, hIns.d] = none := by decide +kernel
theorem head_t3 : checkL 0 [] = none := by decide +kernel
theorem head_t4 : checkL 1 [] = some [] := by decide +kernel
theorem head_t5 : replayL 4 [(hBat 0).d, hIns.d] [1, 0] = true := by decide +kernel
theorem head_t6 : replayL 4 [(hBat 0).d, hIns.d] [0, 1] = false := by decide +kernel
theorem head_t7 : validL [hIns.d, (hBat 0).d] = true := by decide +kernel
theorem head_t8 : validL [hIns.d, hIns.d] = false := by decide +kernel
/-- Two completed calls in a new block, sealed. -/
theorem two_sealed {b : Nat} {p q : DP} {e : TypeId} (H : St g h w ((b, .cells (p.row ++ q.row).toArray e (0, 0)) :: L)) (hp : EvS h p.ev p.d.res.evs) (hq : EvS h q.ev q.d.res.evs) :
    ∃ h', h.le h' ∧ St g h' w L ∧ DnS h' (.slice (some ⟨b, 0, none⟩) 2 2) [p, q] := by
  refine ⟨_, H.seal_le, H.sealIt, ⟨⟨some ⟨b, 0, none⟩, 2, rfl, Nat.le_refl _, ?_, fun _ => ⟨b, 0, rfl, _, e, (0, 0), Hp.add_same _ _ _, fun i hi => ?_⟩⟩, ?_⟩⟩
  · intro r hr
    simp only [List.map_cons, List.map_nil, List.mem_cons, List.not_mem_nil, or_false] at hr
    rcases hr with rfl | rfl <;> rfl
  · rw [Nat.zero_add]; simp
  · intro r hr
    simp only [List.mem_cons, List.not_mem_nil, or_false] at hr
    rcases hr with rfl | rfl
    · exact Sl.le hp H.seal_le
    · exact Sl.le hq H.seal_le
set_option maxHeartbeats 1000000 in
set_option maxRecDepth 10000 in
theorem head (H : St g h w L) : Ret Tryz.prog 13 [] w fun v w' => v = .bool true ∧ St g h w' L := by
  refine Ret.enter tabOk Tryz.func13 rfl (by rfl) rfl (by rfl) (by kernel_rfl) ?_
  refine AllocO.own H fun b1 w H => ?_
  refine StO.own H .head rfl rfl rfl fun w H => ?_
  refine AllocO.own H fun be w H => ?_
  have H : St g h w ((be, .cells #[.int .i64 5, .int .i64 3] 48 (0, 0)) :: (b1, .cells hIns.row.toArray 40 (0, 0)) :: L) := H
  have hev0 : EvS (h.add be (.cells #[.int .i64 5, .int .i64 3] 48 (0, 0))) (.slice (some ⟨be, 0, none⟩) 1 1) [⟨5, 3⟩] :=
    ⟨some ⟨be, 0, none⟩, 1, rfl, Nat.le_refl _, by simp [evR], fun _ => ⟨be, 0, rfl, _, _, (0, 0), Hp.add_same _ _ _, fun i hi => by rw [Nat.zero_add]; simp [evR]⟩⟩
  have hle1 := H.seal_le
  have H := H.sealIt
  refine AllocO.own H fun b2 w H => ?_
  refine StO.own H .head (by kernel_rfl) (by kernel_rfl) (by kernel_rfl) fun w H => ?_
  have H : St g (h.add be (.cells #[.int .i64 5, .int .i64 3] 48 (0, 0))) w ((b2, .cells (hBat be).row.toArray 40 (0, 0)) :: (b1, .cells hIns.row.toArray 40 (0, 0)) :: L) := H
  refine LdO.owns H .head rfl ?_
  refine AllocO.own H fun b3 w H => ?_
  refine StO.own H .head rfl rfl rfl fun w H => ?_
  refine StO.own H .head rfl rfl rfl fun w H => ?_
  refine StO.own H .head rfl rfl rfl fun w H => ?_
  have H : St g (h.add be (.cells #[.int .i64 5, .int .i64 3] 48 (0, 0))) w ((b3, .cells (hBat0 be).row.toArray 40 (0, 0)) :: (b2, .cells (hBat be).row.toArray 40 (0, 0)) :: (b1, .cells hIns.row.toArray 40 (0, 0)) :: L) := H
  have hev : ∀ {h' : Hp}, (h.add be (.cells #[.int .i64 5, .int .i64 3] 48 (0, 0))).le h' → EvS h' (.slice (some ⟨be, 0, none⟩) 1 1) [⟨5, 3⟩] := fun hl => Sl.le hev0 hl
  refine LdO.owns H (.tail .head) rfl ?_
  refine LdO.owns H (.tail (.tail .head)) rfl ?_
  refine AllocO.own H fun b4 w H => ?_
  refine (two_sealed (p := hBat be) (q := hIns) H (hev (Hp.le_refl _)) (Sl.nil _ 2)).elim fun h4 q => ?_
  have hle4 := q.1; have H := q.2.1; have hd4 := q.2.2; clear q
  refine (check H 4 hd4 (by simp)).mono ?_; intro v w q
  refine q.elim fun h5 q => q.elim fun o1 q => ?_
  have hle5 := q.1; have hv := q.2.1; have ho1 := q.2.2.1; have H := q.2.2.2; clear q
  have hc1 : checkL 4 (ds [hBat be, hIns]) = some [1, 0] := head_t1
  rw [hc1] at hv ho1
  subst hv
  refine LdO.owns H .head rfl ?_
  refine LdO.owns H (.tail (.tail .head)) rfl ?_
  refine AllocO.own H fun b6 w H => ?_
  refine (two_sealed (p := hBat0 be) (q := hIns) H (hev (Hp.le_trans hle4 hle5)) (Sl.nil _ 2)).elim fun h6 q => ?_
  have hle6 := q.1; have H := q.2.1; have hd6 := q.2.2; clear q
  refine (check H 4 hd6 (by simp)).mono ?_; intro v w q
  refine q.elim fun h7 q => q.elim fun o2 q => ?_
  have hle7 := q.1; have hv := q.2.1; have H := q.2.2.2; clear q
  have hc2 : checkL 4 (ds [hBat0 be, hIns]) = none := head_t2
  rw [hc2] at hv
  subst hv
  have hnil : ∀ h' : Hp, DnS h' (.slice none 0 0) [] := fun h' => ⟨Sl.nil h' 13, fun r hr => by cases hr⟩
  refine (check H 0 (hnil _) (by simp)).mono ?_; intro v w q
  refine q.elim fun h8 q => q.elim fun o3 q => ?_
  have hle8 := q.1; have hv := q.2.1; have H := q.2.2.2; clear q
  have hc3 : checkL 0 (ds []) = none := head_t3
  rw [hc3] at hv
  subst hv
  refine (check H 1 (hnil _) (by simp)).mono ?_; intro v w q
  refine q.elim fun h9 q => q.elim fun o4 q => ?_
  have hle9 := q.1; have hv := q.2.1; have ho4 := q.2.2.1; have H := q.2.2.2; clear q
  have hc4 : checkL 1 (ds []) = some [] := head_t4
  rw [hc4] at hv ho4
  subst hv
  refine (Sl.lenM ho4).elim fun o4a q => q.elim fun o4c q => ?_
  subst q
  refine CondT.mk ?_
  refine AllocO.own H fun b10 w H => ?_
  have hi10 := intS_two (h := h9) b10 1 0 3
  have hle10 := H.seal_le
  have H := H.sealIt
  refine (refSame H (ho1.le (Hp.le_trans hle6 (Hp.le_trans hle7 (Hp.le_trans hle8 (Hp.le_trans hle9 hle10))))) hi10 (by simp [oi])).mono ?_; intro v w q
  have hv := q.1; have H := q.2; clear q
  have hs1 : decide (oi (Option.getD (some [1, 0]) []) = [1, 0]) = true := by decide
  rw [hs1] at hv
  subst hv
  refine CondT.mk ?_
  refine CondT.mk ?_
  refine CondT.mk ?_
  refine CondT.mk ?_
  refine CondT.mk ?_
  refine LdO.owns H .head rfl ?_
  refine LdO.owns H (.tail (.tail .head)) rfl ?_
  refine (precedes H (hBat0 be) hIns).mono ?_; intro v w q
  have hv := q.1; have H := q.2; clear q
  have hs2 : prec (hBat0 be).d hIns.d = true := by rw [show (hBat0 be).d = (hBat0 0).d from rfl]; decide
  rw [hs2] at hv
  subst hv
  refine CondT.mk ?_
  refine LdO.owns H (.tail .head) rfl ?_
  refine LdO.owns H (.tail (.tail .head)) rfl ?_
  refine (precedes H (hBat be) hIns).mono ?_; intro v w q
  have hv := q.1; have H := q.2; clear q
  have hs3 : prec (hBat be).d hIns.d = false := by rw [show (hBat be).d = (hBat 0).d from rfl]; decide
  rw [hs3] at hv
  subst hv
  refine CondT.mk ?_
  refine LdO.owns H (.tail (.tail .head)) rfl ?_
  refine LdO.owns H (.tail .head) rfl ?_
  refine AllocO.own H fun b11 w H => ?_
  have hleA := Hp.le_trans hle4 (Hp.le_trans hle5 (Hp.le_trans hle6 (Hp.le_trans hle7 (Hp.le_trans hle8 (Hp.le_trans hle9 hle10)))))
  refine (two_sealed (p := hIns) (q := hBat be) H (Sl.nil _ 2) (hev hleA)).elim fun h11 q => ?_
  have hle11 := q.1; have H := q.2.1; have hd11 := q.2.2; clear q
  refine (valid H hd11).mono ?_; intro v w q
  have hv := q.1; have H := q.2; clear q
  have hc5 : validL (ds [hIns, hBat be]) = true := head_t7
  rw [hc5] at hv
  subst hv
  refine CondT.mk ?_
  refine LdO.owns H (.tail (.tail .head)) rfl ?_
  refine LdO.owns H (.tail (.tail .head)) rfl ?_
  refine AllocO.own H fun b12 w H => ?_
  refine (two_sealed (p := hIns) (q := hIns) H (Sl.nil _ 2) (Sl.nil _ 2)).elim fun h12 q => ?_
  have hle12 := q.1; have H := q.2.1; have hd12 := q.2.2; clear q
  refine (valid H hd12).mono ?_; intro v w q
  have hv := q.1; have H := q.2; clear q
  have hc6 : validL (ds [hIns, hIns]) = false := head_t8
  rw [hc6] at hv
  subst hv
  refine CondT.mk ?_
  refine LdO.owns H (.tail .head) rfl ?_
  refine LdO.owns H (.tail (.tail .head)) rfl ?_
  refine AllocO.own H fun b13 w H => ?_
  refine (two_sealed (p := hBat be) (q := hIns) H (hev (Hp.le_trans hleA (Hp.le_trans hle11 hle12))) (Sl.nil _ 2)).elim fun h13 q => ?_
  have hle13 := q.1; have H := q.2.1; have hd13 := q.2.2; clear q
  refine AllocO.own H fun b14 w H => ?_
  have hi14 := intS_two (h := h13) b14 1 0 3
  have hle14 := H.seal_le
  have H := H.sealIt
  refine (replay H 4 (hd13.le hle14) (by simp) hi14 (by simp)).mono ?_; intro v w q
  have hv := q.1; have H := q.2; clear q
  have hc7 : replayL 4 (ds [hBat be, hIns]) [1, 0] = true := head_t5
  rw [hc7] at hv
  subst hv
  refine CondT.mk ?_
  refine LdO.owns H (.tail .head) rfl ?_
  refine LdO.owns H (.tail (.tail .head)) rfl ?_
  refine AllocO.own H fun b15 w H => ?_
  refine (two_sealed (p := hBat be) (q := hIns) H (hev (Hp.le_trans hleA (Hp.le_trans hle11 (Hp.le_trans hle12 (Hp.le_trans hle13 hle14))))) (Sl.nil _ 2)).elim fun h15 q => ?_
  have hle15 := q.1; have H := q.2.1; have hd15 := q.2.2; clear q
  refine AllocO.own H fun b16 w H => ?_
  have hi16 := intS_two (h := h15) b16 0 1 3
  have hle16 := H.seal_le
  have H := H.sealIt
  refine (replay H 4 (hd15.le hle16) (by simp) hi16 (by simp)).mono ?_; intro v w q
  have hv := q.1; have H := q.2; clear q
  have hc8 : replayL 4 (ds [hBat be, hIns]) [0, 1] = false := head_t6
  rw [hc8] at hv
  subst hv
  exact ⟨rfl, (H.less (Hp.le_trans hle1 (Hp.le_trans hleA (Hp.le_trans hle11 (Hp.le_trans hle12 (Hp.le_trans hle13 (Hp.le_trans hle14 (Hp.le_trans hle15 hle16)))))))).tail.tail.tail⟩
end Go.Proofs.YtbdoinigeaaclaaGreat
set_option maxRecDepth 20000
namespace Go.Proofs.YtbdoinigeaaclaaGreat
open Go RL PQ Go.ChangeShapes Go.WideShapes Go.ChangeAt Go.RowKit
section
variable {Hh : Type} {enc : TypeId × Value → Hh} {w : World} {base : Nat} {held : Bool} {n : Nat} {x : DataW Hh × List MemPlace} {cs : List Value}
instance : Inhabited Ev := ⟨⟨0, 0⟩⟩
instance : Inhabited PQ.Call := ⟨⟨0, 0, 0, 0, 0⟩⟩
instance : Inhabited RP := ⟨⟨{}, none, 0⟩⟩
instance : Inhabited DP := ⟨⟨done0, none, 0⟩⟩
theorem read_int (h : DataW.trod enc Tryz.prog w base (fun _ => true) held n 3 cs = some x) : ∃ z : Int, cs = intR z := by
  obtain ⟨z, hz, _⟩ := DataW.trod_int Tryz.underlying3 h
  exact ⟨z, hz⟩
theorem read_err (h : DataW.trod enc Tryz.prog w base (fun _ => true) held n 35 cs = some x) : ∃ z : Int, cs = intR z := by
  obtain ⟨z, hz, _⟩ := DataW.trod_int Tryz.underlying35 h
  exact ⟨z, hz⟩
theorem read_bool (h : DataW.trod enc Tryz.prog w base (fun _ => true) held n 4 cs = some x) : ∃ b : Bool, cs = [.bool b] := by
  obtain ⟨z, hz, _⟩ := DataW.trod_bool Tryz.underlying4 h
  exact ⟨z, hz⟩
theorem read_event (h : DataW.trod enc Tryz.prog w base (fun _ => true) held n 48 cs = some x) : ∃ e : Ev, cs = evR e := by
  obtain ⟨xs, m, _, _, hl, hx, hf⟩ := DataW.trod_struct Tryz.underlying48 h
  match cs, hl.trans (show Program.cellsOf Tryz.prog 48 = 2 by kernel_rfl) with
  | [c0, c1], _ =>
    obtain ⟨_, h0⟩ := trodF hf hx 0 rfl (k := 1) (by kernel_rfl)
    obtain ⟨_, h1⟩ := trodF hf hx 1 rfl (k := 1) (by kernel_rfl)
    obtain ⟨z0, e0⟩ := read_int h0
    obtain ⟨z1, e1⟩ := read_int h1
    cases e0; cases e1
    exact ⟨⟨z0, z1⟩, rfl⟩
theorem read_call (h : DataW.trod enc Tryz.prog w base (fun _ => true) held n 34 cs = some x) : ∃ c : PQ.Call, cs = callL c := by
  obtain ⟨xs, m, _, _, hl, hx, hf⟩ := DataW.trod_struct Tryz.underlying34 h
  match cs, hl.trans (show Program.cellsOf Tryz.prog 34 = 5 by kernel_rfl) with
  | [c0, c1, c2, c3, c4], _ =>
    obtain ⟨_, h0⟩ := trodF hf hx 0 rfl (k := 1) (by kernel_rfl)
    obtain ⟨_, h1⟩ := trodF hf hx 1 rfl (k := 1) (by kernel_rfl)
    obtain ⟨_, h2⟩ := trodF hf hx 2 rfl (k := 1) (by kernel_rfl)
    obtain ⟨_, h3⟩ := trodF hf hx 3 rfl (k := 1) (by kernel_rfl)
    obtain ⟨_, h4⟩ := trodF hf hx 4 rfl (k := 1) (by kernel_rfl)
    obtain ⟨z0, e0⟩ := read_int h0
    obtain ⟨z1, e1⟩ := read_int h1
    obtain ⟨z2, e2⟩ := read_int h2
    obtain ⟨z3, e3⟩ := read_int h3
    obtain ⟨z4, e4⟩ := read_int h4
    cases e0; cases e1; cases e2; cases e3; cases e4
    exact ⟨⟨z0, z1, z2, z3, z4⟩, rfl⟩
theorem read_events {v : Value} (h : DataW.trod enc Tryz.prog w base (fun _ => true) held n 36 [v] = some x) : ∃ l : List Ev, EvS (heapOf w) v l ∧ l.length ≤ maxLen := by
  obtain ⟨l, h1, _, h2⟩ := open_rows (R := evR) (G := fun _ => True) (sz := 2) Tryz.underlying36 (by kernel_rfl) (by omega) (fun _ => rfl) (fun n cs y hy => by
    obtain ⟨e, he⟩ := read_event hy
    exact ⟨e, trivial, he⟩) h
  exact ⟨l, h1, h2⟩
theorem read_res (h : DataW.trod enc Tryz.prog w base (fun _ => true) held n 38 cs = some x) : ∃ r : RP, r.ok (heapOf w) ∧ cs = r.row := by
  obtain ⟨xs, m, _, _, hl, hx, hf⟩ := DataW.trod_struct Tryz.underlying38 h
  match cs, hl.trans (show Program.cellsOf Tryz.prog 38 = 4 by kernel_rfl) with
  | [c0, c1, c2, c3], _ =>
    obtain ⟨_, h0⟩ := trodF hf hx 0 rfl (k := 1) (by kernel_rfl)
    obtain ⟨_, h1⟩ := trodF hf hx 1 rfl (k := 1) (by kernel_rfl)
    obtain ⟨_, h2⟩ := trodF hf hx 2 rfl (k := 1) (by kernel_rfl)
    obtain ⟨_, h3⟩ := trodF hf hx 3 rfl (k := 1) (by kernel_rfl)
    obtain ⟨z0, e0⟩ := read_err h0
    obtain ⟨z1, e1⟩ := read_int h1
    obtain ⟨z2, e2⟩ := read_bool h2
    obtain ⟨evs, he, _⟩ := read_events (v := c3) h3
    cases e0; cases e1; cases e2
    obtain ⟨a, c, rfl⟩ := he.lenM
    exact ⟨⟨⟨z0, z1, z2, evs⟩, a, c⟩, he, rfl⟩
theorem read_done (h : DataW.trod enc Tryz.prog w base (fun _ => true) held n 40 cs = some x) : ∃ d : DP, EvS (heapOf w) d.ev d.d.res.evs ∧ cs = d.row := by
  obtain ⟨xs, m, _, _, hl, hx, hf⟩ := DataW.trod_struct Tryz.underlying40 h
  match cs, hl.trans (show Program.cellsOf Tryz.prog 40 = 13 by kernel_rfl) with
  | [c0, c1, c2, c3, c4, c5, c6, c7, c8, c9, c10, c11, c12], _ =>
    obtain ⟨_, h0⟩ := trodF hf hx 0 rfl (k := 1) (by kernel_rfl)
    obtain ⟨_, h1⟩ := trodF hf hx 1 rfl (k := 5) (by kernel_rfl)
    obtain ⟨_, h2⟩ := trodF hf hx 2 rfl (k := 4) (by kernel_rfl)
    obtain ⟨_, h3⟩ := trodF hf hx 3 rfl (k := 1) (by kernel_rfl)
    obtain ⟨_, h4⟩ := trodF hf hx 4 rfl (k := 1) (by kernel_rfl)
    obtain ⟨_, h5⟩ := trodF hf hx 5 rfl (k := 1) (by kernel_rfl)
    obtain ⟨z0, e0⟩ := read_int h0
    obtain ⟨c, e1⟩ := read_call h1
    obtain ⟨r, hr, e2⟩ := read_res h2
    obtain ⟨z3, e3⟩ := read_int h3
    obtain ⟨z4, e4⟩ := read_int h4
    obtain ⟨z5, e5⟩ := read_int h5
    cases e0; cases e1; cases e2; cases e3; cases e4; cases e5
    exact ⟨⟨⟨z0, c, r.r, z3, z4, z5⟩, r.ea, r.ec⟩, hr, rfl⟩
theorem read_dones {v : Value} (h : DataW.trod enc Tryz.prog w base (fun _ => true) held n 28 [v] = some x) : ∃ l : List DP, DnS (heapOf w) v l ∧ l.length ≤ maxLen := by
  obtain ⟨l, h1, h2, h3⟩ := open_rows (R := DP.row) (G := fun d => EvS (heapOf w) d.ev d.d.res.evs) (sz := 13) Tryz.underlying28 (by kernel_rfl) (by omega) (fun _ => rfl) (fun n cs y hy => read_done hy) h
  exact ⟨l, ⟨h1, h2⟩, h3⟩
theorem read_ints {v : Value} (h : DataW.trod enc Tryz.prog w base (fun _ => true) held n 31 [v] = some x) : ∃ l : List Int, IntS (heapOf w) v l ∧ l.length ≤ maxLen := by
  obtain ⟨l, h1, _, h2⟩ := open_rows (R := intR) (G := fun _ => True) (sz := 1) Tryz.underlying31 (by kernel_rfl) (by omega) (fun _ => rfl) (fun n cs y hy => by
    obtain ⟨e, he⟩ := read_int hy
    exact ⟨e, trivial, he⟩) h
  exact ⟨l, h1, h2⟩
theorem own : ownKnob Tryz.prog.godebug = none := by kernel_rfl
theorem laidOut : laidOutB Tryz.prog = true := by kernel_rfl
theorem maxLen_le : maxLen ≤ 9223372036854775807 := by decide
variable {r : Reach} {v : Value} {d : DataW Hh} {ps : List MemPlace}
theorem arg_dones (hval : Value.okWide Tryz.prog w r base 28 v) (h : DataW.Trod enc Tryz.prog w 0 (fun _ => true) true 28 v d ps) : ∃ l : List DP, DnS (heapOf w) v l ∧ l.length ≤ 9223372036854775807 := by
  obtain ⟨a, len, cap, rfl⟩ := okWide_slice Tryz.underlying28 hval
  obtain ⟨fuel, hf⟩ := h
  obtain ⟨l, h1, h2⟩ := read_dones hf
  exact ⟨l, h1, Nat.le_trans h2 maxLen_le⟩
theorem arg_ints (hval : Value.okWide Tryz.prog w r base 31 v) (h : DataW.Trod enc Tryz.prog w 0 (fun _ => true) true 31 v d ps) : ∃ l : List Int, IntS (heapOf w) v l ∧ l.length ≤ 9223372036854775807 := by
  obtain ⟨a, len, cap, rfl⟩ := okWide_slice Tryz.underlying31 hval
  obtain ⟨fuel, hf⟩ := h
  obtain ⟨l, h1, h2⟩ := read_ints hf
  exact ⟨l, h1, Nat.le_trans h2 maxLen_le⟩
theorem arg_done (hval : Value.okWide Tryz.prog w r base 40 v) (h : DataW.Trod enc Tryz.prog w 0 (fun _ => true) true 40 v d ps) : ∃ x : DP, v = x.val := by
  obtain ⟨cs, rfl, _⟩ := okWide_struct Tryz.underlying40 hval
  obtain ⟨fuel, hf⟩ := h
  obtain ⟨x, _, hx⟩ := read_done hf
  refine ⟨x, ?_⟩
  have hx : cs.toList = x.row := hx
  rw [DP.val, ← hx]
theorem arg_calls (hval : Value.okWide Tryz.prog w r base 22 v) (h : DataW.Trod enc Tryz.prog w 0 (fun _ => true) true 22 v d ps) : ∃ l : List PQ.Call, Sl (heapOf w) 5 v (l.map callL) ∧ l.length ≤ 9223372036854775807 := by
  obtain ⟨a, len, cap, rfl⟩ := okWide_slice Tryz.underlying22 hval
  obtain ⟨fuel, hf⟩ := h
  obtain ⟨l, h1, _, h2⟩ := open_rows (R := callL) (G := fun _ => True) (sz := 5) Tryz.underlying22 (by kernel_rfl) (by omega) (fun _ => rfl) (fun n cs y hy => by
    obtain ⟨e, he⟩ := read_call hy
    exact ⟨e, trivial, he⟩) hf
  exact ⟨l, h1, Nat.le_trans h2 maxLen_le⟩
theorem arg_ress (hval : Value.okWide Tryz.prog w r base 87 v) (h : DataW.Trod enc Tryz.prog w 0 (fun _ => true) true 87 v d ps) : ∃ l : List RP, (Sl (heapOf w) 4 v (l.map RP.row) ∧ ∀ x ∈ l, x.ok (heapOf w)) ∧ l.length ≤ 9223372036854775807 := by
  obtain ⟨a, len, cap, rfl⟩ := okWide_slice Tryz.underlying87 hval
  obtain ⟨fuel, hf⟩ := h
  obtain ⟨l, h1, h3, h2⟩ := open_rows (R := RP.row) (G := fun x => x.ok (heapOf w)) (sz := 4) Tryz.underlying87 (by kernel_rfl) (by omega) (fun _ => rfl) (fun n cs y hy => read_res hy) hf
  exact ⟨l, ⟨h1, h3⟩, Nat.le_trans h2 maxLen_le⟩
end
end Go.Proofs.YtbdoinigeaaclaaGreat
