/- The laws' own small functions: capacities, picks, few calls. Conditions: slices are short.
   The laws' picks. Conditions: there are at most 300.
   The laws' scripts. Conditions: there are at most 24 calls. -/
import Derived.Test.YtbdoinigeaaclaaGreatB20
set_option linter.all false
set_option maxRecDepth 20000
namespace Go.Proofs.YtbdoinigeaaclaaGreat
open Go RL PQ
variable {g : World} {h h' : Hp} {w : World} {L : List (Nat × Obj)}
theorem min2O {P : Program} {d : Option Tmp} {x y : Operand} {ts : Array TypeId} {ty : TypeId} {pos : String} {af : Array Edge} {gd : Option (Nat × Bool)} {e : Env} {a b : Int}
    (hx : ev e x = .int .i64 a) (hy : ev e y = .int .i64 b) {K : Value → Prop} (k : K (.int .i64 (if b < a then b else a))) : PurO P ⟨d, .call ⟨.builtin .min, #[x, y], ts⟩, ty, pos, af, gd⟩ e K := by
  refine ⟨⟨_, fun w => ?_, k⟩⟩
  simp [execOp, resolve, invoke, Go.builtin, Builtin.min_, Builtin.min2, hx, hy]
theorem max2O {P : Program} {d : Option Tmp} {x y : Operand} {ts : Array TypeId} {ty : TypeId} {pos : String} {af : Array Edge} {gd : Option (Nat × Bool)} {e : Env} {a b : Int}
    (hx : ev e x = .int .i64 a) (hy : ev e y = .int .i64 b) {K : Value → Prop} (k : K (.int .i64 (if a < b then b else a))) : PurO P ⟨d, .call ⟨.builtin .max, #[x, y], ts⟩, ty, pos, af, gd⟩ e K := by
  refine ⟨⟨_, fun w => ?_, k⟩⟩
  simp [execOp, resolve, invoke, Go.builtin, Builtin.max_, Builtin.max2, hx, hy]
theorem lawCap (H : St g h w L) {n : Nat} (hn : n ≤ 255) : Ret Tryz.prog 8 [.int .u8 (n : Int)] w fun v w' => v = .int .i64 ((n % 6 + 1 : Nat) : Int) ∧ St g h w' L := by
  refine Ret.enter tabOk Tryz.func8 rfl (by rfl) rfl (by rfl) (by kernel_rfl) ?_
  refine ArO.i64 ?_ (by omega) (by omega)
  refine ⟨⟨by decide, ?_⟩⟩
  have e : ((n : Int)).tmod 6 = ((n % 6 : Nat) : Int) := by rw [Int.tmod_eq_emod_of_nonneg (by omega)]; simp
  rw [e]
  refine ArO.i64 ?_ (by omega) (by omega)
  exact ⟨rfl, H⟩
theorem lawFew (H : St g h w L) {v : Value} {cs : List PQ.Call} (hs : Sl h 5 v (cs.map callL)) : Ret Tryz.prog 14 [v] w fun v w' => Sl h 5 v ((cs.take 7).map callL) ∧ St g h w' L := by
  obtain ⟨a, cp, rfl⟩ := hs.lenM
  refine Ret.enter tabOk Tryz.func14 rfl (by rfl) rfl (by rfl) (by kernel_rfl) ?_
  refine min2O rfl rfl ?_
  have em : (if (7 : Int) < (cs.length : Int) then (7 : Int) else (cs.length : Int)) = ((min cs.length 7 : Nat) : Int) := by split <;> omega
  rw [em]
  refine Sl.takeO (n := min cs.length 7) hs (by rw [List.length_map]; exact Nat.min_le_left _ _) fun v' hs' => ?_
  refine ⟨?_, H⟩
  rw [← List.map_take] at hs'
  have e : cs.take (min cs.length 7) = cs.take 7 := by rw [Nat.min_comm, ← List.take_take, List.take_length]
  rw [e] at hs'
  exact hs'
end Go.Proofs.YtbdoinigeaaclaaGreat
set_option maxRecDepth 20000
namespace Go.Proofs.YtbdoinigeaaclaaGreat
open Go RL PQ
variable {g : World} {h h' : Hp} {w : World} {L : List (Nat × Obj)}
def u8R (x : Nat) : List Value := [.int .u8 (x : Int)]
structure PickS where
  i : Nat
  a : Option Addr
  c : Nat
  x : List (Nat × Obj)
set_option maxHeartbeats 1000000 in
theorem lawPicks (H : St g h w L) {pv sv : Value} {ps : List Nat} {l : List SP} (hp : Sl h 1 pv (ps.map u8R)) (hs : ScS h sv l) (h1 : 1 ≤ l.length) (h2 : l.length ≤ 1000) (h3 : ps.length ≤ 1000) (hb8 : ∀ i (hi : i < ps.length), ps[i] ≤ 255) :
    Ret Tryz.prog 10 [pv, sv] w fun v w' => ∃ h', h.le h' ∧ IntS h' v ((ps.map fun p => p % l.length).map fun (n : Nat) => (n : Int)) ∧ St g h' w' L := by
  obtain ⟨pa, pc, rfl⟩ := hp.lenM
  obtain ⟨sa, sc, rfl⟩ := hs.sl.lenM
  have hmx : (if (1 : Int) < (l.length : Int) then (l.length : Int) else 1) = (l.length : Int) := by split <;> omega
  refine Ret.enter tabOk Tryz.func10 rfl (by rfl) rfl (by rfl) (by kernel_rfl) ?_
  refine LoopO.run (σ := PickS) (fun s => [(0, .slice pa ps.length pc), (1, .slice sa l.length sc), (5, .slice s.a s.i s.c), (6, .int .i64 (s.i : Int))])
    (fun s w => s.i ≤ ps.length ∧ OwnSl 3 1 (.slice s.a s.i s.c) ((((ps.take s.i).map fun p => p % l.length).map fun (n : Nat) => (n : Int)).map intR) s.x ∧ St g h w (s.x ++ L)) (fun s => ps.length - s.i) ⟨0, none, 0, []⟩ (by exact ⟨rfl, rfl, rfl, rfl, trivial⟩) ⟨Nat.zero_le _, OwnSl.nil _ _, H⟩ ?_
  rintro ⟨i, a, c, x⟩ w e ⟨hi, ho, H⟩
  simp only at hi ho H
  refine CondT.dec (fun hlt => ?_) (fun hge => ?_)
  · have hlt' : i < ps.length := by simp only at hlt; omega
    refine (hp.idxM hlt').elim fun bi q => q.elim fun oi q => ?_
    have hidx := q.1; have hrow := q.2; clear q
    refine hidx _ _ _ rfl ?_
    refine LdO.hc (j := 0) H hrow rfl ?_
    have hb := hb8 i hlt'
    refine ArO.i64 ?_ (by omega) (by omega)
    refine max2O rfl rfl ?_
    rw [hmx]
    refine ⟨⟨by omega, ?_⟩⟩
    have ee : ((ps[i] : Nat) : Int).tmod (l.length : Int) = ((ps[i] % l.length : Nat) : Int) := by rw [Int.tmod_eq_emod_of_nonneg (by omega)]; simp
    rw [ee]
    refine AllocO.own H fun b23 w H => ?_
    have hsrc : Src w 1 (.slice (some ⟨b23, 0, none⟩) 1 1) [intR ((ps[i] % l.length : Nat) : Int)] := H.srcOwn .head (by simp [intR]) rfl rfl
    have H := St.pull (A := [_]) H
    refine RunO.apps (n := i) (m := 1) tabOk rfl rfl rfl rfl rfl rfl rfl H ho hsrc (by simp [oneCells, intR, Value.oneCell']) (by simp; omega) rfl (by omega) fun v w x' ho' H => ?_
    have H := (St.pull (x := [_]) H).tail
    have htk : ((((ps.take i).map fun p => p % l.length).map fun (n : Nat) => (n : Int)).map intR) ++ [intR ((ps[i] % l.length : Nat) : Int)] = ((((ps.take (i + 1)).map fun p => p % l.length).map fun (n : Nat) => (n : Int)).map intR) := by
      rw [List.take_succ_eq_append_getElem hlt', List.map_append, List.map_append, List.map_append]; rfl
    rw [htk] at ho'
    have hln : ((((ps.take (i + 1)).map fun p => p % l.length).map fun (n : Nat) => (n : Int)).map intR).length = i + 1 := by simp; omega
    refine (OwnSl.len ho').elim fun a' q => q.elim fun c' q => ?_
    have q := q.1
    rw [hln] at q
    subst q
    refine ArO.i64 ?_ (by omega) (by omega)
    exact ⟨rfl, ⟨i + 1, a', c', x'⟩, ⟨rfl, rfl, rfl, rfl, trivial⟩, ⟨hlt', ho', H⟩, by simp only; omega⟩
  · have hie : i = ps.length := by simp only at hge; omega
    subst hie
    rw [List.take_length] at ho
    refine (OwnSl.sealIt ho H).elim fun h2 q => ?_
    exact ⟨h2, q.1, q.2.2, q.2.1⟩
end Go.Proofs.YtbdoinigeaaclaaGreat
set_option maxRecDepth 20000
namespace Go.Proofs.YtbdoinigeaaclaaGreat
open Go RL PQ
variable {g : World} {h h' : Hp} {w : World} {L : List (Nat × Obj)}
/-- A script that grows. -/
structure SO where
  a : Option Addr
  c : Nat
  x : List (Nat × Obj)
  cs : List PQ.Call
def SO.row (s : SO) : List Value := [.slice s.a s.cs.length s.c]
def SO.ok (s : SO) : Prop := OwnSl 34 5 (.slice s.a s.cs.length s.c) (s.cs.map callL) s.x
def callsO (l : List SO) : Nat := (l.map fun s => s.cs.length).sum
theorem callsO_set {l : List SO} {i : Nat} (hi : i < l.length) {s : SO} (hs : s.cs.length = l[i].cs.length + 1) : callsO (l.set i s) = callsO l + 1 := by
  unfold callsO
  have e : l = l.take i ++ l[i] :: l.drop (i + 1) := by rw [List.getElem_cons_drop hi, List.take_append_drop]
  have e2 : l.set i s = l.take i ++ s :: l.drop (i + 1) := List.set_eq_take_append_cons_drop .. |>.trans (if_pos hi)
  rw [e2]
  conv => rhs; rw [e]
  simp only [List.map_append, List.map_cons, List.sum_append, List.sum_cons, hs]
  omega
abbrev Outs (bo : Nat) (c : Array Value) (l : List SO) (n : Nat) : Prop := OwnSl 22 1 (.slice (some ⟨bo, 0, none⟩) n n) (l.map SO.row) [(bo, .cells c 22 (0, 0))]
def outB (bo : Nat) (c : Array Value) : Nat × Obj := (bo, .cells c 22 (0, 0))
structure ScS0 where
  i : Nat
  c : Array Value
  l : List SO
/-- The scripts, sealed one by one. -/
theorem seal_all : ∀ (l : List SO) {h : Hp} {L : List (Nat × Obj)}, (∀ s ∈ l, s.ok) → St g h w ((l.flatMap SO.x) ++ L) → ∃ h', h.le h' ∧ St g h' w L ∧ ∀ s ∈ l, Sl h' 5 (.slice s.a s.cs.length s.c) (s.cs.map callL)
  | [], h, L, _, H => ⟨h, Hp.le_refl h, H, fun s hs => absurd hs List.not_mem_nil⟩
  | s :: l, h, L, hok, H => by
    have H2 : St g h w (s.x ++ (l.flatMap SO.x ++ L)) := by
      rw [List.flatMap_cons, List.append_assoc] at H; exact H
    obtain ⟨h1, hl1, H3, hs1⟩ := OwnSl.sealIt (hok s (.head _)) H2
    obtain ⟨h2, hl2, H4, hs2⟩ := seal_all l (fun t ht => hok t (.tail _ ht)) H3
    refine ⟨h2, Hp.le_trans hl1 hl2, H4, fun t ht => ?_⟩
    rcases List.mem_cons.1 ht with rfl | ht
    · exact hs1.le hl2
    · exact hs2 t ht
def ScrP (g : World) (h : Hp) (n k : Nat) (L : List (Nat × Obj)) (v : Value) (w : World) : Prop :=
  ∃ (h' : Hp) (l : List SP), h.le h' ∧ l.length = n ∧ callsN l ≤ k ∧ ScS h' v l ∧ St g h' w L
def findReg (k : Nat) : Code → Option Code
  | .region i ops d => match Nat.beq i k with
    | true => some (.region i ops d)
    | false => none
  | .seq a b => match findReg k a with
    | some c => some c
    | none => findReg k b
  | .cond _ a b => match findReg k a with
    | some c => some c
    | none => findReg k b
  | .block _ c => findReg k c
  | .loop c => findReg k c
  | .scope c => findReg k c
  | _ => none
noncomputable def scrReg (k : Nat) : Code := match Tryz.f7.body with
  | some c => match findReg k c with
    | some r => r
    | none => .skip
  | none => .skip
def ScrI (g : World) (h : Hp) (L : List (Nat × Obj)) (a : Option Addr) (cp k n bo b8 i : Nat) (c : Array Value) (l : List SO) (e : Env) (ds : List Deferred) (w : World) : Prop :=
  ds = [] ∧ e 1 = .slice a k cp ∧ e 5 = .int .i64 (n : Int) ∧ e 6 = .slice (some ⟨bo, 0, none⟩) n n ∧ e 7 = .int .i64 (i : Int) ∧ e 8 = .pointer (some ⟨b8, 0, none⟩) ∧
    ∃ c' : PQ.Call, St g h w ((b8, .cells (callL c').toArray 34 (0, 0)) :: outB bo c :: (l.flatMap SO.x ++ L))
def fiveE (e : Env) (a : Option Addr) (cp k n bo b8 i : Nat) : Env := RL.upd (RL.upd (RL.upd (RL.upd (RL.upd e 1 (.slice a k cp)) 5 (.int .i64 (n : Int))) 6 (.slice (some ⟨bo, 0, none⟩) n n)) 7 (.int .i64 (i : Int))) 8 (.pointer (some ⟨b8, 0, none⟩))
theorem five {e : Env} {a : Option Addr} {cp k n bo b8 i : Nat} (h1 : e 1 = .slice a k cp) (h5 : e 5 = .int .i64 (n : Int)) (h6 : e 6 = .slice (some ⟨bo, 0, none⟩) n n) (h7 : e 7 = .int .i64 (i : Int)) (h8 : e 8 = .pointer (some ⟨b8, 0, none⟩)) : fiveE e a cp k n bo b8 i = e := by
  unfold fiveE
  rw [upd_self e h1, upd_self e h5, upd_self e h6, upd_self e h7, upd_self e h8]
theorem callsO_at {l : List SO} {i : Nat} (hi : i < l.length) : l[i].cs.length ≤ callsO l := by
  unfold callsO
  conv => rhs; rw [show l = l.take i ++ l[i] :: l.drop (i + 1) by rw [List.getElem_cons_drop hi, List.take_append_drop]]
  simp only [List.map_append, List.map_cons, List.sum_append, List.sum_cons]
  omega
theorem callsO_zero (n : Nat) : callsO (List.replicate n ⟨none, 0, [], []⟩) = 0 := by
  unfold callsO; rw [List.map_replicate]
  induction n with
  | zero => rfl
  | succ n ih => rw [List.replicate_succ, List.sum_cons, ih]; rfl
theorem flat_zero (n : Nat) : (List.replicate n (⟨none, 0, [], []⟩ : SO)).flatMap SO.x = [] := by
  rw [List.flatMap_eq_nil_iff]
  intro x hx
  rw [List.eq_of_mem_replicate hx]
theorem outs_zero (bo n : Nat) : Outs bo (RL.repL n [.slice none 0 0]).toArray (List.replicate n ⟨none, 0, [], []⟩) n := by
  refine ⟨fun r hr => ?_, .inr ⟨bo, _, n, by simp, by simp, ?_, ?_, rfl⟩⟩
  · rw [List.map_replicate] at hr; rw [List.eq_of_mem_replicate hr]; exact ⟨rfl, rfl⟩
  · rw [List.size_toArray, repL_length]; rfl
  · rw [List.map_replicate, List.length_replicate, repL_flat]
    exact List.take_of_length_le (by rw [List.length_flatten]; simp [SO.row])
theorem flat_at {l : List SO} {j : Nat} (hj : j < l.length) (f : Nat × Obj → Nat) : ((l.flatMap SO.x).map f).sum = (((l.take j).flatMap SO.x).map f).sum + ((l[j].x.map f).sum + (((l.drop (j + 1)).flatMap SO.x).map f).sum) := by
  conv => lhs; rw [show l = l.take j ++ l[j] :: l.drop (j + 1) by rw [List.getElem_cons_drop hj, List.take_append_drop]]
  simp only [List.flatMap_append, List.flatMap_cons, List.map_append, List.sum_append]
theorem flat_set {l : List SO} {j : Nat} (hj : j < l.length) (s : SO) (f : Nat × Obj → Nat) : (((l.set j s).flatMap SO.x).map f).sum = (((l.take j).flatMap SO.x).map f).sum + ((s.x.map f).sum + (((l.drop (j + 1)).flatMap SO.x).map f).sum) := by
  rw [List.set_eq_take_append_cons_drop, if_pos hj]
  simp only [List.flatMap_append, List.flatMap_cons, List.map_append, List.sum_append]
set_option maxHeartbeats 4000000 in
theorem lawScripts (H : St g h w L) {rv : Value} {raw : List PQ.Call} (hs : Sl h 5 rv (raw.map callL)) (hr : raw.length ≤ 7) {t : Nat} (ht : t ≤ 255) :
    Ret Tryz.prog 7 [.int .u8 (t : Int), rv] w (ScrP g h (t % 4 + 1) raw.length L) := by
  obtain ⟨a, cp, rfl⟩ := hs.lenM
  obtain ⟨n, hn⟩ : ∃ n, n = t % 4 + 1 := ⟨_, rfl⟩
  have hn1 : 1 ≤ n := by omega
  have hn4 : n ≤ 4 := by omega
  rw [← hn]
  have e1 : ((t : Int)).tmod 4 + 1 = (n : Int) := by rw [Int.tmod_eq_emod_of_nonneg (by omega)]; omega
  refine Ret.enter tabOk Tryz.func7 rfl (by rfl) rfl (by rfl) (by kernel_rfl) ?_
  refine ArO.i64 ?_ (by omega) (by omega)
  refine ⟨⟨by decide, ?_⟩⟩
  refine ArO.i64 ?_ (by omega) (by omega)
  rw [e1]
  refine ⟨⟨n, n, .i64, .i64, rfl, rfl, Nat.le_refl n, by omega, by show 24 * n ≤ _; omega, ?_⟩⟩
  refine AllocO.own H fun bo w H => ?_
  have H : St g h w (outB bo (RL.repL n [.slice none 0 0]).toArray :: L) := H
  refine LoopO.run (σ := ScS0) (fun s => [(1, .slice a raw.length cp), (5, .int .i64 (n : Int)), (6, .slice (some ⟨bo, 0, none⟩) n n), (7, .int .i64 (s.i : Int))])
    (fun s w => s.i ≤ raw.length ∧ s.l.length = n ∧ callsO s.l ≤ s.i ∧ (∀ x ∈ s.l, x.ok) ∧ Outs bo s.c s.l n ∧ St g h w (outB bo s.c :: (s.l.flatMap SO.x ++ L)))
    (fun s => raw.length - s.i) ⟨0, (RL.repL n [.slice none 0 0]).toArray, List.replicate n ⟨none, 0, [], []⟩⟩ (by exact ⟨rfl, rfl, rfl, rfl, trivial⟩) ⟨Nat.zero_le _, by simp, by rw [callsO_zero]; exact Nat.le_refl 0, fun x hx => by rw [List.eq_of_mem_replicate hx]; exact OwnSl.nil _ _, outs_zero bo n, by rw [flat_zero]; exact H⟩ ?_
  rintro ⟨i, c, l⟩ w e ⟨hi, hln, hcs, hok, ho, H⟩
  simp only at hi hln hcs hok ho H
  refine CondT.dec (fun hlt => ?_) (fun hge => ?_)
  · have hlt' : i < raw.length := by simp only at hlt; omega
    have hmod : ((i : Nat) : Int).tmod (n : Int) = ((i % n : Nat) : Int) := by rw [Int.tmod_eq_emod_of_nonneg (by omega)]; simp
    have hjn : i % n < n := Nat.mod_lt _ (by omega)
    have hjl : i % n < l.length := by rw [hln]; exact hjn
    have hjr : i % n < (l.map SO.row).length := by rw [List.length_map]; exact hjl
    have hjrow : (l.map SO.row)[i % n] = (l[i % n]'hjl).row := List.getElem_map ..
    have hc0 : c.toList[(i % n) * 1]? = some (.slice (l[i % n]'hjl).a (l[i % n]'hjl).cs.length (l[i % n]'hjl).c) := by
      have h5 := OwnSl.read ho hjr (j := 0) (by decide)
      rw [hjrow] at h5
      exact h5
    have hlj := callsO_at hjl
    have hokj : OwnSl 34 5 (.slice (l[i % n]'hjl).a (l[i % n]'hjl).cs.length (l[i % n]'hjl).c) ((l[i % n]'hjl).cs.map callL) (l[i % n]'hjl).x := hok _ (List.getElem_mem hjl)
    have hl16 : (((l[i % n]'hjl).cs.length : Nat) : Int) < 16 := by omega
    refine CondT.of (u := true) (decide_eq_true (by show (i : Int) < 24; omega)) ?_
    refine (hs.idxM hlt').elim fun bi q => q.elim fun oi q => ?_
    have hidx := q.1; have hrow := q.2; clear q
    refine hidx _ _ _ rfl ?_
    refine LdO.hcs (j := 0) H hrow rfl ?_
    refine AllocO.own H fun b8 w H => ?_
    refine StO.own H .head rfl rfl rfl fun w H => ?_
    refine hidx _ _ _ rfl ?_
    refine LdO.hc (j := 0) H hrow rfl ?_
    refine ⟨⟨by decide, ?_⟩⟩
    refine ⟨?_⟩
    refine ⟨⟨by decide, ?_⟩⟩
    refine StO.own H .head rfl rfl rfl fun w H => ?_
    have HH : ∃ c' : PQ.Call, St g h w ((b8, .cells (callL c').toArray 34 (0, 0)) :: outB bo c :: (l.flatMap SO.x ++ L)) := ⟨⟨_, raw[i].time, raw[i].handle, raw[i].max, raw[i].bound⟩, H⟩
    refine HH.elim fun c' H => ?_
    refine hidx _ _ _ rfl ?_
    refine LdO.hc (j := 1) H hrow rfl ?_
    refine ⟨⟨by decide, ?_⟩⟩
    refine CondT.cut (P := Tryz.prog) (tab := tab) (A := scrReg 9) (B := .skip) (Q := fun _ _ _ _ => False) (ScrI g h L a cp raw.length n bo b8 i c l) rfl rfl (fun _ => ?_) (fun _ => ?_) (fun e ds w q => ?_)
    · refine hidx _ _ _ rfl ?_
      refine LdO.hc (j := 1) H hrow rfl ?_
      refine ⟨⟨by decide, ?_⟩⟩
      refine ⟨?_⟩
      refine ⟨⟨by decide, ?_⟩⟩
      refine StO.own H .head rfl rfl rfl fun w H => ?_
      exact ⟨rfl, rfl, rfl, rfl, rfl, rfl, ⟨c'.kind, (IntKind.i64.wrap (raw[i].time.tmod 60 + 60)).tmod 60, c'.handle, c'.max, c'.bound⟩, H⟩
    · exact ⟨rfl, rfl, rfl, rfl, rfl, rfl, c', H⟩
    refine (q.2.2.2.2.2.2).elim fun c' H => ?_
    have hfe := five q.2.1 q.2.2.1 q.2.2.2.1 q.2.2.2.2.1 q.2.2.2.2.2.1
    have hds := q.1
    clear q
    subst hds
    rw [← hfe]
    refine hidx _ _ _ rfl ?_
    refine LdO.hc (j := 3) H hrow rfl ?_
    refine ⟨⟨by decide, ?_⟩⟩
    refine CondT.cut (P := Tryz.prog) (tab := tab) (A := scrReg 11) (B := .skip) (Q := fun _ _ _ _ => False) (ScrI g h L a cp raw.length n bo b8 i c l) rfl rfl (fun _ => ?_) (fun _ => ?_) (fun e ds w q => ?_)
    · refine hidx _ _ _ rfl ?_
      refine LdO.hc (j := 3) H hrow rfl ?_
      refine ⟨⟨by decide, ?_⟩⟩
      refine ⟨?_⟩
      refine ⟨⟨by decide, ?_⟩⟩
      refine StO.own H .head rfl rfl rfl fun w H => ?_
      exact ⟨rfl, rfl, rfl, rfl, rfl, rfl, ⟨c'.kind, c'.time, c'.handle, (IntKind.i64.wrap (raw[i].max.tmod 5 + 5)).tmod 5, c'.bound⟩, H⟩
    · exact ⟨rfl, rfl, rfl, rfl, rfl, rfl, c', H⟩
    refine (q.2.2.2.2.2.2).elim fun c' H => ?_
    have hfe := five q.2.1 q.2.2.1 q.2.2.2.1 q.2.2.2.2.1 q.2.2.2.2.2.1
    have hds := q.1
    clear q
    subst hds
    rw [← hfe]
    refine hidx _ _ _ rfl ?_
    refine LdO.hc (j := 4) H hrow rfl ?_
    refine ⟨⟨by decide, ?_⟩⟩
    refine CondT.cut (P := Tryz.prog) (tab := tab) (A := scrReg 13) (B := .skip) (Q := fun _ _ _ _ => False) (ScrI g h L a cp raw.length n bo b8 i c l) rfl rfl (fun _ => ?_) (fun _ => ?_) (fun e ds w q => ?_)
    · refine hidx _ _ _ rfl ?_
      refine LdO.hc (j := 4) H hrow rfl ?_
      refine ⟨⟨by decide, ?_⟩⟩
      refine ⟨?_⟩
      refine ⟨⟨by decide, ?_⟩⟩
      refine StO.own H .head rfl rfl rfl fun w H => ?_
      exact ⟨rfl, rfl, rfl, rfl, rfl, rfl, ⟨c'.kind, c'.time, c'.handle, c'.max, (IntKind.i64.wrap (raw[i].bound.tmod 70 + 70)).tmod 70⟩, H⟩
    · exact ⟨rfl, rfl, rfl, rfl, rfl, rfl, c', H⟩
    refine (q.2.2.2.2.2.2).elim fun c' H => ?_
    have hfe := five q.2.1 q.2.2.1 q.2.2.2.1 q.2.2.2.2.1 q.2.2.2.2.2.1
    have hds := q.1
    clear q
    subst hds
    rw [← hfe]
    refine hidx _ _ _ rfl ?_
    refine LdO.hc (j := 2) H hrow rfl ?_
    refine ⟨⟨by decide, ?_⟩⟩
    refine CondT.cut (P := Tryz.prog) (tab := tab) (A := scrReg 15) (B := .skip) (Q := fun _ _ _ _ => False) (ScrI g h L a cp raw.length n bo b8 i c l) rfl rfl (fun _ => ?_) (fun _ => ?_) (fun e ds w q => ?_)
    · refine DrawO.wi H (fun w => w.cell? ⟨bi, oi + 2, none⟩ = some (.int .i64 raw[i].handle)) (fun w H => H.hcell hrow (j := 2) rfl) (pl [0, 1, 2, 3, 4, 5, 6, 7, 8, 9, 10, 11, 12, 13, 14, 15, 1016] .nil) (by kernel_rfl) fun w H => ?_
      refine hidx _ _ _ rfl ?_
      refine LdQ.cell (fun _ hs => hs) ?_
      refine ⟨⟨by decide, ?_⟩⟩
      refine hidx _ _ _ rfl ?_
      refine LdQ.cell (fun _ hs => hs) ?_
      refine ⟨?_⟩
      refine ⟨⟨by decide, ?_⟩⟩
      refine ⟨?_⟩
      refine ⟨?_⟩
      refine StO.own H .head rfl rfl rfl fun w H => ⟨H.hcell hrow (j := 2) rfl, ?_⟩
      exact ⟨rfl, rfl, rfl, rfl, rfl, rfl, ⟨c'.kind, c'.time, IntKind.i64.wrap (IntKind.i64.wrap (0 - (IntKind.i64.wrap (raw[i].handle.tmod 6 * raw[i].handle)).tmod 6) - 1), c'.max, c'.bound⟩, H⟩
    · exact ⟨rfl, rfl, rfl, rfl, rfl, rfl, c', H⟩
    refine (q.2.2.2.2.2.2).elim fun c' H => ?_
    have hfe := five q.2.1 q.2.2.1 q.2.2.2.1 q.2.2.2.2.1 q.2.2.2.2.2.1
    have hds := q.1
    clear q
    subst hds
    rw [← hfe]
    refine ⟨⟨by omega, ?_⟩⟩
    rw [hmod]
    refine IdxO.at0 (i := i % n) rfl hjn ?_
    refine LdO.ownE H (.tail .head) hc0 ?_
    refine CondT.of (u := true) (decide_eq_true hl16) ?_
    have hcc : ∀ {w : World} {h : Hp} {A : List (Nat × Obj)} {k : Nat}, St g h w A → At (b8, .cells (callL c').toArray 34 (0, 0)) k A → Cells w b8 0 (callL c') := fun H ha => H.ocells ha 5
    have hcb : ∀ {w : World} {h : Hp} {A : List (Nat × Obj)} {k : Nat}, St g h w A → At (outB bo c) k A → w.cell? ⟨bo, (i % n) * 1, none⟩ = some (.slice (l[i % n]'hjl).a (l[i % n]'hjl).cs.length (l[i % n]'hjl).c) := fun H ha => H.ocell ha (by rw [nth_eq]; exact hc0)
    refine DrawO.wx H (fun w => w.cell? ⟨bo, (i % n) * 1, none⟩ = some (.slice (l[i % n]'hjl).a (l[i % n]'hjl).cs.length (l[i % n]'hjl).c) ∧ Cells w b8 0 (callL c')) (fun w H => ⟨hcb H (.tail .head), hcc H .head⟩) (fun j => Nat.beq j 14) (by kernel_rfl) (pl [0, 1, 2, 3, 4, 5, 6, 7, 8, 9, 10, 1011, 1012, 13, 1014] .nil) (by kernel_rfl) fun w H => ?_
    refine ⟨⟨by omega, ?_⟩⟩
    rw [hmod]
    refine ⟨⟨by omega, ?_⟩⟩
    rw [hmod]
    refine IdxO.at0 (i := i % n) rfl hjn ?_
    refine LdQ.cell (fun _ hs => hs.1) ?_
    refine LdQ.cellsO (fun _ hs => hs.2) rfl ?_
    refine AllocO.own H fun b128 w H => ⟨⟨hcb H (.tail (.tail .head)), hcc H (.tail .head)⟩, ?_⟩
    have hsrc : Src w 5 (.slice (some ⟨b128, 0, none⟩) 1 1) [callL c'] := H.srcOwn .head (by simp [callL]) rfl rfl
    have H : St g h w ((l[i % n]'hjl).x ++ ((b128, .cells (callL c').toArray 34 (0, 0)) :: (b8, .cells (callL c').toArray 34 (0, 0)) :: outB bo c :: ((l.take (i % n)).flatMap SO.x ++ ((l.drop (i % n + 1)).flatMap SO.x ++ L)))) := by
      have H : St g h w ((b128, .cells (callL c').toArray 34 (0, 0)) :: (b8, .cells (callL c').toArray 34 (0, 0)) :: outB bo c :: (l.flatMap SO.x ++ L)) := H
      refine H.perm (perm_of_sum fun f => ?_)
      simp only [List.map_append, List.map_cons, List.sum_append, List.sum_cons, flat_at hjl f]; omega
    refine RunO.apps (n := (l[i % n]'hjl).cs.length) (m := 1) tabOk rfl rfl rfl rfl rfl rfl rfl H hokj hsrc (by simp [oneCells, callL, Value.oneCell']) (by rw [List.length_map]) rfl (by omega) fun v w x' ho' H => ?_
    have hmap : (l[i % n]'hjl).cs.map callL ++ [callL c'] = ((l[i % n]'hjl).cs ++ [c']).map callL := by rw [List.map_append]; rfl
    rw [hmap] at ho'
    refine (OwnSl.len ho').elim fun a' q => q.elim fun c2 q => ?_
    have q := q.1
    rw [List.length_map] at q
    subst q
    refine (show ∃ s2 : SO, s2 = ⟨a', c2, x', (l[i % n]'hjl).cs ++ [c']⟩ from ⟨_, rfl⟩).elim fun s2 hs2 => ?_
    have hsx : s2.x = x' := by rw [hs2]
    have H : St g h w ((b8, .cells (callL c').toArray 34 (0, 0)) :: outB bo c :: ((l.set (i % n) s2).flatMap SO.x ++ L)) := by
      have H : St g h w ((b128, .cells (callL c').toArray 34 (0, 0)) :: (b8, .cells (callL c').toArray 34 (0, 0)) :: outB bo c :: ((l.set (i % n) s2).flatMap SO.x ++ L)) := by
        refine H.perm (perm_of_sum fun f => ?_)
        simp only [List.map_append, List.map_cons, List.sum_append, List.sum_cons, flat_set hjl s2 f, hsx]; omega
      exact H.tail
    refine ⟨⟨hcb H (.tail .head), hcc H .head⟩, ?_⟩
    refine IdxO.at0 (i := i % n) rfl hjn ?_
    have P1 := OwnSl.part ho hjr (j := 0) (vs := [.slice a' ((l[i % n]'hjl).cs ++ [c']).length c2]) (by show 0 + 1 ≤ 1; decide) rfl (row := s2.row) (by rw [hjrow, hs2]; rfl)
    rw [← List.map_set] at P1
    refine StO.ownE H (.tail .head) rfl rfl P1.1 rfl fun w H => ⟨rfl, ?_⟩
    refine ArO.i64 ?_ (by omega) (by omega)
    refine ⟨rfl, ⟨i + 1, _, l.set (i % n) s2⟩, ⟨rfl, rfl, rfl, rfl, trivial⟩, ⟨hlt', by rw [List.length_set]; exact hln, ?_, fun x hx => ?_, P1.2, H.tail⟩, by simp only; omega⟩
    · show callsO (l.set (i % n) s2) ≤ i + 1
      rw [callsO_set hjl (by rw [hs2]; simp)]; omega
    · rcases List.mem_or_eq_of_mem_set hx with e | e
      · exact hok x e
      · rw [e, hs2]; exact ho'
  · have hie : i = raw.length := by simp only at hge; omega
    refine CondT.mk ?_
    have H2 : St g h w ((l.flatMap SO.x) ++ (outB bo c :: L)) := by
      refine H.perm (perm_of_sum fun f => ?_)
      simp only [List.map_append, List.map_cons, List.sum_append, List.sum_cons]; omega
    have fin : ScrP g h n raw.length L (.slice (some ⟨bo, 0, none⟩) n n) w := by
      obtain ⟨h1, hle1, H3, hsl⟩ := seal_all l hok H2
      obtain ⟨h2, hle2, H4, hs2⟩ := OwnSl.sealIt (L := L) ho H3
      refine ⟨h2, l.map fun s => (⟨s.a, s.c, s.cs⟩ : SP), Hp.le_trans hle1 hle2, by rw [List.length_map]; exact hln, ?_, ⟨?_, fun p hp => ?_⟩, H4⟩
      · have e : callsN (l.map fun s => (⟨s.a, s.c, s.cs⟩ : SP)) = callsO l := by
          unfold callsN callsO; rw [List.map_map, List.map_map]; rfl
        rw [e, ← hie]; exact hcs
      · rw [List.map_map]; exact hs2
      · rw [List.mem_map] at hp
        obtain ⟨s, hs, rfl⟩ := hp
        exact Sl.le (hsl s hs) hle2
    exact fin
end Go.Proofs.YtbdoinigeaaclaaGreat
