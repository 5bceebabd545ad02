/- Handles and words: packing and unpacking. Conditions: generations and slots are small.
   The shared memory: words and mutexes with a log, walked. Conditions: the log is short.
   The shared memory's mutexes, walked. Conditions: the log is short.
   The library's slices functions at the types of the store: cloning, clipping, inserting, binary search. Conditions: slices are short. -/
import Derived.Test.YtbdoinigeaaclaaGreatW6
set_option linter.all false
set_option maxRecDepth 20000
namespace Go.Proofs.YtbdoinigeaaclaaGreat
open Go RL PQ
variable {g : World} {h : Hp} {w : World} {L : List (Nat × Obj)}
theorem hWord (H : St g h w L) {gen st : Int} (h0 : 0 ≤ gen) (h1 : gen ≤ 1125899906842624) (h2 : 0 ≤ st) (h3 : st < 4) :
    Ret Tryz.prog 121 [.int .i64 gen, .int .i64 st] w fun v w' => v = .int .i64 (wordOf gen st) ∧ St g h w' L := by
  refine Ret.enter tabOk Tryz.func121 rfl (by rfl) rfl (by rfl) (by kernel_rfl) ?_
  refine PurO.shlU rfl rfl (by omega) (by omega) ?_
  obtain ⟨a, rfl⟩ := Int.eq_ofNat_of_zero_le h0
  obtain ⟨s, rfl⟩ := Int.eq_ofNat_of_zero_le h2
  have e : IntKind.i64.wrap ((a : Int) * 2 ^ (2 : Int).toNat) = ((2 ^ 2 * a : Nat) : Int) := by
    rw [wrap64_ok _ (by show _ ≤ (a : Int) * 4; omega) (by show (a : Int) * 4 ≤ _; omega)]
    show (a : Int) * 4 = ((4 * a : Nat) : Int)
    omega
  rw [e]
  refine PurO.orI rfl rfl (by show 4 * a < _; omega) (by omega) ?_
  refine ⟨congrArg (Value.int .i64) ?_, H⟩
  rw [or_low _ _ _ (by show s < 4; omega)]
  show ((4 * a + s : Nat) : Int) = (a : Int) * 4 + s
  omega
theorem hMake (H : St g h w L) {slot gen : Int} (h0 : 0 ≤ gen) (h1 : gen ≤ 1125899906842624) (h2 : 0 ≤ slot) (h3 : slot < 64) :
    Ret Tryz.prog 122 [.int .i64 slot, .int .i64 gen] w fun v w' => v = .int .i64 (hdlOf slot gen) ∧ St g h w' L := by
  refine Ret.enter tabOk Tryz.func122 rfl (by rfl) rfl (by rfl) (by kernel_rfl) ?_
  refine PurO.shlU rfl rfl (by omega) (by omega) ?_
  obtain ⟨a, rfl⟩ := Int.eq_ofNat_of_zero_le h0
  obtain ⟨s, rfl⟩ := Int.eq_ofNat_of_zero_le h2
  have e : IntKind.i64.wrap ((a : Int) * 2 ^ (6 : Int).toNat) = ((2 ^ 6 * a : Nat) : Int) := by
    rw [wrap64_ok _ (by show _ ≤ (a : Int) * 64; omega) (by show (a : Int) * 64 ≤ _; omega)]
    show (a : Int) * 64 = ((64 * a : Nat) : Int)
    omega
  rw [e]
  refine PurO.orI rfl rfl (by show 64 * a < _; omega) (by omega) ?_
  refine ⟨congrArg (Value.int .i64) ?_, H⟩
  rw [or_low _ _ _ (by show s < 64; omega)]
  show ((64 * a + s : Nat) : Int) = (a : Int) * 64 + s
  omega
theorem hHigh (H : St g h w L) (a : Int) {n : Nat} (hn : n ≤ 60) :
    Ret Tryz.prog 144 [.int .i64 a, .int .i64 n] w fun v w' => v = .int .i64 (a / 2 ^ n) ∧ St g h w' L := by
  refine Ret.enter tabOk Tryz.func144 rfl (by rfl) rfl (by rfl) (by kernel_rfl) ?_
  refine ⟨⟨by omega, ?_⟩⟩
  refine ⟨congrArg (Value.int .i64) ?_, H⟩
  have : min (n : Int).toNat IntKind.i64.bits = n := by rw [Int.toNat_natCast]; exact Nat.min_eq_left (by show n ≤ 64; omega)
  rw [this, Int.fdiv_eq_ediv_of_nonneg]
  exact Int.le_of_lt (Int.pow_pos (by omega))
theorem hLow (H : St g h w L) {a : Int} (h0 : 0 ≤ a) (h1 : a ≤ 1125899906842624) {n : Nat} (hn : n ≤ 20) :
    Ret Tryz.prog 125 [.int .i64 a, .int .i64 n] w fun v w' => v = .int .i64 (a % 2 ^ n) ∧ St g h w' L := by
  refine Ret.enter tabOk Tryz.func125 rfl (by rfl) rfl (by rfl) (by kernel_rfl) ?_
  refine ⟨⟨by omega, ?_⟩⟩
  obtain ⟨a, rfl⟩ := Int.eq_ofNat_of_zero_le h0
  have hm : min (n : Int).toNat IntKind.i64.bits = n := by rw [Int.toNat_natCast]; exact Nat.min_eq_left (by show n ≤ 64; omega)
  have hp : 2 ^ n ≤ 2 ^ 20 := Nat.pow_le_pow_right (by omega) hn
  have hp0 : 0 < 2 ^ n := Nat.pow_pos (by omega)
  have e : IntKind.i64.wrap ((1 : Int) * 2 ^ (min (n : Int).toNat IntKind.i64.bits)) = ((2 ^ n : Nat) : Int) := by
    rw [hm, Int.one_mul]
    have : ((2 : Int) ^ n) = ((2 ^ n : Nat) : Int) := by simp
    rw [this]
    exact wrap64_ok _ (by omega) (by omega)
  rw [e]
  refine ArO.i64 ?_
  have e2 : ((2 ^ n : Nat) : Int) - 1 = ((2 ^ n - 1 : Nat) : Int) := by omega
  rw [e2]
  refine PurO.andI rfl rfl (by omega) (by omega) ?_
  refine ⟨congrArg (Value.int .i64) ?_, H⟩
  rw [Nat.and_two_pow_sub_one_eq_mod]
  simp
theorem hGen (H : St g h w L) (a : Int) : Ret Tryz.prog 133 [.int .i64 a] w fun v w' => v = .int .i64 (genOf a) ∧ St g h w' L := by
  refine Ret.enter tabOk Tryz.func133 rfl (by rfl) rfl (by rfl) (by kernel_rfl) ?_
  refine (hHigh H a (n := 2) (by omega)).mono ?_; rintro _ w ⟨rfl, H⟩
  exact ⟨rfl, H⟩
theorem hState (H : St g h w L) {a : Int} (h0 : 0 ≤ a) (h1 : a ≤ 1125899906842624) : Ret Tryz.prog 189 [.int .i64 a] w fun v w' => v = .int .i64 (stOf a) ∧ St g h w' L := by
  refine Ret.enter tabOk Tryz.func189 rfl (by rfl) rfl (by rfl) (by kernel_rfl) ?_
  refine (hLow H h0 h1 (n := 2) (by omega)).mono ?_; rintro _ w ⟨rfl, H⟩
  exact ⟨rfl, H⟩
theorem hValid (H : St g h w L) (a : Int) : Ret Tryz.prog 71 [.int .i64 a] w fun v w' => v = .bool (validH a) ∧ St g h w' L := by
  refine Ret.enter tabOk Tryz.func71 rfl (by rfl) rfl (by rfl) (by kernel_rfl) ?_
  refine CondT.dec (fun h1 => ?_) (fun h1 => ?_)
  · exact ⟨Eq.trans (b := .bool (decide (a ≤ 70368744177727))) rfl (by rw [validH, decide_eq_true (show 0 ≤ a from h1), Bool.true_and]), H⟩
  · exact ⟨Eq.trans (b := .bool false) rfl (by rw [validH, decide_eq_false (show ¬ 0 ≤ a from h1)]; rfl), H⟩
theorem hSlot (H : St g h w L) (a : Int) : Ret Tryz.prog 113 [.int .i64 a] w fun v w' => v = .int .i64 (slotOf a) ∧ St g h w' L := by
  have field : Ret Tryz.prog 124 [.int .i64 a, .func (.func 125) #[.int .i64 a] #[]] w fun v w' => v = .int .i64 (slotOf a) ∧ St g h w' L := by
    refine Ret.enter tabOk Tryz.func124 rfl (by rfl) rfl (by rfl) (by kernel_rfl) ?_
    refine (hValid H a).mono ?_; rintro _ w ⟨rfl, H⟩
    refine CondT.bool (fun h1 => ?_) (fun h1 => ?_)
    · have h1 : validH a = false := by simpa using h1
      exact ⟨Eq.trans (b := .int .i64 (-1)) rfl (by rw [slotOf, h1]; rfl), H⟩
    · have h1 : validH a = true := by simpa using h1
      have hb : 0 ≤ a ∧ a ≤ 70368744177727 := by simpa [validH] using h1
      refine (hLow H hb.1 (by omega) (n := 6) (by omega)).mono ?_; rintro _ w ⟨rfl, H⟩
      exact ⟨Eq.trans (b := .int .i64 (a % 2 ^ 6)) rfl (by rw [slotOf, if_pos h1]; rfl), H⟩
  refine Ret.enter tabOk Tryz.func113 rfl (by rfl) rfl (by rfl) (by kernel_rfl) ?_
  refine field.mono ?_; rintro _ w ⟨rfl, H⟩
  exact ⟨rfl, H⟩
theorem hGeneration (H : St g h w L) (a : Int) : Ret Tryz.prog 186 [.int .i64 a] w fun v w' => v = .int .i64 (hgenOf a) ∧ St g h w' L := by
  have field : Ret Tryz.prog 124 [.int .i64 a, .func (.func 144) #[.int .i64 a] #[]] w fun v w' => v = .int .i64 (hgenOf a) ∧ St g h w' L := by
    refine Ret.enter tabOk Tryz.func124 rfl (by rfl) rfl (by rfl) (by kernel_rfl) ?_
    refine (hValid H a).mono ?_; rintro _ w ⟨rfl, H⟩
    refine CondT.bool (fun h1 => ?_) (fun h1 => ?_)
    · have h1 : validH a = false := by simpa using h1
      exact ⟨Eq.trans (b := .int .i64 (-1)) rfl (by rw [hgenOf, h1]; rfl), H⟩
    · have h1 : validH a = true := by simpa using h1
      refine (hHigh H a (n := 6) (by omega)).mono ?_; rintro _ w ⟨rfl, H⟩
      exact ⟨Eq.trans (b := .int .i64 (a / 2 ^ 6)) rfl (by rw [hgenOf, if_pos h1]; rfl), H⟩
  refine Ret.enter tabOk Tryz.func186 rfl (by rfl) rfl (by rfl) (by kernel_rfl) ?_
  refine field.mono ?_; rintro _ w ⟨rfl, H⟩
  exact ⟨rfl, H⟩
end Go.Proofs.YtbdoinigeaaclaaGreat
set_option maxRecDepth 20000
namespace Go.Proofs.YtbdoinigeaaclaaGreat
open Go RL PQ
variable {g : World} {h : Hp} {w : World} {L : List (Nat × Obj)}
/-- Where the memory lies: its struct, its words, its mutexes. -/
structure MB where
  bm : Nat
  bw : Nat
  bx : Nat
/-- The log, and the violations counted. -/
structure LG where
  la : Option Addr
  ln : Nat
  lc : Nat
  xl : List (Nat × Obj)
  vi : Int
def muR : Option Int → List Value
  | none => [.bool false, .int .i64 0]
  | some t => [.bool true, .int .i64 t]
def memRow (B : MB) (G : LG) (nw nm : Nat) : List Value := [.slice G.la G.ln G.lc, .int .i64 G.vi, .slice (some ⟨B.bw, 0, none⟩) nw nw, .slice (some ⟨B.bx, 0, none⟩) nm nm]
/-- The memory's own blocks. -/
def memL (B : MB) (G : LG) (ws : List Int) (ms : List (Option Int)) (R : List (Nat × Obj)) : List (Nat × Obj) :=
  (B.bm, .cells (memRow B G ws.length ms.length).toArray 147 (0, 0)) :: (B.bw, .cells (ws.map fun z => .int .i64 z).toArray 3 (0, 0)) :: (B.bx, .cells (ms.flatMap muR).toArray 184 (0, 0)) :: (G.xl ++ R)
structure LG.ok (G : LG) (N : Nat) : Prop where
  own : ∃ rows, OwnSl 193 6 (.slice G.la G.ln G.lc) rows G.xl ∧ rows.length = G.ln
  le : G.ln ≤ N
theorem LG.ok.mono {G : LG} {N M : Nat} (h : G.ok N) (hm : N ≤ M) : G.ok M := ⟨h.own, Nat.le_trans h.le hm⟩
set_option maxHeartbeats 2000000 in
theorem record (B : MB) {G : LG} {ws : List Int} {ms : List (Option Int)} {N : Nat} (H : St g h w (memL B G ws ms L)) (hg : G.ok N) (hN : N ≤ 500000) (t k i b a : Int) (ok : Bool) :
    Ret Tryz.prog 101 [.pointer (some ⟨B.bm, 0, none⟩), .int .i64 t, .int .i64 k, .int .i64 i, .int .i64 b, .int .i64 a, .bool ok] w fun _ w' => ∃ G', G'.ok (N + 1) ∧ G'.vi = G.vi ∧ St g h w' (memL B G' ws ms L) := by
  obtain ⟨rows, ho, hl⟩ := hg.own
  have hle := hg.le
  refine Ret.enter tabOk Tryz.func101 rfl (by rfl) rfl (by rfl) (by kernel_rfl) ?_
  have H : St g h w ((B.bm, .cells (memRow B G ws.length ms.length).toArray 147 (0, 0)) :: (B.bw, .cells (ws.map fun z => .int .i64 z).toArray 3 (0, 0)) :: (B.bx, .cells (ms.flatMap muR).toArray 184 (0, 0)) :: (G.xl ++ L)) := H
  refine LdO.own H .head rfl ?_
  refine AllocO.own H fun b26 w H => ?_
  have hsrc : Src w 6 (.slice (some ⟨b26, 0, none⟩) 1 1) [[.int .i64 t, .int .i64 k, .int .i64 i, .int .i64 b, .int .i64 a, .bool ok]] := H.srcOwn .head (by simp) rfl rfl
  have H := St.pull (A := [_, _, _, _]) H
  refine RunO.apps (n := G.ln) (m := 1) tabOk rfl rfl rfl rfl rfl rfl rfl H ho hsrc (by simp [oneCells, Value.oneCell']) hl rfl (by omega) fun v w x' ho' H => ?_
  have H := (St.pull (x := [_, _, _, _]) H).tail
  refine (OwnSl.len ho').elim fun la' q => q.elim fun lc' q => ?_
  have q := q.1
  rw [List.length_append, hl] at q
  subst q
  refine StO.own H .head rfl rfl rfl fun w H => ?_
  have H : St g h w (memL B ⟨la', G.ln + 1, lc', x', G.vi⟩ ws ms L) := H
  have hl2 : (rows ++ [[Value.int .i64 t, .int .i64 k, .int .i64 i, .int .i64 b, .int .i64 a, .bool ok]]).length = G.ln + 1 := by rw [List.length_append, hl]; rfl
  have hok : LG.ok ⟨la', G.ln + 1, lc', x', G.vi⟩ (N + 1) := ⟨⟨_, ho', hl2⟩, Nat.succ_le_succ hle⟩
  exact ⟨_, hok, rfl, H⟩
theorem ite_pos' {c : Prop} [Decidable c] {a b : Prop} (hc : c) (ha : a) : if c then a else b := by rw [if_pos hc]; exact ha
theorem ite_neg' {c : Prop} [Decidable c] {a b : Prop} (hc : ¬ c) (ha : b) : if c then a else b := by rw [if_neg hc]; exact ha
def wordAt (ws : List Int) (i : Int) : Int := if i < 0 then 0 else ws[i.toNat]?.getD 0
def setAtW (ws : List Int) (i v : Int) : List Int := if i < 0 then ws else ws.set i.toNat v
theorem cellsI (B : MB) {G : LG} {ws : List Int} {ms : List (Option Int)} (H : St g h w (memL B G ws ms L)) (i : Int) :
    Ret Tryz.prog 109 [.pointer (some ⟨B.bm, 2, none⟩), .int .i64 i] w fun v w' => v = (if 0 ≤ i ∧ i < ws.length then .pointer (some ⟨B.bw, i.toNat, none⟩) else .pointer none) ∧ St g h w' (memL B G ws ms L) := by
  refine Ret.enter tabOk Tryz.func109 rfl (by rfl) rfl (by rfl) (by kernel_rfl) ?_
  refine CondT.dec (fun h1 => ?_) (fun h1 => ?_)
  · refine CondT.mk ?_
    exact ⟨Eq.trans (b := .pointer none) rfl (by rw [if_neg (by omega)]), H⟩
  · refine LdO.own H .head rfl ?_
    refine CondT.dec (fun h2 => ?_) (fun h2 => ?_)
    · exact ⟨Eq.trans (b := .pointer none) rfl (by rw [if_neg (by omega)]), H⟩
    · refine LdO.own H .head rfl ?_
      obtain ⟨n, rfl⟩ := Int.eq_ofNat_of_zero_le (show 0 ≤ i by omega)
      refine IdxO.at0 rfl (by omega) ?_
      refine ⟨Eq.trans (b := .pointer (some ⟨B.bw, n * 1, none⟩)) rfl ?_, H⟩
      rw [if_pos (by omega), Nat.mul_one, Int.toNat_natCast]
theorem cellsM (B : MB) {G : LG} {ws : List Int} {ms : List (Option Int)} (H : St g h w (memL B G ws ms L)) (i : Int) :
    Ret Tryz.prog 100 [.pointer (some ⟨B.bm, 3, none⟩), .int .i64 i] w fun v w' => v = (if 0 ≤ i ∧ i < ms.length then .pointer (some ⟨B.bx, i.toNat * 2, none⟩) else .pointer none) ∧ St g h w' (memL B G ws ms L) := by
  refine Ret.enter tabOk Tryz.func100 rfl (by rfl) rfl (by rfl) (by kernel_rfl) ?_
  refine CondT.dec (fun h1 => ?_) (fun h1 => ?_)
  · refine CondT.mk ?_
    exact ⟨Eq.trans (b := .pointer none) rfl (by rw [if_neg (by omega)]), H⟩
  · refine LdO.own H .head rfl ?_
    refine CondT.dec (fun h2 => ?_) (fun h2 => ?_)
    · exact ⟨Eq.trans (b := .pointer none) rfl (by rw [if_neg (by omega)]), H⟩
    · refine LdO.own H .head rfl ?_
      obtain ⟨n, rfl⟩ := Int.eq_ofNat_of_zero_le (show 0 ≤ i by omega)
      refine IdxO.at0 rfl (by omega) ?_
      refine ⟨Eq.trans (b := .pointer (some ⟨B.bx, n * 2, none⟩)) rfl ?_, H⟩
      rw [if_pos (by omega), Int.toNat_natCast]
theorem memUpdate (B : MB) {G : LG} {ws : List Int} {ms : List (Option Int)} {N : Nat} (H : St g h w (memL B G ws ms L)) (hg : G.ok N) (hN : N ≤ 500000) (t k i : Int) (fn : Nat) (caps : Array Value) (f : Int → Int × Bool)
    (hf : ∀ {w : World} {L : List (Nat × Obj)} (z : Int), St g h w L → Ret Tryz.prog fn ([] ++ [.int .i64 z] ++ caps.toList) w fun v w' => v = .tuple #[.int .i64 (f z).1, .bool (f z).2] ∧ St g h w' L) :
    Ret Tryz.prog 98 [.pointer (some ⟨B.bm, 0, none⟩), .int .i64 t, .int .i64 k, .int .i64 i, .func (.func fn) #[] caps] w fun v w' => ∃ G', G'.ok (N + 1) ∧
      (if 0 ≤ i ∧ i < ws.length then v = .tuple #[.int .i64 (f (wordAt ws i)).1, .bool (f (wordAt ws i)).2] ∧ St g h w' (memL B G' (setAtW ws i (f (wordAt ws i)).1) ms L)
       else v = .tuple #[.int .i64 0, .bool false] ∧ St g h w' (memL B G' ws ms L)) := by
  refine Ret.enter tabOk Tryz.func98 rfl (by rfl) rfl (by rfl) (by kernel_rfl) ?_
  refine (cellsI B H i).mono ?_; intro v w q
  have hv := q.1; have H := q.2; clear q
  by_cases hi : 0 ≤ i ∧ i < ws.length
  · rw [if_pos hi] at hv
    subst hv
    refine CondT.mk ?_
    obtain ⟨n, rfl⟩ := Int.eq_ofNat_of_zero_le hi.1
    have hn : n < ws.length := by omega
    have hw : wordAt ws (n : Int) = ws[n] := by unfold wordAt; rw [if_neg (by omega), Int.toNat_natCast, List.getElem?_eq_getElem hn]; rfl
    have hs : ∀ z, setAtW ws (n : Int) z = ws.set n z := fun z => by unfold setAtW; rw [if_neg (by omega), Int.toNat_natCast]
    rw [Int.toNat_natCast]
    refine LdO.own H (.tail .head) (v := .int .i64 ws[n]) (by rw [nth_eq]; simp [hn]) ?_
    refine (hf ws[n] H).mono ?_; intro v w q
    have hv := q.1; have H := q.2; clear q
    subst hv
    refine StO.own H (.tail .head) rfl rfl (show Nat.ble (n + 1) _ = true from Nat.ble_eq_true_of_le (by simp; omega)) fun w H => ?_
    have H : St g h w (memL B G (ws.set n (f ws[n]).1) ms L) := by
      have e : (putA (ws.map fun z => Value.int .i64 z).toArray n [.int .i64 (f ws[n]).1]) = ((ws.set n (f ws[n]).1).map fun z => Value.int .i64 z).toArray := by
        apply Array.ext'
        rw [putA_one]
        simp [List.map_set]
      have H : St g h w ((B.bm, .cells (memRow B G ws.length ms.length).toArray 147 (0, 0)) :: (B.bw, .cells (putA (ws.map fun z => Value.int .i64 z).toArray n [.int .i64 (f ws[n]).1]) 3 (0, 0)) :: (B.bx, .cells (ms.flatMap muR).toArray 184 (0, 0)) :: (G.xl ++ L)) := H
      rw [e] at H
      have hl : (ws.set n (f ws[n]).1).length = ws.length := List.length_set
      show St g h w ((B.bm, .cells (memRow B G (ws.set n (f ws[n]).1).length ms.length).toArray 147 (0, 0)) :: _)
      rw [hl]; exact H
    refine (record B H hg hN t k n ws[n] (f ws[n]).1 (f ws[n]).2).mono ?_; intro v w q
    refine q.elim fun G' q => ?_
    have H := q.2.2
    rw [← hs, ← hw] at H
    exact ⟨G', q.1, ite_pos' hi ⟨Eq.trans (b := .tuple #[.int .i64 (f ws[n]).1, .bool (f ws[n]).2]) rfl (by rw [hw]), H⟩⟩
  · rw [if_neg hi] at hv
    subst hv
    refine CondT.mk ?_
    exact ⟨G, hg.mono (Nat.le_succ N), ite_neg' hi ⟨rfl, H⟩⟩
theorem memLoad (B : MB) {G : LG} {ws : List Int} {ms : List (Option Int)} {N : Nat} (H : St g h w (memL B G ws ms L)) (hg : G.ok N) (hN : N ≤ 500000) (t i : Int) :
    Ret Tryz.prog 88 [.pointer (some ⟨B.bm, 0, none⟩), .int .i64 t, .int .i64 i] w fun v w' => v = .int .i64 (wordAt ws i) ∧ ∃ G', G'.ok (N + 1) ∧ St g h w' (memL B G' ws ms L) := by
  refine Ret.enter tabOk Tryz.func88 rfl (by rfl) rfl (by rfl) (by kernel_rfl) ?_
  refine (memUpdate B H hg hN t 1 i 99 #[] (fun z => (z, true)) (fun {w L} z H => ?_)).mono ?_
  · refine Ret.enter tabOk Tryz.func99 rfl (by rfl) rfl (by rfl) (by kernel_rfl) ?_
    exact ⟨rfl, H⟩
  · intro v w q
    refine q.elim fun G' q => ?_
    have hg' := q.1; have q := q.2
    by_cases hi : 0 ≤ i ∧ i < ws.length
    · rw [if_pos hi] at q
      have hv := q.1; have H := q.2; clear q
      subst hv
      have e : setAtW ws i (wordAt ws i) = ws := by
        unfold setAtW wordAt
        rw [if_neg (by omega), if_neg (by omega), List.getElem?_eq_getElem (by omega)]
        simp
      rw [show setAtW ws i ((fun z => (z, true)) (wordAt ws i) : Int × Bool).1 = ws from e] at H
      exact ⟨rfl, G', hg', H⟩
    · rw [if_neg hi] at q
      have hv := q.1; have H := q.2; clear q
      subst hv
      refine ⟨Eq.trans (b := .int .i64 0) rfl ?_, G', hg', H⟩
      unfold wordAt
      split
      · rfl
      · rw [List.getElem?_eq_none (by omega)]; rfl
theorem memStore (B : MB) {G : LG} {ws : List Int} {ms : List (Option Int)} {N : Nat} (H : St g h w (memL B G ws ms L)) (hg : G.ok N) (hN : N ≤ 500000) (t i z : Int) :
    Ret Tryz.prog 120 [.pointer (some ⟨B.bm, 0, none⟩), .int .i64 t, .int .i64 i, .int .i64 z] w fun _ w' => ∃ G', G'.ok (N + 1) ∧ St g h w' (memL B G' (setAtW ws i z) ms L) := by
  refine Ret.enter tabOk Tryz.func120 rfl (by rfl) rfl (by rfl) (by kernel_rfl) ?_
  refine AllocO.own H fun b7 w H => ?_
  have hc := HC.new h b7 #[.int .i64 z] 3 (0, 0)
  have hle := H.seal_le
  have H := H.sealIt
  refine (memUpdate B H hg hN t 4 i 135 #[.pointer (some ⟨b7, 0, none⟩)] (fun _ => (z, true)) (fun {w L} y H => ?_)).mono ?_
  · refine Ret.enter tabOk Tryz.func135 rfl (by rfl) rfl (by rfl) (by kernel_rfl) ?_
    refine LdO.hc H hc (j := 0) rfl ?_
    exact ⟨rfl, H⟩
  · intro v w q
    refine q.elim fun G' q => ?_
    have hg' := q.1; have q := q.2
    by_cases hi : 0 ≤ i ∧ i < ws.length
    · rw [if_pos hi] at q
      exact ⟨G', hg', q.2.less hle⟩
    · rw [if_neg hi] at q
      have e : setAtW ws i z = ws := by
        unfold setAtW
        split
        · rfl
        · exact List.set_eq_of_length_le (by omega)
      have H := q.2.less hle
      rw [← e] at H
      exact ⟨G', hg', H⟩
theorem memCas (B : MB) {G : LG} {ws : List Int} {ms : List (Option Int)} {N : Nat} (H : St g h w (memL B G ws ms L)) (hg : G.ok N) (hN : N ≤ 500000) (t i old new : Int) (hi : 0 ≤ i ∧ i < ws.length) :
    Ret Tryz.prog 183 [.pointer (some ⟨B.bm, 0, none⟩), .int .i64 t, .int .i64 i, .int .i64 old, .int .i64 new] w fun v w' => v = .bool (decide (wordAt ws i = old)) ∧
      ∃ G', G'.ok (N + 1) ∧ St g h w' (memL B G' (if wordAt ws i = old then setAtW ws i new else ws) ms L) := by
  refine Ret.enter tabOk Tryz.func183 rfl (by rfl) rfl (by rfl) (by kernel_rfl) ?_
  refine AllocO.own H fun b8 w H => ?_
  have hc8 := HC.new h b8 #[.int .i64 old] 3 (0, 0)
  have hle8 := H.seal_le
  have H := H.sealIt
  refine AllocO.own H fun b9 w H => ?_
  have hle9 := H.seal_le
  have hc8 := hc8.le hle9
  have hc9 := HC.new (h.add b8 (.cells #[.int .i64 old] 3 (0, 0))) b9 #[.int .i64 new] 3 (0, 0)
  have H := H.sealIt
  refine (memUpdate B H hg hN t 3 i 188 #[.pointer (some ⟨b8, 0, none⟩), .pointer (some ⟨b9, 0, none⟩)] (fun z => if z = old then (new, true) else (z, false)) (fun {w L} y H => ?_)).mono ?_
  · refine Ret.enter tabOk Tryz.func188 rfl (by rfl) rfl (by rfl) (by kernel_rfl) ?_
    refine LdO.hc H hc8 (j := 0) rfl ?_
    refine CondT.dec (fun h1 => ?_) (fun h1 => ?_)
    · refine LdO.hc H hc9 (j := 0) rfl ?_
      exact ⟨Eq.trans (b := .tuple #[.int .i64 new, .bool true]) rfl (by rw [if_pos h1]), H⟩
    · exact ⟨Eq.trans (b := .tuple #[.int .i64 y, .bool false]) rfl (by rw [if_neg h1]), H⟩
  · intro v w q
    refine q.elim fun G' q => ?_
    have hg' := q.1; have q := q.2
    rw [if_pos hi] at q
    have hv := q.1; have H := (q.2.less hle9).less hle8; clear q
    by_cases ho : wordAt ws i = old
    · simp only [if_pos ho] at hv H
      subst hv
      exact ⟨Eq.trans (b := .bool true) rfl (by rw [decide_eq_true ho]), G', hg', by rw [if_pos ho]; exact H⟩
    · simp only [if_neg ho] at hv H
      subst hv
      have e : setAtW ws i (wordAt ws i) = ws := by
        unfold setAtW wordAt
        rw [if_neg (by omega), if_neg (by omega), List.getElem?_eq_getElem (by omega)]
        simp
      rw [e] at H
      exact ⟨Eq.trans (b := .bool false) rfl (by rw [decide_eq_false ho]), G', hg', by rw [if_neg ho]; exact H⟩
theorem memWord (B : MB) {G : LG} {ws : List Int} {ms : List (Option Int)} (H : St g h w (memL B G ws ms L)) (i : Int) :
    Ret Tryz.prog 134 [.pointer (some ⟨B.bm, 0, none⟩), .int .i64 i] w fun v w' => v = .int .i64 (wordAt ws i) ∧ St g h w' (memL B G ws ms L) := by
  refine Ret.enter tabOk Tryz.func134 rfl (by rfl) rfl (by rfl) (by kernel_rfl) ?_
  refine (cellsI B H i).mono ?_; intro v w q
  have hv := q.1; have H := q.2; clear q
  by_cases hi : 0 ≤ i ∧ i < ws.length
  · rw [if_pos hi] at hv
    subst hv
    refine CondT.mk ?_
    refine LdO.ownE H (.tail .head) (v := .int .i64 (wordAt ws i)) (by
      unfold wordAt
      rw [if_neg (by omega)]
      have : i.toNat < ws.length := by omega
      simp [this]) ?_
    exact ⟨rfl, H⟩
  · rw [if_neg hi] at hv
    subst hv
    refine CondT.mk ?_
    exact ⟨Eq.trans (b := .int .i64 0) rfl (by
      unfold wordAt
      split
      · rfl
      · rw [List.getElem?_eq_none (by omega)]; rfl), H⟩
end Go.Proofs.YtbdoinigeaaclaaGreat
set_option maxRecDepth 20000
namespace Go.Proofs.YtbdoinigeaaclaaGreat
open Go RL PQ
variable {g : World} {h : Hp} {w : World} {L : List (Nat × Obj)}
theorem decT {p : Prop} [Decidable p] (h : p) : decide p = true := decide_eq_true h
theorem decF {p : Prop} [Decidable p] (h : ¬ p) : decide p = false := decide_eq_false h
theorem iteT {α : Type} {p : Prop} [Decidable p] (h : p) {a b : α} : (if p then a else b) = a := if_pos h
theorem iteF {α : Type} {p : Prop} [Decidable p] (h : ¬ p) {a b : α} : (if p then a else b) = b := if_neg h
theorem muR_len (m : Option Int) : (muR m).length = 2 := by cases m <;> rfl
theorem mu_len : ∀ ms : List (Option Int), (ms.flatMap muR).length = ms.length * 2
  | [] => rfl
  | m :: ms => by rw [List.flatMap_cons, List.length_append, muR_len, mu_len ms, List.length_cons]; omega
theorem mu_take : ∀ {ms : List (Option Int)} {n : Nat} (hn : n < ms.length), ((ms.flatMap muR).drop (n * 2)).take 2 = muR ms[n]
  | m :: ms, 0, _ => by cases m <;> rfl
  | m :: ms, n + 1, hn => by
    have ih := mu_take (ms := ms) (n := n) (by simpa using hn)
    rw [List.flatMap_cons, Nat.succ_mul, Nat.add_comm (n * 2) 2, ← List.drop_drop]
    have : (muR m ++ ms.flatMap muR).drop 2 = ms.flatMap muR := by cases m <;> rfl
    rw [this, ih]
    rfl
theorem mu_set : ∀ {ms : List (Option Int)} {n : Nat} (m : Option Int), n < ms.length → setR (ms.flatMap muR) (n * 2) (muR m) = (ms.set n m).flatMap muR
  | x :: ms, 0, m, _ => by cases x <;> cases m <;> simp [muR, setR]
  | x :: ms, n + 1, m, hn => by
    have ih := mu_set (ms := ms) (n := n) m (by simpa using hn)
    rw [List.flatMap_cons, List.set_cons_succ, List.flatMap_cons, ← ih, Nat.succ_mul]
    cases x <;> cases m <;> rfl
theorem mu_at {ms : List (Option Int)} {n : Nat} (hn : n < ms.length) {j : Nat} (hj : j < 2) : (ms.flatMap muR)[n * 2 + j]? = (muR ms[n])[j]? := by
  rw [← mu_take hn, List.getElem?_take, if_pos hj, List.getElem?_drop]
def heldB : Option Int → Bool
  | none => false
  | some _ => true
theorem muEql (w : World) (a c : Bool) (b d : Int) : (Op.equal 184 (.agg #[.bool a, .int .i64 b]) (.agg #[.bool c, .int .i64 d])).run Tryz.prog w = .ok (a == c && decide (b = d)) w := by
  have hu := Tryz.underlying184
  have hi := Tryz.underlying3
  have hb := Tryz.underlying4
  have hf : (Tryz.prog).fieldsOf 184 = #[{ name := "held", type := 4, offset := 0, embedded := false, tag := "", pkgPath := "ropeladder/shmem", byteOffset := 0 }, { name := "thread", type := 3, offset := 1, embedded := false, tag := "", pkgPath := "ropeladder/shmem", byteOffset := 8 }] := by
    unfold Program.fieldsOf; rw [hu]
  have ha := ty3.isAgg w
  have hag : ti3.agg = false := rfl
  rw [hag] at ha
  have ha2 := ty4.isAgg w
  have hag2 : ti4.agg = false := rfl
  rw [hag2] at ha2
  unfold Op.equal Op.maxDepth
  rw [run_equalIn_struct w _ _ _ _ (by rw [hf]; exact hu) (by kernel_rfl), hf]
  simp [Op.eqFields, part, ha2, run_equalIn_int w _ 3 .i64 .i64 _ _ hi, run_equalIn_bool w _ 4 _ _ hb]
  by_cases h1 : b = d <;> cases a <;> cases c <;> simp [h1]
theorem muEqO {d : Option Tmp} {x y : Operand} {ty : TypeId} {pos : String} {af : Array Edge} {gd : Option (Nat × Bool)} {e : Env} {m : Option Int} {t : Int} (hx : ev e x = .agg (muR m).toArray) (hy : ev e y = .agg #[.bool true, .int .i64 t])
    {K : Value → Prop} (k : K (.bool (decide (m = some t)))) : PurO Tryz.prog ⟨d, .binOp .eql 184 x y 184, ty, pos, af, gd⟩ e K := by
  refine ⟨⟨_, fun w => ?_, k⟩⟩
  have he : execOp (ev e) ⟨d, .binOp .eql 184 x y 184, ty, pos, af, gd⟩ = ((do eqGuard .eql 184 x y (ev e x) (ev e y); Go.binOp .eql 184 (ev e x) (ev e y)) >>= fun r => pure (.value r)) := rfl
  have hg : ((Tryz.prog).eqGuardType (Tryz.prog).depth 184) = false := by kernel_rfl
  obtain ⟨b, z, hm, hd⟩ : ∃ (b : Bool) (z : Int), muR m = [.bool b, .int .i64 z] ∧ (b == true && decide (z = t)) = decide (m = some t) := by
    cases m with
    | none => exact ⟨false, 0, rfl, by simp⟩
    | some u => exact ⟨true, u, rfl, by simp⟩
  rw [he, hx, hy, hm]
  have h1 : (eqGuard .eql 184 x y (.agg [.bool b, .int .i64 z].toArray) (.agg #[.bool true, .int .i64 t])).run Tryz.prog w = .ok () w := by
    simp [eqGuard, hg]
  have h2 := muEql w b true z t
  have h3 : (Go.binOp .eql 184 (.agg [.bool b, .int .i64 z].toArray) (.agg #[.bool true, .int .i64 t])).run Tryz.prog w = .ok (.bool (b == true && decide (z = t))) w := by
    simp only [Go.binOp, Sem.run_bind, h2, Result.andThen_ok, Sem.run_pure]
  simp only [Sem.run_bind, h1, h3, hd, Result.andThen_ok, Sem.run_pure]
theorem bitF (H : St g h w L) (b : Bool) : Ret Tryz.prog 102 [.bool b] w fun v w' => v = .int .i64 (if b = true then 1 else 0) ∧ St g h w' L := by
  refine Ret.enter tabOk Tryz.func102 rfl (by rfl) rfl (by rfl) (by kernel_rfl) ?_
  refine CondT.bool (fun h1 => ?_) (fun h1 => ?_)
  · exact ⟨Eq.trans (b := .int .i64 1) rfl (by rw [if_pos h1]), H⟩
  · exact ⟨Eq.trans (b := .int .i64 0) rfl (by rw [h1]; rfl), H⟩
theorem muSetO (B : MB) {G : LG} {ws : List Int} {ms : List (Option Int)} {n : Nat} (hn : n < ms.length) {m : Option Int} {v : Value} (hv : v.cells.toList = muR m) (H : St g h w (memL B G ws ms L)) {K : World → Prop}
    (k : ∀ w', St g h w' (memL B G ws (ms.set n m) L) → K w') : StO 2 w (.pointer (some ⟨B.bx, n * 2, none⟩)) v K := by
  refine StO.ownE H (.tail (.tail .head)) (by rw [hv, muR_len]; rfl) (by rw [hv]; cases m <;> rfl) (by rw [List.size_toArray, mu_len]; omega) (c' := ((ms.set n m).flatMap muR).toArray) (by rw [hv]; unfold putA; rw [mu_set m hn]) fun w H => k w ?_
  have hl : (ms.set n m).length = ms.length := List.length_set
  show St g h w ((B.bm, .cells (memRow B G ws.length (ms.set n m).length).toArray 147 (0, 0)) :: _)
  rw [hl]; exact H
theorem memTryLock (B : MB) {G : LG} {ws : List Int} {ms : List (Option Int)} {N : Nat} (H : St g h w (memL B G ws ms L)) (hg : G.ok N) (hN : N ≤ 500000) (t : Int) {n : Nat} (hn : n < ms.length) :
    Ret Tryz.prog 90 [.pointer (some ⟨B.bm, 0, none⟩), .int .i64 t, .int .i64 n] w fun v w' => v = .bool (decide (ms[n] = none)) ∧
      ∃ G', G'.ok (N + 1) ∧ St g h w' (memL B G' ws (if ms[n] = none then ms.set n (some t) else ms) L) := by
  refine Ret.enter tabOk Tryz.func90 rfl (by rfl) rfl (by rfl) (by kernel_rfl) ?_
  refine (cellsM B H n).mono ?_; intro v w q
  have hv := q.1; have H := q.2; clear q
  rw [if_pos (by omega), Int.toNat_natCast] at hv
  subst hv
  refine CondT.mk ?_
  have hm0 : ((ms.flatMap muR).toArray.toList)[n * 2]? = some (.bool (heldB ms[n])) := by
    have := mu_at hn (j := 0) (by omega)
    show (ms.flatMap muR)[n * 2]? = _
    rw [show n * 2 = n * 2 + 0 from rfl, this]
    cases ms[n] <;> rfl
  refine LdO.ownE H (.tail (.tail .head)) hm0 ?_
  cases hm : ms[n] with
  | none =>
    refine CondT.mk ?_
    refine muSetO B hn (m := some t) rfl H fun w H => ?_
    refine DrawO.free H (pl [0, 1, 2, 3, 4, 5, 6, 8, 1007, 1009] .nil) (by kernel_rfl) fun w H => ?_
    refine (bitF H _).mono ?_; rintro _ w ⟨rfl, H⟩
    refine ⟨trivial, ?_⟩
    refine (record B H hg hN _ _ _ _ _ _).mono ?_; intro v w q
    refine q.elim fun G' q => ⟨trivial, ?_⟩
    exact ⟨rfl, G', q.1, by rw [if_pos rfl]; exact q.2.2⟩
  | some u =>
    refine CondT.mk ?_
    refine DrawO.free H (pl [0, 1, 2, 3, 4, 5, 6, 8, 1007, 1009] .nil) (by kernel_rfl) fun w H => ?_
    refine (bitF H _).mono ?_; rintro _ w ⟨rfl, H⟩
    refine ⟨trivial, ?_⟩
    refine (record B H hg hN _ _ _ _ _ _).mono ?_; intro v w q
    refine q.elim fun G' q => ⟨trivial, ?_⟩
    exact ⟨rfl, G', q.1, by rw [if_neg (by simp)]; exact q.2.2⟩
theorem viO (B : MB) {G : LG} {ws : List Int} {ms : List (Option Int)} (z : Int) (H : St g h w (memL B G ws ms L)) {K : World → Prop}
    (k : ∀ w', St g h w' (memL B { G with vi := z } ws ms L) → K w') : StO 1 w (.pointer (some ⟨B.bm, 1, none⟩)) (.int .i64 z) K :=
  StO.own H .head rfl rfl rfl fun w H => k w H
theorem LG.ok.vi {G : LG} {N : Nat} (h : G.ok N) (z : Int) : LG.ok { G with vi := z } N := ⟨h.own, h.le⟩
theorem held {ms : List (Option Int)} {n : Nat} (hn : n < ms.length) : ((ms.flatMap muR).toArray.toList)[n * 2]? = some (.bool (heldB ms[n])) := by
  have := mu_at hn (j := 0) (by omega)
  show (ms.flatMap muR)[n * 2]? = _
  rw [show n * 2 = n * 2 + 0 from rfl, this]
  cases ms[n] <;> rfl
theorem heldCell (B : MB) {G : LG} {ws : List Int} {ms : List (Option Int)} {n : Nat} (hn : n < ms.length) (H : St g h w (memL B G ws ms L)) : w.cell? ⟨B.bx, n * 2, none⟩ = some (.bool (heldB ms[n])) :=
  H.ocell (.tail (.tail .head)) (by rw [nth_eq]; exact held hn)
theorem LdQ.cell {S : World → Prop} {b o n : Nat} {v : Value} (hS : ∀ w, S w → w.cell? ⟨b, o, none⟩ = some v) {K : Value → Prop} (k : K v) : LdQ S false n (.pointer (some ⟨b, o, none⟩)) K :=
  ⟨⟨v, fun w hs => ⟨b, o, rfl, hS w hs⟩, k⟩⟩
set_option maxHeartbeats 1000000 in
theorem memUnlock (B : MB) {G : LG} {ws : List Int} {ms : List (Option Int)} {N : Nat} (H : St g h w (memL B G ws ms L)) (hg : G.ok N) (hN : N ≤ 500000) (t : Int) {n : Nat} (hn : n < ms.length) :
    Ret Tryz.prog 104 [.pointer (some ⟨B.bm, 0, none⟩), .int .i64 t, .int .i64 n] w fun v w' => v = .bool (decide (ms[n] = some t)) ∧
      ∃ G', G'.ok (N + 1) ∧ St g h w' (memL B G' ws (if ms[n] = some t then ms.set n none else ms) L) := by
  refine Ret.enter tabOk Tryz.func104 rfl (by rfl) rfl (by rfl) (by kernel_rfl) ?_
  refine (cellsM B H n).mono ?_; intro v w q
  have hv := q.1; have H := q.2; clear q
  rw [if_pos (by omega), Int.toNat_natCast] at hv
  subst hv
  refine CondT.mk ?_
  refine LdO.ownE H (.tail (.tail .head)) (held hn) ?_
  refine LdO.ownsE H (.tail (.tail .head)) (mu_take hn) (muR_len _) ?_
  refine muEqO rfl rfl ?_
  refine CondT.dec (fun h1 => ?_) (fun h1 => ?_)
  · refine muSetO B hn (m := none) rfl H fun w H => ?_
    have hn' : n < (ms.set n none).length := by rw [List.length_set]; exact hn
    refine DrawO.wi H (fun w => w.cell? ⟨B.bx, n * 2, none⟩ = some (.bool (heldB ((ms.set n none)[n])))) (fun w H => heldCell B hn' H) (pl [0, 1, 2, 3, 4, 5, 7, 8, 9, 10, 12, 1006, 1011, 1013] .nil) (by kernel_rfl) fun w H => ?_
    refine LdQ.cell (fun _ hs => hs) ?_
    refine (bitF H _).mono ?_; rintro _ w ⟨rfl, H⟩
    refine ⟨heldCell B hn' H, ?_⟩
    refine (bitF H _).mono ?_; rintro _ w ⟨rfl, H⟩
    refine ⟨heldCell B hn' H, ?_⟩
    refine (record B H hg hN _ _ _ _ _ _).mono ?_; intro v w q
    refine q.elim fun G' q => ⟨heldCell B hn' q.2.2, ?_⟩
    exact ⟨rfl, G', q.1, by rw [iteT h1]; exact q.2.2⟩
  · refine LdO.own H .head rfl ?_
    refine ArO.mk ?_
    refine viO B _ H fun w H => ?_
    have hg := hg.vi (IntKind.i64.wrap (G.vi + 1))
    refine DrawO.wi H (fun w => w.cell? ⟨B.bx, n * 2, none⟩ = some (.bool (heldB (ms[n])))) (fun w H => heldCell B hn H) (pl [0, 1, 2, 3, 4, 5, 7, 8, 9, 10, 12, 1006, 1011, 1013] .nil) (by kernel_rfl) fun w H => ?_
    refine LdQ.cell (fun _ hs => hs) ?_
    refine (bitF H _).mono ?_; rintro _ w ⟨rfl, H⟩
    refine ⟨heldCell B hn H, ?_⟩
    refine (bitF H _).mono ?_; rintro _ w ⟨rfl, H⟩
    refine ⟨heldCell B hn H, ?_⟩
    refine (record B H hg hN _ _ _ _ _ _).mono ?_; intro v w q
    refine q.elim fun G' q => ⟨heldCell B hn q.2.2, ?_⟩
    exact ⟨rfl, G', q.1, by rw [iteF h1]; exact q.2.2⟩
theorem memTouch (B : MB) {G : LG} {ws : List Int} {ms : List (Option Int)} {N : Nat} (H : St g h w (memL B G ws ms L)) (hg : G.ok N) (t : Int) {n : Nat} (hn : n < ms.length) :
    Ret Tryz.prog 128 [.pointer (some ⟨B.bm, 0, none⟩), .int .i64 t, .int .i64 n] w fun v w' => v = .bool (decide (ms[n] = some t)) ∧
      ∃ G', G'.ok N ∧ St g h w' (memL B G' ws ms L) := by
  refine Ret.enter tabOk Tryz.func128 rfl (by rfl) rfl (by rfl) (by kernel_rfl) ?_
  refine (cellsM B H n).mono ?_; intro v w q
  have hv := q.1; have H := q.2; clear q
  rw [if_pos (by omega), Int.toNat_natCast] at hv
  subst hv
  refine CondT.mk ?_
  refine LdO.ownsE H (.tail (.tail .head)) (mu_take hn) (muR_len _) ?_
  refine muEqO rfl rfl ?_
  refine CondT.bool (fun h1 => ?_) (fun h1 => ?_)
  · refine LdO.own H .head rfl ?_
    refine ArO.mk ?_
    refine viO B _ H fun w H => ?_
    exact ⟨rfl, _, hg.vi _, H⟩
  · exact ⟨rfl, G, hg, H⟩
end Go.Proofs.YtbdoinigeaaclaaGreat
set_option maxRecDepth 20000
namespace Go.Proofs.YtbdoinigeaaclaaGreat
open Go RL PQ
variable {g : World} {h : Hp} {w : World} {L : List (Nat × Obj)}
def itR (e : It) : List Value := [.int .i64 e.time, .int .i64 e.seq, .int .i64 e.slot]
def itV (e : It) : Value := .agg (itR e).toArray
abbrev ItS (h : Hp) (v : Value) (l : List It) : Prop := Sl h 3 v (l.map itR)
theorem cloneI (H : St g h w L) {sv : Value} {rows : List (List Value)} (hs : Sl h 1 sv rows) (hone : ∀ r ∈ rows, oneCells r = true) (hl : rows.length ≤ 1000000) :
    Ret Tryz.prog 117 [sv] w fun v w' => ∃ x, OwnSl 3 1 v rows x ∧ St g h w' (x ++ L) := by
  refine Ret.enter tabOk Tryz.func117 rfl (by rfl) rfl (by rfl) (by kernel_rfl) ?_
  obtain ⟨a, cap, hv⟩ := hs.len
  subst hv
  refine CondT.bool (fun h1 => ?_) (fun h1 => ?_)
  · refine ⟨[], ?_, H⟩
    have hr : rows = [] := by
      obtain ⟨a', cap', he, _, _, h4⟩ := hs
      cases he
      refine Classical.not_not.1 fun hne => ?_
      obtain ⟨b, o, ha, _⟩ := h4 hne
      rw [ha] at h1; cases h1
    subst hr
    exact OwnSl.nil _ _
  · refine AllocO.own H fun b1 w H => ?_
    have ho : OwnSl 3 1 (.slice (some ⟨b1, 0, none⟩) 0 0) [] [(b1, .cells #[] 3 (0, 0))] := ⟨by simp, .inr ⟨b1, #[], 0, rfl, Nat.le_refl _, rfl, rfl, rfl⟩⟩
    refine RunO.app tabOk rfl rfl rfl rfl rfl rfl (xx := [(b1, .cells #[] 3 (0, 0))]) H ho (hs.src H.tail) hone (by show (2 * (0 + rows.length) + 1024) * 8 ≤ _; omega) fun v' w' x' ho' H' => ?_
    exact ⟨x', ho', H'⟩
theorem cloneS (H : St g h w L) {sv : Value} {rows : List (List Value)} (hs : Sl h 4 sv rows) (hone : ∀ r ∈ rows, oneCells r = true) (hl : rows.length ≤ 1000000) :
    Ret Tryz.prog 132 [sv] w fun v w' => ∃ x, OwnSl 201 4 v rows x ∧ St g h w' (x ++ L) := by
  refine Ret.enter tabOk Tryz.func132 rfl (by rfl) rfl (by rfl) (by kernel_rfl) ?_
  obtain ⟨a, cap, hv⟩ := hs.len
  subst hv
  refine CondT.bool (fun h1 => ?_) (fun h1 => ?_)
  · refine ⟨[], ?_, H⟩
    have hr : rows = [] := by
      obtain ⟨a', cap', he, _, _, h4⟩ := hs
      cases he
      refine Classical.not_not.1 fun hne => ?_
      obtain ⟨b, o, ha, _⟩ := h4 hne
      rw [ha] at h1; cases h1
    subst hr
    exact OwnSl.nil _ _
  · refine AllocO.own H fun b1 w H => ?_
    have ho : OwnSl 201 4 (.slice (some ⟨b1, 0, none⟩) 0 0) [] [(b1, .cells #[] 201 (0, 0))] := ⟨by simp, .inr ⟨b1, #[], 0, rfl, Nat.le_refl _, rfl, rfl, rfl⟩⟩
    refine RunO.app tabOk rfl rfl rfl rfl rfl rfl (xx := [(b1, .cells #[] 201 (0, 0))]) H ho (hs.src H.tail) hone (by show (2 * (0 + rows.length) + 1024) * 32 ≤ _; omega) fun v' w' x' ho' H' => ?_
    exact ⟨x', ho', H'⟩
theorem cloneIt (H : St g h w L) {sv : Value} {rows : List (List Value)} (hs : Sl h 3 sv rows) (hone : ∀ r ∈ rows, oneCells r = true) (hl : rows.length ≤ 1000000) :
    Ret Tryz.prog 141 [sv] w fun v w' => ∃ x, OwnSl 157 3 v rows x ∧ St g h w' (x ++ L) := by
  refine Ret.enter tabOk Tryz.func141 rfl (by rfl) rfl (by rfl) (by kernel_rfl) ?_
  obtain ⟨a, cap, hv⟩ := hs.len
  subst hv
  refine CondT.bool (fun h1 => ?_) (fun h1 => ?_)
  · refine ⟨[], ?_, H⟩
    have hr : rows = [] := by
      obtain ⟨a', cap', he, _, _, h4⟩ := hs
      cases he
      refine Classical.not_not.1 fun hne => ?_
      obtain ⟨b, o, ha, _⟩ := h4 hne
      rw [ha] at h1; cases h1
    subst hr
    exact OwnSl.nil _ _
  · refine AllocO.own H fun b1 w H => ?_
    have ho : OwnSl 157 3 (.slice (some ⟨b1, 0, none⟩) 0 0) [] [(b1, .cells #[] 157 (0, 0))] := ⟨by simp, .inr ⟨b1, #[], 0, rfl, Nat.le_refl _, rfl, rfl, rfl⟩⟩
    refine RunO.app tabOk rfl rfl rfl rfl rfl rfl (xx := [(b1, .cells #[] 157 (0, 0))]) H ho (hs.src H.tail) hone (by show (2 * (0 + rows.length) + 1024) * 24 ≤ _; omega) fun v' w' x' ho' H' => ?_
    exact ⟨x', ho', H'⟩
theorem cloneRg (H : St g h w L) {sv : Value} {rows : List (List Value)} (hs : Sl h 4 sv rows) (hone : ∀ r ∈ rows, oneCells r = true) (hl : rows.length ≤ 1000000) :
    Ret Tryz.prog 137 [sv] w fun v w' => ∃ x, OwnSl 209 4 v rows x ∧ St g h w' (x ++ L) := by
  refine Ret.enter tabOk Tryz.func137 rfl (by rfl) rfl (by rfl) (by kernel_rfl) ?_
  obtain ⟨a, cap, hv⟩ := hs.len
  subst hv
  refine CondT.bool (fun h1 => ?_) (fun h1 => ?_)
  · refine ⟨[], ?_, H⟩
    have hr : rows = [] := by
      obtain ⟨a', cap', he, _, _, h4⟩ := hs
      cases he
      refine Classical.not_not.1 fun hne => ?_
      obtain ⟨b, o, ha, _⟩ := h4 hne
      rw [ha] at h1; cases h1
    subst hr
    exact OwnSl.nil _ _
  · refine AllocO.own H fun b1 w H => ?_
    have ho : OwnSl 209 4 (.slice (some ⟨b1, 0, none⟩) 0 0) [] [(b1, .cells #[] 209 (0, 0))] := ⟨by simp, .inr ⟨b1, #[], 0, rfl, Nat.le_refl _, rfl, rfl, rfl⟩⟩
    refine RunO.app tabOk rfl rfl rfl rfl rfl rfl (xx := [(b1, .cells #[] 209 (0, 0))]) H ho (hs.src H.tail) hone (by show (2 * (0 + rows.length) + 1024) * 48 ≤ _; omega) fun v' w' x' ho' H' => ?_
    exact ⟨x', ho', H'⟩
theorem cloneB (H : St g h w L) {sv : Value} {rows : List (List Value)} (hs : Sl h 1 sv rows) (hone : ∀ r ∈ rows, oneCells r = true) (hl : rows.length ≤ 1000000) :
    Ret Tryz.prog 151 [sv] w fun v w' => ∃ x, OwnSl 115 1 v rows x ∧ St g h w' (x ++ L) := by
  refine Ret.enter tabOk Tryz.func151 rfl (by rfl) rfl (by rfl) (by kernel_rfl) ?_
  obtain ⟨a, cap, hv⟩ := hs.len
  subst hv
  refine CondT.bool (fun h1 => ?_) (fun h1 => ?_)
  · refine ⟨[], ?_, H⟩
    have hr : rows = [] := by
      obtain ⟨a', cap', he, _, _, h4⟩ := hs
      cases he
      refine Classical.not_not.1 fun hne => ?_
      obtain ⟨b, o, ha, _⟩ := h4 hne
      rw [ha] at h1; cases h1
    subst hr
    exact OwnSl.nil _ _
  · refine AllocO.own H fun b1 w H => ?_
    have ho : OwnSl 115 1 (.slice (some ⟨b1, 0, none⟩) 0 0) [] [(b1, .cells #[] 115 (0, 0))] := ⟨by simp, .inr ⟨b1, #[], 0, rfl, Nat.le_refl _, rfl, rfl, rfl⟩⟩
    refine RunO.app tabOk rfl rfl rfl rfl rfl rfl (xx := [(b1, .cells #[] 115 (0, 0))]) H ho (hs.src H.tail) hone (by show (2 * (0 + rows.length) + 1024) * 24 ≤ _; omega) fun v' w' x' ho' H' => ?_
    exact ⟨x', ho', H'⟩
theorem clipIt (H : St g h w L) {sv : Value} {rows : List (List Value)} (hs : Sl h 3 sv rows) : Ret Tryz.prog 136 [sv] w fun v w' => (∃ a, v = .slice a rows.length rows.length ∧ Sl h 3 (.slice a rows.length rows.length) rows) ∧ St g h w' L := by
  refine Ret.enter tabOk Tryz.func136 rfl (by rfl) rfl (by rfl) (by kernel_rfl) ?_
  obtain ⟨a, cap, hv⟩ := hs.len
  subst hv
  refine Sl.clipO hs fun a hs' => ?_
  exact ⟨⟨a, rfl, hs'⟩, H⟩
theorem clipRg (H : St g h w L) {sv : Value} {rows : List (List Value)} (hs : Sl h 4 sv rows) : Ret Tryz.prog 218 [sv] w fun v w' => (∃ a, v = .slice a rows.length rows.length ∧ Sl h 4 (.slice a rows.length rows.length) rows) ∧ St g h w' L := by
  refine Ret.enter tabOk Tryz.func218 rfl (by rfl) rfl (by rfl) (by kernel_rfl) ?_
  obtain ⟨a, cap, hv⟩ := hs.len
  subst hv
  refine Sl.clipO hs fun a hs' => ?_
  exact ⟨⟨a, rfl, hs'⟩, H⟩
theorem insertIt {bb : Nat} {row : List Value} {x : List (Nat × Obj)} (H : St g h w (x ++ (bb, .cells row.toArray 157 (0, 0)) :: L)) {sv : Value} {rows : List (List Value)} (ho : OwnSl 157 3 sv rows x) (hrow : row.length = 3) (h1c : oneCells row = true) {i : Nat} (hi : i ≤ rows.length) (hl : rows.length ≤ 900000) :
    Ret Tryz.prog 140 [sv, .int .i64 i, .slice (some ⟨bb, 0, none⟩) 1 1] w fun v w' => ∃ x', OwnSl 157 3 v (rows.take i ++ row :: rows.drop i) x' ∧ St g h w' (x' ++ L) := by
  refine Ret.enter tabOk Tryz.func140 rfl (by rfl) rfl (by rfl) (by kernel_rfl) ?_
  rcases Nat.eq_or_lt_of_le hi with hin | hin
  · subst hin
    obtain ⟨a, cap, rfl, hcap⟩ := ho.len
    refine SlcO.lo rfl (Nat.le_refl _) hcap ?_
    refine CondT.dec (fun h1 => ?_) (fun _ => ?_)
    · exact absurd h1 (by decide)
    refine CondT.dec (fun _ => ?_) (fun h1 => absurd rfl h1)
    have hat : ∃ k, At (bb, .cells row.toArray 157 (0, 0)) k (x ++ (bb, .cells row.toArray 157 (0, 0)) :: L) := by
      clear H ho
      induction x with
      | nil => exact ⟨0, .head⟩
      | cons q x ih => obtain ⟨k, hk⟩ := ih; exact ⟨k + 1, .tail hk⟩
    obtain ⟨k, hk⟩ := hat
    have hsrc : Src w 3 (.slice (some ⟨bb, 0, none⟩) 1 1) [row] := H.srcOwn hk (by simpa using hrow) (by simp) rfl
    refine RunO.app tabOk rfl rfl rfl rfl rfl rfl H ho hsrc (by simpa using h1c) (by show (2 * (rows.length + 1) + 1024) * 24 ≤ _; omega) fun v' w' x' ho' H' => ?_
    refine ⟨x', ?_, ?_⟩
    · rw [List.take_length, List.drop_length]; exact ho'
    · exact H'.sub (by simp)
  · obtain ⟨hr, ⟨rfl, rfl, rfl⟩ | ⟨b, c, cap, rfl, hcap, hcs, hc3, rfl⟩⟩ := ho
    · exact absurd hin (Nat.not_lt_zero i)
    have hr4 : ∀ r ∈ rows, r.length = 3 := fun r h => (hr r h).1
    have hro : oneCells (rows.drop i).flatten = true := oneCells_flatten fun r hx => (hr r (List.mem_of_mem_drop hx)).2
    have hfl := flat_len rows hr4
    have hdl : (rows.drop i).flatten.length = (rows.length - i) * 3 := by rw [flatten_drop hr4, List.length_drop, hfl]; omega
    have htl : (rows.take i).flatten.length = i * 3 := by rw [flatten_take hr4, List.length_take, hfl]; omega
    have hres : ∀ r ∈ rows.take i ++ row :: rows.drop i, r.length = 3 ∧ oneCells r = true := by
      intro r hx
      rcases List.mem_append.1 hx with hx | hx
      · exact hr r (List.mem_of_mem_take hx)
      · rcases List.mem_cons.1 hx with rfl | hx
        · exact ⟨hrow, h1c⟩
        · exact hr r (List.mem_of_mem_drop hx)
    have hlen : rows.length + 1 = (rows.take i ++ row :: rows.drop i).length := by
      simp only [List.length_append, List.length_take, List.length_cons, List.length_drop]; omega
    have hflat : (rows.take i ++ row :: rows.drop i).flatten = (rows.take i).flatten ++ row ++ (rows.drop i).flatten := by simp
    refine SlcO.lo' rfl (Nat.le_of_lt hin) hcap (by omega) ?_
    refine CondT.dec (fun h1 => ?_) (fun _ => ?_)
    · exact absurd h1 (by decide)
    refine CondT.dec (fun h1 => absurd h1 (by omega)) (fun _ => ?_)
    refine ArO.i64 ?_
    refine CondT.dec (fun hgrow => ?_) (fun hroom => ?_)
    · -- it grows
      refine SlcO.hi rfl (by omega) ?_
      refine ArO.i64 ?_
      refine ArO.i64 ?_
      have hz : ((rows.length : Int) + 1 - (i : Int)) = ((rows.length + 1 - i : Nat) : Int) := by omega
      have hiz : i + (rows.length + 1 - i) = rows.length + 1 := by omega
      have htk : (rows.take i).length = i := by rw [List.length_take]; omega
      refine RunO.appZeros tabOk rfl rfl rfl rfl rfl rfl (n := i) (z := rows.length + 1 - i) H rfl (by exact congrArg (Value.int .i64) hz) hiz (vs := (rows.take i).flatten) (fun w' H' => ?_) (by omega)
        (by show (2 * (i + (rows.length + 1 - i)) + 1024) * 24 ≤ _; omega) (by omega) htl fun b2 w nc c2 hnc hs2 ht2 H => ?_
      · have := (H'.srcTake .head hr4 hc3 hi (cap := cap)).run (P := Tryz.prog)
        rw [htk] at this
        exact this.1
      have hs2 : c2.size = nc * 3 := hs2
      have ht2 : c2.toList.take (i * 3) = (rows.take i).flatten := ht2
      refine SlcO.lo' rfl (by omega) hnc (by omega) ?_
      have hbc : Cells w bb 0 row := H.cellsAt (.tail (.tail .head)) fun j hj => by simp
      refine RunO.copy tabOk rfl rfl rfl H .head rfl rfl (n := 1) (by omega) hbc (by exact hrow) h1c (by show 0 + i * 3 + 1 * 3 ≤ c2.size; omega) fun w H => ?_
      refine DrawO.free H (pl [0, 1, 2, 3, 4, 5, 6, 7, 1008] .nil) (by kernel_rfl) fun w H => ?_
      refine ArO.i64 ?_
      refine SlcO.lo' (n := i + 1) rfl (by omega) hnc (by omega) ?_
      refine SlcO.lo' rfl (by omega) hcap (by omega) ?_
      refine RunO.copy tabOk rfl rfl rfl H .head rfl rfl (n := rows.length - i) (by omega) (H.cellsDrop (.tail .head) hr4 hc3) hdl hro (by rw [putA_size]; show 0 + (i + 1) * 3 + (rows.length - i) * 3 ≤ c2.size; omega) fun w H => ?_
      refine ⟨trivial, ?_⟩
      refine ⟨_, ownSl_mk (c := putA (putA c2 (i * 3) row) ((i + 1) * 3) (rows.drop i).flatten) hlen hres hnc (by rw [putA_size, putA_size]; exact hs2) ?_, ?_⟩
      · have := put_low (c := c2) (o := i * 3) (T := (rows.take i).flatten) (r := row) (D := (rows.drop i).flatten) ht2 htl (by omega)
        rw [hflat, ← this, hrow, hdl]
        rw [show i * 3 + 3 + (rows.length - i) * 3 = (rows.length + 1) * 3 by omega, show i * 3 + 3 = (i + 1) * 3 by omega]
      · have : St g h w ((b2, .cells (putA (putA c2 (0 + i * 3) row) (0 + (i + 1) * 3) (rows.drop i).flatten) 157 (0, 0)) :: (b, .cells c 157 (0, 0)) :: (bb, .cells row.toArray 157 (0, 0)) :: L) := H
        rw [Nat.zero_add, Nat.zero_add] at this
        exact this.sub (by simp)
    · -- there is room
      refine ArO.i64 ?_
      refine SlcO.hi rfl (by omega) ?_
      refine ArO.i64 ?_
      refine SlcO.lo' (n := i + 1) rfl (by omega) (by omega) (by omega) ?_
      have hne : bb ≠ b := by
        have := H.nodup
        simp only [List.cons_append, List.nil_append, List.map_cons, List.nodup_cons, List.mem_cons, not_or] at this
        exact fun e => this.1.1 e.symm
      refine Ret.overlaps (t := 115) (r := 4) tabOk rfl rfl (by rfl) (by kernel_rfl) (by kernel_rfl) rfl rfl rfl H (.tail .head) .head hne (by rw [hcs]; omega) ?_
      refine CondT.mk ?_
      refine DrawO.free H (pl [0, 1, 2, 3, 4, 5, 6, 7, 1008] .nil) (by kernel_rfl) fun w H => ?_
      refine ArO.i64 ?_
      refine SlcO.lo' (n := i + 1) rfl (by omega) (by omega) (by omega) ?_
      refine SlcO.lo' rfl (by omega) (by omega) (by omega) ?_
      refine RunO.copy tabOk rfl rfl rfl H .head rfl rfl (n := rows.length - i) (by omega) (H.cellsDrop .head hr4 hc3) hdl hro (by show 0 + (i + 1) * 3 + (rows.length - i) * 3 ≤ c.size; omega) fun w H => ?_
      refine ⟨trivial, ?_⟩
      refine SlcO.lo' rfl (by omega) (by omega) (by omega) ?_
      have hbc : Cells w bb 0 row := H.cellsAt (.tail .head) fun j hj => by simp
      refine RunO.copy tabOk rfl rfl rfl H .head rfl rfl (n := 1) (by omega) hbc (by exact hrow) h1c (by rw [putA_size]; show 0 + i * 3 + 1 * 3 ≤ c.size; omega) fun w H => ?_
      refine ⟨_, ownSl_mk (c := putA (putA c ((i + 1) * 3) (rows.drop i).flatten) (i * 3) row) hlen hres (by omega) (by rw [putA_size, putA_size]; exact hcs) ?_, ?_⟩
      · have hT : c.toList.take (i * 3) = (rows.take i).flatten := by
          rw [flatten_take hr4, ← hc3, List.take_take, Nat.min_eq_left (by omega)]
        have := put_high (c := c) (o := i * 3) (T := (rows.take i).flatten) (r := row) (D := (rows.drop i).flatten) hT htl (by omega)
        rw [hflat, ← this, hrow, hdl]
        rw [show i * 3 + 3 + (rows.length - i) * 3 = (rows.length + 1) * 3 by omega, show i * 3 + 3 = (i + 1) * 3 by omega]
      · have : St g h w ((b, .cells (putA (putA c (0 + (i + 1) * 3) (rows.drop i).flatten) (0 + i * 3) row) 157 (0, 0)) :: (bb, .cells row.toArray 157 (0, 0)) :: L) := H
        rw [Nat.zero_add, Nat.zero_add] at this
        exact this.sub (by simp)
theorem binSIt (H : St g h w L) {sv : Value} {xs : List It} (hs : Sl h 3 sv (xs.map itR)) (hl : xs.length ≤ 4611686018427387904) (tgt : It) (k : Nat) (c : It → Int)
    (hf : ∀ x ∈ xs, ∀ w L, St g h w L → Ret Tryz.prog k ([] ++ [itV x, itV tgt] ++ []) w fun v w' => v = .int .i64 (c x) ∧ St g h w' L)
    {p : Nat} (hp : p ≤ xs.length) (hlo : ∀ j (hj : j < p), c (xs[j]'(by omega)) < 0) (hhi : ∀ j (_ : p ≤ j) (hj : j < xs.length), ¬ c xs[j] < 0) :
    Ret Tryz.prog 139 [sv, itV tgt, .func (.func k) #[] #[]] w fun v w' => v = .tuple #[.int .i64 p, .bool (if hx : p < xs.length then decide (c xs[p] = 0) else false)] ∧ St g h w' L := by
  refine Ret.enter tabOk Tryz.func139 rfl (by rfl) rfl (by rfl) (by kernel_rfl) ?_
  obtain ⟨a, cap, rfl⟩ := hs.lenM
  refine AllocO.own H fun b1 w H => ?_
  refine LoopO.run (σ := Nat × Nat) (fun i => [(0, .slice a xs.length cap), (2, .func (.func k) #[] #[]), (4, .pointer (some ⟨b1, 0, none⟩)), (8, .int .i64 xs.length), (9, .int .i64 i.1), (10, .int .i64 i.2)])
    (fun i w => St g h w ((b1, .cells (itR tgt).toArray 157 (0, 0)) :: L) ∧ i.1 ≤ p ∧ p ≤ i.2 ∧ i.2 ≤ xs.length) (fun i => i.2 - i.1) (0, xs.length) (by exact ⟨rfl, rfl, rfl, rfl, rfl, rfl, trivial⟩) ⟨H, Nat.zero_le _, hp, Nat.le_refl _⟩ ?_
  rintro ⟨i, j⟩ w e ⟨H, h1, h2, h3⟩
  simp only at h1 h2 h3
  refine CondT.dec (fun hlt => ?_) (fun hge => ?_)
  · have hlt' : i < j := by simpa using hlt
    refine ArO.i64 ?_ (by simp only; omega) (by simp only; omega)
    refine ArO.u64 ?_ (by simp only; omega) (by simp only; omega)
    refine ShO.shr (n := 1) rfl (by decide) ?_
    refine ArO.i64 ?_ (by simp only; omega) (by simp only; omega)
    have hm : ((i : Int) + (j : Int)) / 2 ^ 1 = (((i + j) / 2 : Nat) : Int) := by omega
    simp only [hm]
    have hmid : (i + j) / 2 < xs.length := by omega
    obtain ⟨b, o, hidx, hrow⟩ := hs.idxM hmid
    refine DrawO.st H (pl [0, 1, 2, 3, 4, 5, 1006, 7] .nil) (by kernel_rfl) fun w H => ?_
    refine hidx _ _ _ rfl ?_
    refine LdQ.hrow hrow rfl ?_
    refine LdQ.owns .head rfl ?_
    refine (hf _ (List.getElem_mem hmid) w _ H).mono ?_; rintro _ w ⟨rfl, H⟩; refine ⟨H, ?_⟩
    refine CondT.dec (fun hc => ?_) (fun hc => ?_)
    · refine ArO.i64 ?_ (by omega) (by omega)
      refine ⟨rfl, ((i + j) / 2 + 1, j), ⟨rfl, rfl, rfl, rfl, rfl, rfl, trivial⟩, ⟨H, ?_, h2, h3⟩, by simp only; omega⟩
      simp only
      refine Classical.not_not.1 fun hn => hhi _ (by omega) hmid hc
    · refine ⟨rfl, (i, (i + j) / 2), ⟨rfl, rfl, rfl, rfl, rfl, rfl, trivial⟩, ⟨H, h1, ?_, by simp only; omega⟩, by simp only; omega⟩
      simp only
      refine Classical.not_not.1 fun hn => hc (hlo _ (by omega))
  · have hpi : i = p := by simp only at hge; omega
    subst hpi
    refine DrawO.st H (pl [0, 1, 2, 3, 4, 5, 6, 7, 8, 9, 10, 1011, 12, 13, 14, 15] .nil) (by kernel_rfl) fun w H => ?_
    refine CondT.dec (fun hx => ?_) (fun hx => ?_)
    · have hx' : i < xs.length := by simp only at hx; omega
      obtain ⟨b, o, hidx, hrow⟩ := hs.idxM hx'
      refine hidx _ _ _ rfl ?_
      refine LdQ.hrow hrow rfl ?_
      refine LdQ.owns .head rfl ?_
      refine (hf _ (List.getElem_mem hx') w _ H).mono ?_; rintro _ w ⟨rfl, H⟩; refine ⟨H, ?_⟩
      exact ⟨Eq.trans (b := .tuple #[.int .i64 i, .bool (decide (c xs[i] = 0))]) rfl (by rw [dif_pos hx']), H.tail⟩
    · have hx' : ¬ i < xs.length := by simp only at hx; omega
      exact ⟨Eq.trans (b := .tuple #[.int .i64 i, .bool false]) rfl (by rw [dif_neg hx']), H.tail⟩
end Go.Proofs.YtbdoinigeaaclaaGreat
