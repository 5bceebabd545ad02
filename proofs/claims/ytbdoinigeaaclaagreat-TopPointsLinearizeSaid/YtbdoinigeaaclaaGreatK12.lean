/- Moves for cutting an owned slice, copy, append of zeros, slices.overlaps. Conditions: the table fits the program's types; what is laid is short. -/
import Derived.Test.YtbdoinigeaaclaaGreatK11
import Derived.Lib.Overlaps
set_option linter.all false
namespace RL
open Go
section
variable {g : World} {h : Hp} {w : World} {L : List (Nat × Obj)}
theorem SlcO.hi {sz : Nat} {a : Option Addr} {len cap n : Nat} {kk : IntKind} {z : Int} (hz : z = n) (hn : n ≤ cap) {K : Value → Prop} (k : K (.slice a n cap)) : SlcO sz (.slice a len cap) none (some (.int kk z)) none K := by
  subst hz
  refine ⟨⟨a, len, cap, 0, n, cap, rfl, by omega, hn, Nat.le_refl _, rfl, ⟨kk, rfl⟩, rfl, ?_⟩⟩
  rw [Nat.zero_mul, map_add_zero]; simpa using k
theorem SlcO.lo {sz : Nat} {a : Option Addr} {len cap n : Nat} {kk : IntKind} {z : Int} (hz : z = n) (hn : n ≤ len) (hc : len ≤ cap) {K : Value → Prop} (k : K (.slice (if cap = n then a else a.map (·.add (n * sz))) (len - n) (cap - n))) :
    SlcO sz (.slice a len cap) (some (.int kk z)) none none K := by
  subst hz
  exact ⟨⟨a, len, cap, n, len, cap, rfl, hn, hc, Nat.le_refl _, rfl, ⟨rfl, rfl⟩, ⟨kk, rfl⟩, k⟩⟩
theorem call_builtin_eq {d : Option Tmp} {b : Builtin} {s x : Operand} {t t2 ty : TypeId} {pos : String} {af : Array Edge} {gd : Option (Nat × Bool)} {e : Env} :
    ∃ cs, execOp (ev e) ⟨d, .call ⟨.builtin b, #[s, x], #[t, t2]⟩, ty, pos, af, gd⟩ = Go.builtin b #[t, t2] ty cs #[ev e s, ev e x] := by
  apply Exists.intro
  show (Pure.pure _ >>= fun d : Deferred => invoke d.target d.args) = _
  rw [pure_bind]
  simp only [invoke, List.map_toArray, List.map_cons, List.map_nil]
  rfl
theorem RunO.copy {P : Program} {tab : Tab} (hT : TabOk P tab) {t t2 el : TypeId} {i j : TI} (hi : tab t = some i) (hk : i.k = .slice el) (hj : tab el = some j)
    {dst : Option Tmp} {d s : Operand} {ty : TypeId} {pos : String} {af : Array Edge} {gd : Option (Nat × Bool)} {e : Env} (H : St g h w L) {b o kk : Nat} {c : Array Value} {el' : TypeId} (ha : At (b, .cells c el' (0, 0)) kk L)
    {dl dc sb so sl sc : Nat} (hd : ev e d = .slice (some ⟨b, o, none⟩) dl dc) (hs : ev e s = .slice (some ⟨sb, so, none⟩) sl sc) {n : Nat} (hn : n = min sl dl) {vs : List Value} (hc : Cells w sb so vs)
    (hv : vs.length = n * j.size) (hone : oneCells vs = true) (hsz : o + n * j.size ≤ c.size) {K : Value → World → Prop} (k : ∀ w', St g h w' (setAt kk (.cells (putA c o vs) el' (0, 0)) L) → K (.int .i64 n) w') :
    RunO P ⟨dst, .call ⟨.builtin .copy, #[d, s], #[t, t2]⟩, ty, pos, af, gd⟩ e w K := by
  have hbk : w.heap[b]? = some (.cells c el' (0, 0)) := H.own _ ha.mem
  refine ⟨⟨.int .i64 n, World.put w b o vs, .inl ?_, k _ (H.put ha vs)⟩⟩
  obtain ⟨dd, hdd, hdk, -⟩ := (hT.ty _ _ hi).underlying w
  rw [hk] at hdk
  have hz := (hT.ty _ _ hj).sizeOf w
  cases dd <;> simp [dk] at hdk
  rw [hdk] at hdd
  have h1 := run_loadCells (P := P) hc
  rw [hv] at h1
  have h2 := run_storeCells (P := P) (b := b) (o := o) vs 0 w hone ⟨c, el', (0, 0), hbk, by rw [hv]; omega, rfl⟩
  rw [Nat.add_zero] at h2
  have hn' : Nat.min sl dl = n := hn.symm
  obtain ⟨cs, hcs⟩ := call_builtin_eq (d := dst) (s := d) (x := s) (t := t) (t2 := t2) (ty := ty) (pos := pos) (af := af) (gd := gd) (e := e) (b := .copy)
  rw [hcs]
  have h3 : (Builtin.copy_ #[t, t2] ty #[ev e d, ev e s]).run P w = .ok (.int .i64 n) (World.put w b o vs) := by
    rw [hd, hs]
    unfold Builtin.copy_
    simp only [Sem.run_bind, List.getElem?_toArray, List.getElem?_cons_zero, List.getElem?_cons_succ, hdd, Result.andThen_ok, Builtin.lenOf, Sem.run_pure, hn', hz, Builtin.firstCells, h1, h2, goInt]
  simp only [Go.builtin, Sem.run_bind, h3, Result.andThen_ok, Sem.run_pure]
/-- A slice's own cells, as a source. -/
theorem St.cellsAt {b o kk : Nat} {c : Array Value} {e : TypeId} {fz : Nat × Nat} (H : St g h w L) (ha : At (b, .cells c e fz) kk L) {vs : List Value} (hv : ∀ i, i < vs.length → c.toList[o + i]? = vs[i]?) : Cells w b o vs := fun i hi => by
  have := H.own _ ha.mem
  simp only [World.cell?, this]
  rw [if_neg (by simp), ← hv i hi]; simp
/-- 'append(s[:i], make([]T, z)...)' where it must grow. -/
theorem RunO.appZeros {P : Program} {tab : Tab} (hT : TabOk P tab) {t t2 el : TypeId} {i j i2 : TI} (hi : tab t = some i) (hk : i.k = .slice el) (hi2 : tab t2 = some i2) {ik : IntKind} (hk2 : i2.k = .int ik) (hj : tab el = some j) (hb0 : Nat.beq j.bytes 0 = false)
    {dst : Option Tmp} {s x : Operand} {ty : TypeId} {pos : String} {af : Array Edge} {gd : Option (Nat × Bool)} {e : Env} (H : St g h w L) {a : Option Addr} {n cap z : Nat} {kx : IntKind} (hs : ev e s = .slice a n cap) (hx : ev e x = .int kx z) {m : Nat} (hm : n + z = m)
    {vs : List Value} (hf : ∀ w', St g h w' L → (Builtin.firstCells j.size n (.slice a n cap)).run P w' = .ok vs.toArray w') (hgrow : cap < n + z) (hb : (2 * (n + z) + 1024) * j.bytes ≤ 281474976710656) (hzb : z ≤ 1000000)
    (hvl : vs.length = n * j.size) {K : Value → World → Prop} (k : ∀ b w' nc c2, m ≤ nc → c2.size = nc * j.size → c2.toList.take (n * j.size) = vs → St g h w' ((b, .cells c2 el (0, 0)) :: L) → K (.slice (some ⟨b, 0, none⟩) m nc) w') :
    RunO P ⟨dst, .call ⟨.builtin .append, #[s, x], #[t, t2]⟩, ty, pos, af, gd⟩ e w K := by
  subst hm
  obtain ⟨d, hd, hdk, -⟩ := (hT.ty _ _ hi).underlying w
  obtain ⟨d2, hd2, hdk2, -⟩ := (hT.ty _ _ hi2).underlying w
  rw [hk] at hdk
  rw [hk2] at hdk2
  have hj' := hT.ty _ _ hj
  have hs' := hj'.sizeOf w
  have hzs := hj'.zsz
  have hb0' : j.bytes ≠ 0 := fun h0 => by rw [h0] at hb0; cases hb0
  obtain ⟨xi, hxi, _, hxb, _⟩ := hj'.typeInfo w
  cases d <;> simp [dk] at hdk
  cases d2 <;> simp [dk] at hdk2
  rw [hdk] at hd
  clear hdk
  have hnext := nextslicecap_le (n := n + z) (c := cap) hgrow
  have hnb' : ¬ (Builtin.nextslicecap (n + z) cap * xi.bytes > 2 ^ 48) := by
    have h1 : Builtin.nextslicecap (n + z) cap * j.bytes ≤ (2 * (n + z) + 1024) * j.bytes := Nat.mul_le_mul_right _ hnext
    have h2 : (2 : Nat) ^ 48 = 281474976710656 := by decide
    rw [hxb, h2]; omega
  generalize hcap' : (w.tape w.drawn (.appendCap (n + z) cap el)) = tp
  generalize hnc : Question.cut (.appendCap (n + z) cap el) tp = nc
  have hncle : n + z ≤ nc := by rw [← hnc]; simp only [Question.cut]; omega
  have hzz : ∀ k, (Builtin.zeroCells j.zero.cells k).size = k * j.size := fun k => by
    simp only [Builtin.zeroCells, Array.size_map, Array.size_range]
    have : j.zero.cells.size = j.size := by rw [← hzs]; simp
    rw [this]
  refine ⟨⟨.slice (some ⟨w.heap.size, 0, none⟩) (n + z) nc, w.drew.alloc (.cells (vs.toArray ++ Builtin.zeroCells j.zero.cells z ++ Builtin.zeroCells j.zero.cells (nc - (n + z))) el), .inl ?_, k _ _ nc _ hncle ?_ ?_ (H.drew.alloc _)⟩⟩
  rotate_left
  · simp only [Array.size_append, hzz, List.size_toArray, hvl, ← Nat.add_mul]
    congr 1; omega
  · rw [Array.toList_append, Array.toList_append, List.append_assoc, List.toList_toArray, List.take_append_of_le_length (by omega), List.take_of_length_le (by omega)]
  obtain ⟨cs, hcs⟩ := call_builtin_eq (d := dst) (s := s) (x := x) (t := t) (t2 := t2) (ty := ty) (pos := pos) (af := af) (gd := gd) (e := e) (b := .append)
  rw [hcs]
  have hwz : IntKind.i64.wrap (z : Int) = z := wrap64_in _ (by omega) (by omega)
  have hzl : ¬ ((z : Int) < 0) := by omega
  have hzm : ¬ ((z : Int) * (xi.bytes : Int) > 2 ^ 48) := by
    have h1 : z * j.bytes ≤ (2 * (n + z) + 1024) * j.bytes := Nat.mul_le_mul_right _ (by omega)
    have h2 : (2 : Int) ^ 48 = 281474976710656 := by decide
    have h3 : ((z * j.bytes : Nat) : Int) ≤ 281474976710656 := by omega
    rw [hxb, h2]
    rw [Int.natCast_mul] at h3
    omega
  have h3 : (Builtin.append_ #[t, t2] ty #[ev e s, ev e x]).run P w = .ok (.slice (some ⟨w.heap.size, 0, none⟩) (n + z) nc) (w.drew.alloc (.cells (vs.toArray ++ Builtin.zeroCells j.zero.cells z ++ Builtin.zeroCells j.zero.cells (nc - (n + z))) el)) := by
    rw [hs, hx]
    unfold Builtin.append_
    have hcond : (n + z ≤ cap) = False := by simp; omega
    simp only [Sem.run_bind, List.getElem?_toArray, List.getElem?_cons_zero, List.getElem?_cons_succ, hd, hd2, Result.andThen_ok, hs', Sem.run_pure]
    simp only [if_true, asInt, asIntOf, Sem.run_bind, Sem.run_pure, Result.andThen_ok, hwz]
    rw [if_neg hzl]
    simp only [Sem.run_bind, hxi, Result.andThen_ok]
    rw [if_neg hzm]
    simp only [Sem.run_bind, Sem.run_pure, Result.andThen_ok, Int.toNat_natCast, hcond, if_false, hxi]
    have hmax : IntKind.i64.max = 9223372036854775807 := by decide
    have hsmall : n + z ≤ 281474976710656 := by
      have h1 : (2 * (n + z) + 1024) * 1 ≤ (2 * (n + z) + 1024) * j.bytes := Nat.mul_le_mul_left _ (by omega)
      omega
    rw [if_neg (by rw [hmax]; rintro ⟨hh, _⟩; omega)]
    simp only [Sem.run_bind, hxi, Result.andThen_ok]
    rw [if_neg hnb']
    have hch : (choose (.appendCap (n + z) cap el)).run P w = .ok nc w.drew := by
      rw [run_choose, if_neg (by simp [Question.forced]), hcap', hnc]; rfl
    obtain ⟨xi2, hxi2, _, _, _⟩ := hj'.typeInfo w.drew
    have hz2 := hj'.zeroValue w.drew
    have hf2 := hf w.drew H.drew
    simp only [Sem.run_bind, hch, Result.andThen_ok, hxi2, run_askRoom, hf2, run_newRow, Sem.run_pure]
    rw [if_neg (by decide)]
    by_cases h0 : z * j.size = 0
    · have hemp : Builtin.zeroCells j.zero.cells z = #[] := by
        apply Array.eq_empty_of_size_eq_zero
        simp only [Builtin.zeroCells, Array.size_map, Array.size_range]
        have : j.zero.cells.size = j.size := by rw [← hzs]; simp
        rw [this]; exact h0
      rw [if_pos h0, hemp]
      simp only [Sem.run_pure, Result.andThen_ok, hz2]
      rfl
    · rw [if_neg h0]
      simp only [Sem.run_bind, hz2, Sem.run_pure, Result.andThen_ok]
      rfl
  simp only [Go.builtin, Sem.run_bind, h3, Result.andThen_ok, Sem.run_pure]
/-- slices.overlaps of slices over two plain blocks: they do not. -/
theorem Ret.overlaps {P : Program} {tab : Tab} (hT : TabOk P tab) {f : FuncId} {fn : Func} (hf : P.funcs[f]? = some fn) (hb : fn.body.isNone = true) (hn : (fn.name == "runtime.NumGoroutine") = false)
    (hx : (Extern.findNext fn).isNone = true) {t r el : TypeId} (hy : Extern.find fn = some (Extern.SlicesOverlaps.overlaps #[t, t] #[r])) {i j : TI} (hi : tab t = some i) (hk : i.k = .slice el) (hj : tab el = some j)
    (H : St g h w L) {a b oa ob la ca lb cb ka kb : Nat} {xa xb : Array Value} {ea eb : TypeId} (ha : At (a, .cells xa ea (0, 0)) ka L) (hb' : At (b, .cells xb eb (0, 0)) kb L) (hne : a ≠ b) (h0 : 0 < xb.size) {K : Value → World → Prop} (k : K (.bool false) w) :
    Ret P f [.slice (some ⟨a, oa, none⟩) la ca, .slice (some ⟨b, ob, none⟩) lb cb] w K := by
  have h1 : w.heap[a]? = some (.cells xa ea (0, 0)) := H.own _ ha.mem
  have h2 : w.heap[b]? = some (.cells xb eb (0, 0)) := H.own _ hb'.mem
  have hu : P.underlying t = some (.slice el) := by
    have hdk := (hT.ty _ _ hi).kind
    rw [hk] at hdk
    cases hq : P.underlying t with
    | none => have := (hT.ty _ _ hi).some?; rw [hq] at this; cases this
    | some d => rw [hq] at hdk; cases d <;> simp [dk] at hdk; rw [hdk]
  have hfa : ∀ o, w.frozen? ⟨a, o, none⟩ = false := fun o => by simp [World.frozen?, h1]
  have hsa : w.shape? a = some (ea, xa.size) := by simp [World.shape?, h1]
  have hsb : w.shape? b = some (eb, xb.size) := by simp [World.shape?, h2]
  have hnn : Extern.findNext fn = none := by cases hq : Extern.findNext fn with
    | none => rfl
    | some q => rw [hq] at hx; cases hx
  have key := Lib.run_overlaps_apart (P := P) w t r el hu j.size (hT.ty _ _ hj).sizeOf ⟨a, oa, none⟩ ⟨b, ob, none⟩ la ca lb cb hne ea eb xa.size xb.size hsa hsb (by omega) (hfa _) (hfa _)
  refine ⟨?_⟩
  have := run_callFunc_extern hf hn hb hnn hy #[.slice (some ⟨a, oa, none⟩) la ca, .slice (some ⟨b, ob, none⟩) lb cb] w
  rw [key] at this
  show retK P K (Sem.run P (callFunc f #[.slice (some ⟨a, oa, none⟩) la ca, .slice (some ⟨b, ob, none⟩) lb cb]) w)
  rw [this]
  exact k
end
end RL
