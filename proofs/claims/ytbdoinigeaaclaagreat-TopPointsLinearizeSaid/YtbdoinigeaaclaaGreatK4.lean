/- The transformer is sound: composite values, and what only computes. Conditions: the table fits the program's types. -/
import Derived.Test.YtbdoinigeaaclaaGreatK3
set_option linter.all false
namespace RL
open Go

theorem foldl_set (off : Nat) : ∀ (vs : List Value) (k : Nat) (cs : Array Value), off + k + vs.length ≤ cs.size →
    ((vs.zipIdx k).foldl (fun cs (p : Value × Nat) => cs.setIfInBounds (off + p.2) p.1) cs).toList = cs.toList.take (off + k) ++ vs ++ cs.toList.drop (off + k + vs.length)
  | [], k, cs, h => by simp
  | v :: vs, k, cs, h => by
    simp only [List.zipIdx_cons, List.foldl_cons]
    rw [foldl_set off vs (k + 1) _ (by simp at h ⊢; omega)]
    have hlt : off + k < cs.toList.length := by simp at h ⊢; omega
    simp only [Array.toList_setIfInBounds, List.length_cons]
    rw [List.set_eq_take_append_cons_drop, if_pos hlt]
    have h1 : (cs.toList.take (off + k)).length = off + k := by rw [List.length_take]; omega
    rw [show off + (k + 1) = off + k + 1 by omega]
    rw [List.take_append_of_le_length' h1, List.drop_append_of_le_length' h1 vs.length]
    simp [Nat.add_comm, Nat.add_left_comm]
where
  List.take_append_of_le_length' {n : Nat} {l : List Value} {x : Value} {r : List Value} (h : l.length = n) : (l ++ x :: r).take (n + 1) = l ++ [x] := by
    subst h
    rw [List.take_append]; simp [List.take_of_length_le]
  List.drop_append_of_le_length' {n : Nat} {l : List Value} {x : Value} {r : List Value} (h : l.length = n) (m : Nat) : (l ++ x :: r).drop (n + 1 + m) = r.drop m := by
    subst h
    rw [List.drop_append]
    rw [List.drop_eq_nil_of_le (by omega), show l.length + 1 + m - l.length = m + 1 by omega]
    simp
theorem setR_eq : ∀ (vs l : List Value) (o : Nat), o + vs.length ≤ l.length → setR l o vs = l.take o ++ vs ++ l.drop (o + vs.length) := by
  intro vs l
  induction l generalizing vs with
  | nil =>
    intro o h
    cases vs with
    | nil => unfold setR; simp
    | cons v vs => simp at h
  | cons x l ih =>
    intro o h
    cases vs with
    | nil => unfold setR; simp
    | cons v vs =>
      cases o with
      | zero =>
        simp only [setR]
        rw [ih vs 0 (by simp at h ⊢; omega)]
        simp
      | succ o =>
        simp only [setR]
        rw [ih (v :: vs) o (by simp at h ⊢; omega)]
        rw [show o + 1 + (v :: vs).length = o + (v :: vs).length + 1 by omega]
        simp
theorem fill_eq {place place' : Nat → Option (Nat × Nat)} (hp : ∀ i, place i = place' i) : ∀ (parts : List (Nat × Value)) (cells : Array Value) (out : List Value),
    fillL place' cells.toList parts = some out → Instr.fill place cells parts = some out.toArray
  | [], cells, out, h => by simp [fillL] at h; subst h; simp [Instr.fill]
  | (i, v) :: rest, cells, out, h => by
    unfold fillL at h
    unfold Instr.fill
    rw [hp]
    cases hpl : place' i with
    | none => rw [hpl] at h; cases h
    | some p =>
      obtain ⟨off, size⟩ := p
      rw [hpl] at h
      simp only at h ⊢
      cases hc : (Nat.beq v.cells.toList.length size && Nat.ble (off + size) cells.toList.length) with
      | false => rw [hc] at h; cases h
      | true =>
        rw [hc] at h
        simp only [cond_true] at h
        simp only [Bool.and_eq_true] at hc
        have h1 := Nat.eq_of_beq_eq_true hc.1
        have h2 := Nat.le_of_ble_eq_true hc.2
        have h3 : v.cells.size = size := by simpa using h1
        have h4 : off + v.cells.size ≤ cells.size := by rw [h3]; simpa using h2
        rw [if_neg (by simp [h3]; omega)]
        refine fill_eq hp rest _ out ?_
        rw [← h]
        congr 1
        have := foldl_set off v.cells.toList 0 cells (by simpa using h4)
        rw [← Array.foldl_toList, Array.toList_zipIdx, this, setR_eq _ _ _ (by simpa using h4)]
        simp
theorem repL_get (z : List Value) : ∀ (n i : Nat), i < n * z.length → (repL n z)[i]? = z[i % z.length]?
  | 0, i, h => by simp at h
  | n + 1, i, h => by
    unfold repL
    by_cases hi : i < z.length
    · rw [List.getElem?_append_left hi, Nat.mod_eq_of_lt hi]
    · rw [List.getElem?_append_right (by omega), repL_get z n _ (by rw [Nat.succ_mul] at h; omega), ← Nat.mod_eq_sub_mod (by omega)]
theorem repL_length (z : List Value) : ∀ n, (repL n z).length = n * z.length
  | 0 => by simp [repL]
  | n + 1 => by simp [repL, repL_length z n, Nat.succ_mul, Nat.add_comm]
theorem zeros_eq (z : Array Value) (n : Nat) : (Array.range (n * z.size)).map (z[· % z.size]!) = (repL n z.toList).toArray := by
  apply Array.ext'
  apply List.ext_getElem?
  intro i
  by_cases hi : i < n * z.size
  · have h1 := repL_get z.toList n i (by simpa using hi)
    have hz : 0 < z.size := by
      rcases Nat.eq_zero_or_pos z.size with h | h
      · rw [h] at hi; simp at hi
      · exact h
    have hm : i % z.size < z.size := Nat.mod_lt _ hz
    simp [h1, hi, hm]
  · have h1 : (repL n z.toList)[i]? = none := by rw [List.getElem?_eq_none]; rw [repL_length]; simp; omega
    simp only [h1, Array.toList_map, List.getElem?_map]
    rw [List.getElem?_eq_none (by simp; omega)]
    rfl

section
variable {P : Program} {tab : Tab}
theorem placesOf_run (hT : TabOk P tab) (w : World) : ∀ (fs : List Field) (ps : List (Nat × Nat)), placesOf tab (fs.map fun f => (f.offset, f.type)) = some ps →
    (List.mapM (fun f => do pure (f.offset, ← Go.sizeOf f.type) : Field → Sem (Nat × Nat)) fs).run P w = .ok ps w
  | [], ps, h => by simp [placesOf] at h; subst h; rfl
  | f :: fs, ps, h => by
    simp only [List.map_cons, placesOf] at h
    cases hj : tab f.type with
    | none => simp [hj] at h
    | some j =>
      cases hr : placesOf tab (fs.map fun f => (f.offset, f.type)) with
      | none => simp [hj, hr] at h
      | some l =>
        simp [hj, hr] at h
        subst h
        have h1 := placesOf_run hT w fs l hr
        have h2 := (hT.ty _ _ hj).sizeOf w
        simp only [List.mapM_cons, Sem.run_bind, h2, Result.andThen_ok, Sem.run_pure, h1]
theorem build_run (hT : TabOk P tab) {t : TypeId} {i : TI} (hi : tab t = some i) {fs : List (Nat × TypeId)} (hk : i.k = .struct fs) {ps : List (Nat × Nat)} (hps : placesOf tab fs = some ps)
    {parts : Array (Nat × Value)} {cs : List Value} (hf : fillL (nth ps) i.zero.cells.toList parts.toList = some cs) (w : World) :
    (Instr.build t parts).run P w = .ok (.agg cs.toArray) w := by
  have ht := hT.ty _ _ hi
  obtain ⟨d, hd, hdk, -⟩ := ht.underlying w
  rw [hk] at hdk
  have hz := ht.zeroValue w
  cases d <;> simp [dk] at hdk
  rename_i fa
  have h1 := placesOf_run hT w fa.toList ps (by rw [hdk]; exact hps)
  have h2 : Instr.fill (ps.toArray[·]?) i.zero.cells parts.toList = some cs.toArray := fill_eq (place' := nth ps) (fun k => by rw [nth_eq]; simp) _ _ _ hf
  unfold Instr.build
  simp only [Sem.run_bind, hz, Result.andThen_ok, hd, Array.mapM_eq_mapM_toList, Sem.run_map, h1]
  rw [h2]
  rfl
theorem buildArr_run (hT : TabOk P tab) {t : TypeId} {i j : TI} (hi : tab t = some i) {n : Nat} {el : TypeId} (hk : i.k = .arr n el) (hj : tab el = some j)
    {parts : Array (Nat × Value)} {cs : List Value} (hf : fillL (fun i => some (i * j.size, j.size)) i.zero.cells.toList parts.toList = some cs) (w : World) :
    (Instr.build t parts).run P w = .ok (.agg cs.toArray) w := by
  have ht := hT.ty _ _ hi
  obtain ⟨d, hd, hdk, -⟩ := ht.underlying w
  rw [hk] at hdk
  have hz := ht.zeroValue w
  have hs := (hT.ty _ _ hj).sizeOf w
  cases d <;> simp [dk] at hdk
  obtain ⟨rfl, rfl⟩ := hdk
  have h2 : Instr.fill (fun i => some (i * j.size, j.size)) i.zero.cells parts.toList = some cs.toArray := fill_eq (fun k => rfl) _ _ _ hf
  unfold Instr.build
  simp only [Sem.run_bind, hz, Result.andThen_ok, hd, hs, h2]
  rfl
theorem map_parts (e : Env) (parts : Array (Nat × Operand)) : (parts.map fun (i, x) => (i, ev e x)).toList = parts.toList.map fun p => (p.1, ev e p.2) := by
  simp
theorem pureT_run (hT : TabOk P tab) {o : Oper} {e : Env} {K : Value → Prop} (h : pureT P tab o e K) : ∃ v, K v ∧ ∀ w, (execOp (ev e) o).run P w = .ok (.value v) w := by
  have pur : PurO P o e K → ∃ v, K v ∧ ∀ w, (execOp (ev e) o).run P w = .ok (.value v) w := fun ⟨⟨v, h1, h2⟩⟩ => ⟨v, h2, h1⟩
  have lift : ∀ (s : Sem Value), (execOp (ev e) o = (s >>= fun r => pure (.value r))) → (∃ v, K v ∧ ∀ w, s.run P w = .ok v w) →
      ∃ v, K v ∧ ∀ w, (execOp (ev e) o).run P w = .ok (.value v) w := fun s hs ⟨v, h1, h2⟩ => ⟨v, h1, fun w => by rw [hs]; simp [h2]⟩
  cases ho : o.op <;> simp only [pureT, ho] at h <;> try exact pur h
  case move x => exact ⟨_, h, fun w => by unfold execOp; rw [ho]; rfl⟩
  case assign x => exact ⟨_, h, fun w => by unfold execOp; rw [ho]; rfl⟩
  case pick c a b =>
    split at h
    · rename_i t hc
      refine ⟨_, h, fun w => ?_⟩
      unfold execOp; rw [ho]
      simp only [hc]
      cases t <;> rfl
    · exact h.elim
  case build t parts =>
    split at h
    · rename_i i hi
      split at h
      · rename_i fs hk
        split at h
        · rename_i ps hps
          split at h
          · rename_i cs hf
            refine lift (Instr.build t (parts.map fun (i, x) => (i, ev e x))) (by unfold execOp; rw [ho]) ⟨_, h, fun w => build_run hT hi hk hps (by rw [map_parts]; exact hf) w⟩
          · exact h.elim
        · exact h.elim
      · rename_i n el hk
        split at h
        · rename_i j hj
          split at h
          · rename_i cs hf
            refine lift (Instr.build t (parts.map fun (i, x) => (i, ev e x))) (by unfold execOp; rw [ho]) ⟨_, h, fun w => buildArr_run hT hi hk hj (by rw [map_parts]; exact hf) w⟩
          · exact h.elim
        · exact h.elim
      · exact h.elim
    · exact h.elim
  case nilCheck x =>
    split at h
    · rename_i a hx
      exact ⟨_, h, fun w => by unfold execOp; rw [ho]; simp only [hx]; rfl⟩
    · exact pur h
  case binOp op t x y yt => exact binT_run hT ho h
  case unOp op t x =>
    split at h
    · rename_i b hx
      exact lift (Op.unary .not (ev e x)) (by unfold execOp; rw [ho]) ⟨_, h, fun w => by rw [hx]; rfl⟩
    · rename_i k n hx
      exact lift (Op.unary .neg (ev e x)) (by unfold execOp; rw [ho]) ⟨_, h.1, fun w => by rw [hx]; rfl⟩
    · exact pur h
  case convert src dst x =>
    split at h
    · rename_i j i k0 n hsrc hi hx
      split at h
      · rename_i k hk
        refine lift (Go.convert src dst (ev e x)) (by unfold execOp; rw [ho]) ⟨_, h.1, fun w => ?_⟩
        obtain ⟨d, hd, hdk, -⟩ := (hT.ty _ _ hi).underlying w
        obtain ⟨d', hd', _, _⟩ := (hT.ty _ _ hsrc).underlying w
        rw [hk] at hdk
        cases d <;> simp [dk] at hdk
        subst hdk
        rw [hx]
        unfold Go.convert
        simp [hd, hd', Conv.intToInt]
      · exact pur h
    · exact pur h
  case makeFunc fn first captured =>
    refine lift (Instr.makeFunc fn (first.map (ev e)) (captured.map (ev e))) (by unfold execOp; rw [ho]) ⟨_, h, fun w => ?_⟩
    simp only [Instr.makeFunc, Sem.run_pure]
    rw [← Array.toList_map, ← Array.toList_map]
  case slice t x lo hi mx =>
    split at h
    · rename_i i hi'
      split at h
      · rename_i el hk
        split at h
        · rename_i j hj
          exact lift (Instr.sliceAt t (ev e x) (lo.map (ev e)) (hi.map (ev e)) (mx.map (ev e))) (by unfold execOp; rw [ho]) (SlcO_run (hT.ty _ _ hi') hk (hT.ty _ _ hj) h)
        · exact h.elim
      · exact pur h
    · exact h.elim
  case fieldAddr s x f =>
    split at h
    · rename_i i hi
      split at h
      · rename_i fs hk
        split at h
        · rename_i off sz hpl
          split at h
          · exact h.elim
          · rename_i hsz
            split at h
            · rename_i b oo hx
              refine lift (Instr.fieldAt s (ev e x) f) (by unfold execOp; rw [ho]) ⟨_, h, fun w => ?_⟩
              obtain ⟨d, hd, hdk, -⟩ := (hT.ty _ _ hi).underlying w
              rw [hk] at hdk
              cases d <;> simp [dk] at hdk
              rename_i fa
              unfold placeOf at hpl
              rw [nth_eq, ← hdk] at hpl
              simp only [List.getElem?_map] at hpl
              cases hfa : fa.toList[f]? with
              | none => simp [hfa] at hpl
              | some fl =>
                simp only [hfa, Option.map_some] at hpl
                split at hpl
                · rename_i j hj
                  simp at hpl
                  obtain ⟨rfl, rfl⟩ := hpl
                  have hs := (hT.ty _ _ hj).sizeOf w
                  have hne : j.size ≠ 0 := fun h0 => by rw [h0] at hsz; cases hsz
                  have hfa' : fa[f]? = some fl := by simpa using hfa
                  rw [hx]
                  simp [Instr.fieldAt, hd, hfa', Instr.sureAddr, fieldPlace, hs, hne, addr_add]
                · cases hpl
            · exact h.elim
        · exact h.elim
      · exact h.elim
    · exact h.elim
  case field s x f =>
    split at h
    · rename_i i hi
      split at h
      · rename_i fs hk
        split at h
        · rename_i off ft hpl
          split at h
          · rename_i j hj
            split at h
            · rename_i cs hx
              have key : ∀ w, ∃ fl : Field, (∃ fa : Array Field, (Go.underlying s).run P w = .ok (.struct fa) w ∧ fa[f]? = some fl) ∧ fl.offset = off ∧ fl.type = ft := fun w => by
                obtain ⟨d, hd, hdk, -⟩ := (hT.ty _ _ hi).underlying w
                rw [hk] at hdk
                cases d <;> simp [dk] at hdk
                rename_i fa
                rw [nth_eq, ← hdk] at hpl
                simp only [List.getElem?_map] at hpl
                cases hfa : fa.toList[f]? with
                | none => simp [hfa] at hpl
                | some fl => simp [hfa] at hpl; exact ⟨fl, ⟨fa, hd, by simpa using hfa⟩, hpl.1, hpl.2⟩
              split at h
              · rename_i hag
                refine lift (Instr.field s (ev e x) f) (by unfold execOp; rw [ho]) ⟨_, h, fun w => ?_⟩
                obtain ⟨fl, ⟨fa, hd, hfa⟩, rfl, rfl⟩ := key w
                have ha := (hT.ty _ _ hj).isAgg w
                have hs := (hT.ty _ _ hj).sizeOf w
                rw [hag] at ha
                rw [hx]
                simp [Instr.field, hd, hfa, asAgg, part, ha, hs]
                rw [← Array.toList_inj]; simp
              · rename_i hag
                split at h
                · rename_i v hv
                  refine lift (Instr.field s (ev e x) f) (by unfold execOp; rw [ho]) ⟨_, h, fun w => ?_⟩
                  obtain ⟨fl, ⟨fa, hd, hfa⟩, rfl, rfl⟩ := key w
                  have ha := (hT.ty _ _ hj).isAgg w
                  rw [hag] at ha
                  rw [hx]
                  rw [nth_eq] at hv
                  have hv' : cs[fl.offset]? = some v := by simpa using hv
                  simp [Instr.field, hd, hfa, asAgg, part, ha, hv']
                · exact h.elim
            · exact h.elim
          · exact h.elim
        · exact h.elim
      · exact h.elim
    · exact h.elim
  case indexAddr t x ix =>
    split at h
    · rename_i i hi'
      split at h
      · rename_i el hk
        split at h
        · rename_i j hj
          exact lift (Instr.indexAt t (ev e x) (ev e ix)) (by unfold execOp; rw [ho]) (IdxO_run (hT.ty _ _ hi') hk (hT.ty _ _ hj) h)
        · exact h.elim
      · rename_i n el hk
        split at h
        · rename_i j hj
          exact lift (Instr.indexAt t (ev e x) (ev e ix)) (by unfold execOp; rw [ho]) (IdaO_run (hT.ty _ _ hi') hk (hT.ty _ _ hj) h)
        · exact h.elim
      · exact pur h
    · exact h.elim
  case extract x i =>
    split at h
    · rename_i vs hx
      split at h
      · rename_i v hv
        refine lift (Instr.extract (ev e x) i) (by unfold execOp; rw [ho]) ⟨_, h, fun w => ?_⟩
        rw [hx]
        rw [nth_eq] at hv
        have hv' : vs[i]? = some v := by simpa using hv
        simp [Instr.extract, hv']
      · exact h.elim
    · exact h.elim
  case call c =>
    obtain ⟨callee, args, argTypes⟩ := c
    cases callee with
    | value f => exact pur h
    | invoke r n => exact pur h
    | builtin b =>
      cases b <;> (try simp only at h) <;> try exact pur h
      all_goals
        split at h
        · rename_i t x ht hx
          split at h
          · rename_i i hi
            split at h
            · rename_i el a n c hk hv
              refine ⟨_, h, fun w => ?_⟩
              unfold execOp; rw [ho]
              obtain ⟨d, hd, hdk, -⟩ := (hT.ty _ _ hi).underlying w
              rw [hk] at hdk
              cases d <;> simp [dk] at hdk
              rw [nth_eq] at ht hx
              have ht' : argTypes[0]? = some t := by simpa using ht
              have hx' : args[0]? = some x := by simpa using hx
              have hx'' : (args.map (ev e))[0]? = some (.slice a n c) := by simp [hx', hv]
              simp [resolve, invoke, Go.builtin, Builtin.len_, Builtin.cap_, ht', hx'', hd, goInt]
              try (simp [hx', hv, hd, goInt])
            · exact pur h
          · exact pur h
        · exact h.elim
end
end RL
