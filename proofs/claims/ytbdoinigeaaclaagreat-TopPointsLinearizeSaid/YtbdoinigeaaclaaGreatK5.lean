/- The transformer is sound: operations that touch the world, regions in order and in whatever order, code, calls. Conditions: the table fits the program's types. -/
import Derived.Test.YtbdoinigeaaclaaGreatK4
set_option linter.all false
namespace RL
open Go

theorem wrap64_in (n : Int) (h : -9223372036854775808 ≤ n) (h' : n ≤ 9223372036854775807) : IntKind.i64.wrap n = n := by
  simp [IntKind.wrap, IntKind.bits, IntKind.signed]; omega
section
variable {P : Program} {tab : Tab}
theorem retK_runK {K : Value → World → Prop} {r : Result Next} (h : retK P K r) : runK P K r := by
  cases r with
  | halt x w' => exact h.elim
  | ok nx w' => cases nx <;> first | exact h | exact h.elim
theorem Ret_runK {f : FuncId} {args : List Value} {w : World} {K : Value → World → Prop} (h : Ret P f args w K) : runK P K ((callFunc f args.toArray).run P w) := retK_runK h.1
theorem InvO_runK {r : Value} {n : String} {args : List Value} {w : World} {K : Value → World → Prop} (h : InvO P r n args w K) : runK P K ((callMethod r n args.toArray).run P w) := retK_runK h.1
theorem zero_cells (hT : TabOk P tab) {t : TypeId} {i : TI} (hi : tab t = some i) : i.zero.cells.size = i.size := by
  have := (hT.ty _ _ hi).zsz
  simpa using this
theorem run_newRow (P : Program) (t : TypeId) (cs : Array Value) (w : World) : (newRow t cs).run P w = .ok ⟨w.heap.size, 0, none⟩ (w.alloc (.cells cs t)) := by
  simp [newRow]
theorem opT_run (hT : TabOk P tab) {o : Oper} {e : Env} {w : World} {K : Value → World → Prop} (h : opT P tab o e w K) : runK P K ((execOp (ev e) o).run P w) := by
  have pur : pureT P tab o e (fun v => K v w) → runK P K ((execOp (ev e) o).run P w) := fun h => by
    obtain ⟨v, h1, h2⟩ := pureT_run hT h
    rw [h2 w]; exact h1
  have rn : RunO P o e w K → runK P K ((execOp (ev e) o).run P w) := fun ⟨⟨v, w', h1, h2⟩⟩ => by
    rcases h1 with h1 | ⟨h1, rfl⟩
    · rw [h1]; exact h2
    · rw [h1]; exact h2
  have both : ∀ b : Bool, byB b (pureT P tab o e (fun v => K v w)) (RunO P o e w K) → runK P K ((execOp (ev e) o).run P w) := fun b hb => by
    cases b
    · exact rn hb
    · exact pur hb
  have lift : ∀ (s : Sem Value) (v : Value) (w' : World), (execOp (ev e) o = (s >>= fun r => pure (.value r))) → s.run P w = .ok v w' → K v w' → runK P K ((execOp (ev e) o).run P w) :=
    fun s v w' hs h1 h2 => by rw [hs]; simp only [Sem.run_bind, h1, Result.andThen_ok, Sem.run_pure]; exact h2
  cases ho : o.op <;> simp only [opT, ho] at h <;> try exact both _ h
  case alloc t =>
    split at h
    · rename_i i hi
      refine lift (Instr.alloc t true (.tuple #[])) _ _ (by unfold execOp; rw [ho]) ?_ (h.1 _ _ rfl rfl)
      simp [Instr.alloc, (hT.ty _ _ hi).zeroValue w, newVar, run_newRow]
    · exact h.elim
  case box t x =>
    refine lift (Instr.box t (ev e x)) _ _ (by unfold execOp; rw [ho]) ?_ (h.1 _ _ rfl rfl)
    simp [Instr.box, newVar, run_newRow]
  case load t x =>
    split at h
    · rename_i i hi
      obtain ⟨⟨v, hv, hK⟩⟩ := h
      exact lift (Instr.loadAt t (ev e x)) v w (by unfold execOp; rw [ho]) (run_loadAt (hT.ty _ _ hi) hv) hK
    · exact h.elim
  case store t a x =>
    split at h
    · rename_i i hi
      obtain ⟨⟨b, off, ha, h1, h2, h3, hK⟩⟩ := h
      have := run_storeAt (hT.ty _ _ hi) h1 h2 h3
      have he : execOp (ev e) o = (Instr.storeAt t (ev e a) (ev e x) >>= fun _ => pure Next.skip) := by unfold execOp; rw [ho]
      rw [he, ha]
      simp only [Sem.run_bind, this, Result.andThen_ok, Sem.run_pure]
      exact hK _ rfl
    · exact h.elim
  case buildSlice t len parts =>
    split at h
    · rename_i i hi
      split at h
      · rename_i el hk
        split at h
        · rename_i j hj
          split at h
          · rename_i hble
            split at h
            · rename_i cs hf
              refine lift (Instr.buildSlice t len (parts.map fun (i, x) => (i, ev e x))) _ _ (by unfold execOp; rw [ho]) ?_ (h.1 _ _ rfl rfl)
              obtain ⟨d, hd, hdk, -⟩ := (hT.ty _ _ hi).underlying w
              rw [hk] at hdk
              have hs := (hT.ty _ _ hj).sizeOf w
              have hz := (hT.ty _ _ hj).zeroValue w
              have hsz := zero_cells hT hj
              have hle := Nat.le_of_ble_eq_true hble
              cases d <;> simp [dk] at hdk
              subst hdk
              have hcells : ∀ z : Array Value, (len * j.size = 0 ∧ z = #[] ∨ len * j.size ≠ 0 ∧ z = j.zero.cells) →
                  (Array.range (len * j.size)).map (z[· % z.size]!) = (repL len j.zero.cells.toList).toArray := by
                rintro z (⟨h0, rfl⟩ | ⟨_, rfl⟩)
                · rw [h0]
                  have : (repL len j.zero.cells.toList).length = 0 := by rw [repL_length]; simpa [hsz] using h0
                  rw [List.length_eq_zero_iff.1 this]; simp
                · rw [← hsz]; exact zeros_eq _ _
              have hfill : Instr.fill (fun i => some (i * j.size, j.size)) (repL len j.zero.cells.toList).toArray (parts.map fun (i, x) => (i, ev e x)).toList = some cs.toArray :=
                fill_eq (fun k => rfl) _ _ _ (by rw [map_parts]; simpa using hf)
              unfold Instr.buildSlice
              simp only [Sem.run_bind, hd, Result.andThen_ok, hs]
              rw [if_neg (by omega)]
              by_cases h0 : len * j.size = 0
              · simp only [h0, if_true, Sem.run_bind, Sem.run_pure, Result.andThen_ok]
                have := hcells #[] (.inl ⟨h0, rfl⟩)
                rw [h0] at this
                rw [this, hfill]
                simp only [Sem.run_bind, run_newRow, Result.andThen_ok, Sem.run_pure]
              · simp only [h0, if_false, Sem.run_bind, hz, Sem.run_pure, Result.andThen_ok]
                rw [hcells _ (.inr ⟨h0, rfl⟩), hfill]
                simp only [Sem.run_bind, run_newRow, Result.andThen_ok, Sem.run_pure]
            · exact h.elim
          · exact h.elim
        · exact h.elim
      · exact h.elim
    · exact h.elim
  case makeSlice t l c =>
    split at h
    · rename_i i hi
      split at h
      · rename_i el hk
        split at h
        · rename_i j hj
          obtain ⟨⟨n, m, k, k', hl, hc, hnm, hm, hb, hK⟩⟩ := h
          refine lift (Instr.makeSlice t (ev e l) (ev e c)) _ _ (by unfold execOp; rw [ho]) ?_ (hK.1 _ _ rfl rfl)
          obtain ⟨d, hd, hdk, -⟩ := (hT.ty _ _ hi).underlying w
          rw [hk] at hdk
          have hs := (hT.ty _ _ hj).sizeOf w
          have hz := (hT.ty _ _ hj).zeroValue w
          have hsz := zero_cells hT hj
          obtain ⟨x, hx, _, hxb, _⟩ := (hT.ty _ _ hj).typeInfo w
          cases d <;> simp [dk] at hdk
          subst hdk
          have hw1 : IntKind.i64.wrap (n : Int) = n := wrap64_in _ (by omega) (by omega)
          have hw2 : IntKind.i64.wrap (m : Int) = m := wrap64_in _ (by omega) (by omega)
          have hcells : ∀ z : Array Value, (m * j.size = 0 ∧ z = #[] ∨ m * j.size ≠ 0 ∧ z = j.zero.cells) →
              (Array.range (m * j.size)).map (z[· % z.size]!) = (repL m j.zero.cells.toList).toArray := by
            rintro z (⟨h0, rfl⟩ | ⟨_, rfl⟩)
            · rw [h0]
              have : (repL m j.zero.cells.toList).length = 0 := by rw [repL_length]; simpa [hsz] using h0
              rw [List.length_eq_zero_iff.1 this]; simp
            · rw [← hsz]; exact zeros_eq _ _
          have hb' : ((j.bytes : Int) * (m : Int)) ≤ 281474976710656 := by omega
          have hbad : ((decide ((m : Int) < 0) || decide ((j.bytes : Int) * (m : Int) > 2 ^ 48)) || decide ((n : Int) < 0) || decide ((n : Int) > (m : Int))) = false := by
            have h1 : ¬ ((m : Int) < 0) := by omega
            have h2 : ¬ ((j.bytes : Int) * (m : Int) > 2 ^ 48) := by
              have : (2 : Int) ^ 48 = 281474976710656 := by decide
              omega
            have h3 : ¬ ((n : Int) < 0) := by omega
            have h4 : ¬ ((n : Int) > (m : Int)) := by omega
            rw [decide_eq_false h1, decide_eq_false h2, decide_eq_false h3, decide_eq_false h4]; rfl
          unfold Instr.makeSlice
          rw [hl, hc]
          simp only [Sem.run_bind, hd, Result.andThen_ok, asInt, asIntOf, Sem.run_pure, hx, hw1, hw2, hxb, hs]
          rw [if_neg (by rw [hbad]; decide)]
          simp only [Sem.run_bind, run_askRoom, Result.andThen_ok, hs, Int.toNat_natCast, Sem.run_pure]
          by_cases h0 : m * j.size = 0
          · simp only [h0, if_true, Sem.run_bind, Sem.run_pure, Result.andThen_ok]
            have := hcells #[] (.inl ⟨h0, rfl⟩)
            rw [h0] at this
            rw [this]
            simp only [run_newRow, Result.andThen_ok, Sem.run_pure]
          · simp only [h0, if_false, Sem.run_bind, hz, Sem.run_pure, Result.andThen_ok]
            rw [hcells _ (.inr ⟨h0, rfl⟩)]
            simp only [run_newRow, Result.andThen_ok, Sem.run_pure]
        · exact h.elim
      · exact h.elim
    · exact h.elim
  case call c =>
    obtain ⟨callee, args, argTypes⟩ := c
    cases callee with
    | value f =>
      simp only at h
      split at h
      · rename_i g first captured hf
        have := Ret_runK h
        have he : execOp (ev e) o = callFunc g (first.toList ++ args.toList.map (ev e) ++ captured.toList).toArray := by
          unfold execOp; rw [ho]
          simp only [resolve, hf, Deferred.ofValue]
          show (Pure.pure _ >>= fun d : Deferred => invoke d.target d.args) = _
          rw [pure_bind]
          simp only [invoke]
          congr 1
          apply Array.ext'; simp
        rw [he]; exact this
      · exact h.elim
    | invoke r n =>
      simp only at h
      have := InvO_runK h
      have he : execOp (ev e) o = callMethod (ev e r) n (args.toList.map (ev e)).toArray := by
        unfold execOp; rw [ho]
        simp only [resolve]
        show (Pure.pure _ >>= fun d : Deferred => invoke d.target d.args) = _
        rw [pure_bind]
        simp only [invoke]
        have h1 : (#[ev e r] ++ Array.map (ev e) args)[0]? = some (ev e r) := by
          rw [Array.getElem?_append_left (by simp)]; rfl
        rw [h1]
        simp only
        congr 1
        apply Array.ext'; simp [List.take_of_length_le]
      rw [he]; exact this
    | builtin b =>
      simp only at h
      exact both _ h
end
end RL
