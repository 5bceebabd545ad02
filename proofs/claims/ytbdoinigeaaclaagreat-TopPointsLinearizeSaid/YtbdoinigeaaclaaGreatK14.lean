/- Functions that defer calls. Conditions: the table fits the program's types. -/
import Derived.Test.YtbdoinigeaaclaaGreatK13
import Derived.Defers
set_option linter.all false
namespace RL
open Go
/-- A deferred call that returns. -/
inductive RetD (P : Program) (f : FuncId) (args : List Value) (w : World) (K : World → Prop) : Prop
  | mk (h : (∀ u, CallsD P f args.toArray u w fun e u' w' => u' = u ∧ (∃ v, e = .returned v) ∧ K w') ∧ (callFunc f args.toArray).run P w = .ok (.enter f args.toArray) w)
theorem RetD.mono {P : Program} {f : FuncId} {args : List Value} {w : World} {K K' : World → Prop} (h : RetD P f args w K) (hm : ∀ w', K w' → K' w') : RetD P f args w K' := by
  obtain ⟨h1, h2⟩ := h
  exact ⟨fun u => (h1 u).mono fun e u' w' ⟨a, b, c⟩ => ⟨a, b, hm _ c⟩, h2⟩
/-- What a body leaves: its deferred calls, then its results. -/
def leaveT (P : Program) (tab : Tab) (rs : List ResultVar) (K : Value → World → Prop) : List Deferred → Env → World → Prop
  | [], e, w => resT tab rs e w fun vs => K (retV vs) w
  | d :: ds, e, w => match d.target with
    | .fn (.func g) cap => RetD P g (d.args.toList ++ cap.toList) w fun w' => leaveT P tab rs K ds e w'
    | _ => False
def postD (P : Program) (tab : Tab) (rs : List ResultVar) (K : Value → World → Prop) : Post := fun x e ds w => match x with
  | .normal | .ret => leaveT P tab rs K ds e w
  | _ => False
section
variable {P : Program} {tab : Tab}
theorem leaveT_run (hT : TabOk P tab) {fn : Func} {K : Value → World → Prop} {a : Act} : ∀ (ds : List Deferred) (w : World), leaveT P tab fn.results.toList K ds (envOf a) w →
    Leaves P fn a.tmps (fun x w => ∃ v, x = .returned v ∧ K v w) ds .returning w
  | [], w, h => by
    obtain ⟨v, hv, hK⟩ := results_run (fn := fn) (K := fun v => K v w) hT h
    exact ⟨v, hv, v, rfl, hK⟩
  | d :: ds, w, h => by
    obtain ⟨t, as⟩ := d
    simp only [leaveT] at h
    split at h
    · rename_i g cap
      obtain ⟨h1, h2⟩ := h
      refine leaves_cons (f := g) (args := (as.toList ++ cap.toList).toArray) (by intro h; cases h) ?_ ((h1 .returning).mono ?_)
      · have : (as.toList ++ cap.toList).toArray = as ++ cap := by apply Array.ext'; simp
        rw [this] at h2 ⊢
        exact h2
      · rintro e u' w' ⟨rfl, ⟨v, rfl⟩, hK⟩
        exact leaveT_run hT ds w' hK
    · exact h.elim
/-- **A function that defers is entered.** -/
theorem Ret.enterD (hT : TabOk P tab) {f : FuncId} {fn : Func} {c : Code} {n : Nat} {args : List Value} {w : World} {K : Value → World → Prop}
    (hf : P.funcs[f]? = some fn) (hb : fn.body = some c) (hn : (fn.name == "runtime.NumGoroutine") = false) (hs : fn.ntmps = n) (ha : Nat.ble args.length n = true) (hok : codeOk n c = true)
    (h : TC P tab c (postD P tab fn.results.toList K) (ini args) [] w) : Ret P f args w K := by
  refine ⟨?_⟩
  rw [callFunc_run hf (by rw [hb]; rfl) hn]
  simp only [retK]
  refine calls_of_wp_defers hf hb ?_
  have hle := Nat.le_of_ble_eq_true ha
  refine wp_lift (TC_sound hT c _ hok _ _ _ _ ⟨?_, ini_env _ _, rfl⟩ h) ?_
  · simp [hs]; omega
  · intro x a w' hx
    cases x with
    | normal => exact leaveT_run hT _ _ hx.2
    | ret => exact leaveT_run hT _ _ hx.2
    | exit id => exact hx.2.elim
    | _ => exact hx.elim
/-- A deferred function is entered. -/
theorem RetD.enter (hT : TabOk P tab) {f : FuncId} {fn : Func} {c : Code} {n : Nat} {args : List Value} {w : World} {K : World → Prop}
    (hf : P.funcs[f]? = some fn) (hb : fn.body = some c) (hn : (fn.name == "runtime.NumGoroutine") = false) (hs : fn.ntmps = n) (ha : Nat.ble args.length n = true) (hok : codeOk n c = true)
    (h : TC P tab c (post tab fn.results.toList fun _ => K) (ini args) [] w) : RetD P f args w K := by
  refine ⟨fun u => ?_, callFunc_run hf (by rw [hb]; rfl) hn _ _⟩
  refine (callsD_of_wp (R := fun x w => (∃ v, x = .returned v) ∧ K w) hf hb ?_).mono fun e u' w' h => h
  have hle := Nat.le_of_ble_eq_true ha
  refine wp_lift (TC_sound hT c _ hok _ _ _ _ ⟨?_, ini_env _ _, rfl⟩ h) ?_
  · simp [hs]; omega
  · intro x a w' hx
    cases x with
    | normal =>
      obtain ⟨h1, h2⟩ := hx
      simp only [post] at h2
      split at h2
      · rename_i hds
        obtain ⟨v, hv, hK⟩ := results_run (fn := fn) (K := fun _ => K w') hT h2
        exact ⟨hds, v, hv, ⟨v, rfl⟩, hK⟩
      · exact h2.elim
    | ret =>
      obtain ⟨h1, h2⟩ := hx
      simp only [post] at h2
      split at h2
      · rename_i hds
        obtain ⟨v, hv, hK⟩ := results_run (fn := fn) (K := fun _ => K w') hT h2
        exact ⟨hds, v, hv, ⟨v, rfl⟩, hK⟩
      · exact h2.elim
    | exit id => exact hx.2.elim
    | _ => exact hx.elim
end
end RL
