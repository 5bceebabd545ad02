/- Calling a method through an interface that holds a pointer; making such an interface; maps of whole numbers. Conditions: the type's row names the method. -/
import Derived.Test.YtbdoinigeaaclaaGreatK16
import Derived.ChangeKeysEq
import Derived.WideMake
import Derived.MapKept
set_option linter.all false
namespace RL
open Go
theorem InvO.ptr {P : Program} {t e : TypeId} {f : FuncId} {name : String} {recv : Value} {args : List Value} {w : World} {K : Value → World → Prop}
    (hm : ((P.info? t).bind fun i => (i.methods.find? (·.name == name)).map fun m => (m.path.size, m.func)) = some (0, some (f, true))) (hu : P.underlying t = some (.pointer e))
    (h : Ret P f (recv :: args) w K) : InvO P (.iface t recv) name args w K := by
  obtain ⟨h⟩ := h
  refine ⟨?_⟩
  cases hi : P.info? t with
  | none => rw [hi] at hm; cases hm
  | some i =>
    rw [hi] at hm
    simp only [Option.bind_some] at hm
    cases hf : i.methods.find? (·.name == name) with
    | none => rw [hf] at hm; cases hm
    | some m =>
      rw [hf] at hm
      simp only [Option.map_some, Option.some.injEq, Prod.mk.injEq] at hm
      have hp : m.path = #[] := Array.eq_empty_of_size_eq_zero hm.1
      have h1 : (method (P.types.size + Made.depth) t recv name).run P w = .ok (f, recv) w := by
        show (method ((P.types.size + 99) + 1) t recv name).run P w = _
        unfold method
        simp only [Sem.run_bind, run_typeInfo w hi, Result.andThen_ok, hf, hp, hm.2]
        simp [follow, receiverAt, run_underlying hu, Place.get]
      have h2 : (callMethod (.iface t recv) name args.toArray).run P w = (callFunc f (recv :: args).toArray).run P w := by
        simp only [callMethod, Sem.run_bind, run_program, Result.andThen_ok, h1]
        simp
      rw [h2]; exact h
theorem TyOk.zero {P : Program} {t : TypeId} {i : TI} (h : TyOk P t i) (w : World) : (Go.zeroValue t).run P w = .ok i.zero w := by
  have h2 := h.info
  cases hi : P.info? t with
  | none => rw [hi] at h2; cases h2
  | some j =>
    rw [hi] at h2
    simp only [Option.map_some, Option.some.injEq, Prod.mk.injEq] at h2
    unfold Go.zeroValue
    simp only [Sem.run_bind, run_typeInfo w hi, Result.andThen_ok, h2.2.2, Sem.run_pure]
section
variable {g : World} {h : Hp} {w : World} {L : List (Nat × Obj)} {P : Program} {d : Option Tmp} {ty : TypeId} {pos : String} {af : Array Edge} {gd : Option (Nat × Bool)} {e : Env}
theorem St.setObj (H : St g h w L) {b k : Nat} {o : Obj} (ha : At (b, o) k L) (o' : Obj) : St g h { w with heap := w.heap.setIfInBounds b o' } (setAt k o' L) := by
  have hlt : b < w.heap.size := H.own_lt ha.mem
  refine ⟨H.os, H.tape, H.output, ?_, fun k' u e' => ?_, fun p hp => ?_, fun p hp => ?_, by rw [setAt_keys]; exact H.nodup⟩
  · show g.heap.size ≤ (w.heap.setIfInBounds b o').size
    rw [Array.size_setIfInBounds]; exact H.size
  · have hne : k' ≠ b := fun e0 => by subst e0; rw [H.apart _ ha.mem] at e'; cases e'
    show (w.heap.setIfInBounds b o')[k']? = some u
    rw [Array.getElem?_setIfInBounds_ne (Ne.symm hne)]; exact H.agree _ _ e'
  · show (w.heap.setIfInBounds b o')[p.1]? = some p.2
    rcases mem_setAt ha H.nodup hp with rfl | ⟨hp, hne⟩
    · rw [Array.getElem?_setIfInBounds_self_of_lt hlt]
    · rw [Array.getElem?_setIfInBounds_ne (Ne.symm hne)]; exact H.own _ hp
  · rcases mem_setAt ha H.nodup hp with rfl | ⟨hp, hne⟩
    · exact H.apart (b, o) ha.mem
    · exact H.apart _ hp
theorem PurO.mkIface {t el : TypeId} {x : Operand} (hu : P.underlying t = some (.pointer el)) {K : Value → Prop} (k : K (.iface t (ev e x))) : PurO P ⟨d, .makeInterface t x, ty, pos, af, gd⟩ e K := by
  refine ⟨⟨_, fun w => ?_, k⟩⟩
  have he : execOp (ev e) ⟨d, .makeInterface t x, ty, pos, af, gd⟩ = (Instr.makeInterface t (ev e x) >>= fun r => pure (.value r)) := rfl
  rw [he]
  simp [Instr.makeInterface, run_underlying hu, Sem.run_bind]
theorem RunO.makeMap (H : St g h w L) {t : TypeId} {K : Value → World → Prop} (k : ∀ b w', St g h w' ((b, .map #[] 0) :: L) → K (.map (some b)) w') : RunO P ⟨d, .makeMap t none, ty, pos, af, gd⟩ e w K := by
  refine ⟨⟨_, _, .inl ?_, k _ _ (H.alloc (.map #[] 0))⟩⟩
  have he : execOp (ev e) ⟨d, .makeMap t none, ty, pos, af, gd⟩ = (Instr.makeMap t none >>= fun r => pure (.value r)) := rfl
  rw [he, Sem.run_bind, run_makeMap_plain]; rfl
theorem RunO.insertNew (H : St g h w L) {t kt et : TypeId} {b i : Nat} {ik : IntKind} {z : Int} {es : Array MapEntry} {clock : Nat} {m x y : Operand} (hu : P.underlying t = some (.map kt et)) (hk : P.underlying kt = some (.int ik)) (ha : At (b, .map es clock) i L)
    (hm : ev e m = .map (some b)) (hx : ev e x = .int ik z) (hno : Instr.findNow (.int ik) (.int ik z) es.toList 0 = some none)
    {K : Value → World → Prop} (k : ∀ w', St g h w' (setAt i (.map (es.push { key := .int ik z, val := ev e y, born := clock }) (clock + 1)) L) → K undef w') : RunO P ⟨d, .insert t m x y, ty, pos, af, gd⟩ e w K := by
  have hb := H.own _ ha.mem
  have hc : (Instr.checkKey false 10000 kt (.int ik z)).run P w = .ok () w := MapKept.run_checkKey (k := .int ik z) hk (by simp [MapKept.IsKey]) false 9999
  have h1 : (Instr.mapUpdate t (.map (some b)) (.int ik z) (ev e y)).run P w = .ok () { w with heap := w.heap.setIfInBounds b (.map (es.push { key := .int ik z, val := ev e y, born := clock }) (clock + 1)) } := by
    simp [Instr.mapUpdate, run_underlying hu, MapKept.run_getObj_map hb, hc, MapKept.run_findKey hk hno, MapKept.run_setObj_map _ hb, Result.andThen]
  refine ⟨⟨undef, _, .inr ⟨?_, rfl⟩, k _ (H.setObj ha _)⟩⟩
  have he : execOp (ev e) ⟨d, .insert t m x y, ty, pos, af, gd⟩ = (Instr.mapUpdate t (ev e m) (ev e x) (ev e y) >>= fun _ => pure .skip) := rfl
  rw [he, hm, hx, Sem.run_bind, h1]; rfl
def lookR (z0 : Value) : Option (Nat × Value) → Value
  | some (_, v) => .tuple #[v, .bool true]
  | none => .tuple #[z0, .bool false]
theorem RunO.lookupInt (H : St g h w L) {t kt et : TypeId} {b i : Nat} {ik : IntKind} {z : Int} {es : Array MapEntry} {clock : Nat} {m x : Operand} (hu : P.underlying t = some (.map kt et)) (hk : P.underlying kt = some (.int ik)) (ha : At (b, .map es clock) i L)
    (hm : ev e m = .map (some b)) (hx : ev e x = .int ik z) {r : Option (Nat × Value)} {z0 : Value} (hf : Instr.findNow (.int ik) (.int ik z) es.toList 0 = some r) (hz : (Go.zeroValue et).run P w = .ok z0 w)
    {K : Value → World → Prop} (k : K (lookR z0 r) w) : RunO P ⟨d, .lookup t m x true, ty, pos, af, gd⟩ e w K := by
  have hb := H.own _ ha.mem
  have hc : ∀ q, (Instr.checkKey q 10000 kt (.int ik z)).run P w = .ok () w := fun q => MapKept.run_checkKey (k := .int ik z) hk (by simp [MapKept.IsKey]) q 9999
  have h1 : (Instr.lookup t (.map (some b)) (.int ik z) true).run P w = .ok (lookR z0 r) w := by
    cases r with
    | none => simp [Instr.lookup, run_underlying hu, MapKept.run_getObj_map hb, hc, MapKept.run_findKey hk hf, hz, Result.andThen, lookR]
    | some p => simp [Instr.lookup, run_underlying hu, MapKept.run_getObj_map hb, hc, MapKept.run_findKey hk hf, Result.andThen, lookR]
  refine ⟨⟨_, w, .inl ?_, k⟩⟩
  have he : execOp (ev e) ⟨d, .lookup t m x true, ty, pos, af, gd⟩ = (Instr.lookup t (ev e m) (ev e x) true >>= fun r => pure (.value r)) := rfl
  rw [he, hm, hx, Sem.run_bind, h1]; rfl
end
end RL
