/- A range over a function: a call of yield, a round out of its body's walk, the statement itself. Conditions: the table fits the program's types; the rounds defer nothing. -/
import Derived.Test.YtbdoinigeaaclaaGreatK19
set_option linter.all false
namespace RL
open Go
section
variable {P : Program} {tab : Tab} {g : World} {h : Hp} {w : World} {L : List (Nat × Obj)}
def yieldV (l : Nat) : Value := .func (.yield l) #[] #[]
/-- The temporaries of a round. -/
def roundTmps (r : Loop) (args : List Value) : Array Value := (r.params.zip args.toArray).foldl (fun tmps (t, a) => tmps.setIfInBounds t a) r.tmps
/-- A call of yield. -/
inductive YldO (P : Program) (l : Nat) (args : List Value) (w : World) (K : Value → World → Prop) : Prop
  | mk (h : ∃ r : Loop, w.heap[l]? = some (.loop r) ∧ args.length = r.params.size ∧ ∀ m, RoundIn Fence.wide m P l r.fn (roundTmps r args) r.assign r.body w fun e w' => ∃ v, e = .returned v ∧ K v w')
theorem YldO.mono {l : Nat} {args : List Value} {K K' : Value → World → Prop} (q : YldO P l args w K) (hm : ∀ v w', K v w' → K' v w') : YldO P l args w K' := by
  obtain ⟨⟨r, h1, h2, h3⟩⟩ := q
  exact ⟨⟨r, h1, h2, fun m => (h3 m).mono fun e w' ⟨v, hv, hK⟩ => ⟨v, hv, hm _ _ hK⟩⟩⟩
theorem wpListIn_op (hT : TabOk P tab) {F : Fence} (hF : Open F) {m : Nat} {ops : Array Oper} {Q : Exit → Act → World → Prop} {o : Oper} {rest : List Oper} {a : Act} {e : Env} (he : envOf a = e) (hg : o.guard = none) (hc : calmOp o = true)
    (h : opT P tab o e w fun v w' => wpListIn F m P ops Q rest (a.put o.dst v) w') : wpListIn F m P ops Q (o :: rest) a w := by
  subst he
  refine wpListIn_plain hg fun K hK => runK_wpIn hF hc ?_
  rw [eval_eq]
  exact runK_mono (fun v w' hv => hK _ _ hv) (opT_run hT h)
theorem wpListIn_yield {F : Fence} (hF : Open F) (hF2 : F = Fence.wide) {m : Nat} {ops : Array Oper} {Q : Exit → Act → World → Prop} {d : Option Tmp} {f : Operand} {args : Array Operand} {ts : Array TypeId} {ty : TypeId} {pos : String} {af : Array Edge} {rest : List Oper} {a : Act} {l : Nat}
    (hf : a.eval f = yieldV l) (h : YldO P l (args.toList.map a.eval) w fun v w' => wpListIn F m P ops Q rest (a.put d v) w') : wpListIn F m P ops Q (⟨d, .call ⟨.value f, args, ts⟩, ty, pos, af, none⟩ :: rest) a w := by
  subst hF2
  obtain ⟨⟨r, hr, hn, hR⟩⟩ := h
  refine wpListIn_plain rfl fun K hK => ⟨fun f _ => trivial, ?_⟩
  rw [Oper.semAt_eq _ _ _ (fun c hc => by cases hc)]
  have he : (execOp a.eval ⟨d, .call ⟨.value f, args, ts⟩, ty, pos, af, none⟩).run P w = .ok (.round l r.fn (roundTmps r (args.toList.map a.eval)) r.assign r.body) w := by
    have h1 : execOp a.eval ⟨d, .call ⟨.value f, args, ts⟩, ty, pos, af, none⟩ = Instr.yield l (args.toList.map a.eval).toArray := by
      unfold execOp
      simp only [resolve, hf, yieldV, Deferred.ofValue]
      show (Pure.pure _ >>= fun d : Deferred => invoke d.target d.args) = _
      rw [pure_bind]
      simp only [invoke]
      congr 1
      apply Array.ext'; simp
    rw [h1, run_yield hr (by simpa using hn)]
    rfl
  rw [he]
  simp only [Oper.uponIn]
  exact ⟨fun hd => (by cases hd), (hR _).mono fun e w' ⟨v, hv, hK'⟩ => by subst hv; exact hK _ _ hK'⟩
/-- What is asked at a round's end. -/
def rpost (l : Nat) (K : Value → World → Prop) : Post := fun x _ _ w => ∃ r : Loop, w.heap[l]? = some (.loop r) ∧ match x with
  | .normal => K (.bool true) (w.putObj l (.loop { r with state := .ready, pending := none }))
  | .ret => K (.bool false) (w.putObj l (.loop { r with state := .done, pending := some .ret }))
  | .exit id => K (.bool false) (w.putObj l (.loop { r with state := .done, pending := some (.exit id) }))
  | _ => False
theorem YldO.of (hT : TabOk P tab) {l : Nat} {r : Loop} {args : List Value} {K : Value → World → Prop} {n : Nat} {e : Env} (hl : w.heap[l]? = some (.loop r)) (hs : r.state = .ready) (hn : args.length = r.params.size)
    (hsz : (roundTmps r args).size = n) (he : envOf ⟨roundTmps r args, []⟩ = e) (h1 : codeOk n r.assign = true) (h2 : codeOk n r.body = true) (c1 : calmC r.assign = true) (c2 : calmC r.body = true)
    (h : TC P tab r.assign (fun x e ds w1 => x = .normal ∧ w1.heap[l]? = some (.loop r) ∧ TC P tab r.body (rpost l K) e ds (w1.putObj l (.loop { r with state := .busy }))) e [] w) : YldO P l args w K := by
  refine ⟨r, hl, hn, fun m => ?_⟩
  refine roundIn_of_wpIn (F := Fence.wide) trivial ?_
  refine Go.wpIn_mono (TCIn_sound hT (open_round l) (m := m) r.assign _ h1 c1 e [] w ⟨roundTmps r args, []⟩ ⟨hsz, he, rfl⟩ h) ?_
  intro x a w1 hx
  cases x with
  | normal =>
    obtain ⟨hz, _, hl1, hb⟩ := hx
    refine ⟨_, run_beginRound hl1 hs, ?_⟩
    refine Go.wpIn_mono (TCIn_sound hT (open_round l) (m := m) r.body _ h2 c2 _ _ _ a ⟨hz, rfl, rfl⟩ hb) ?_
    intro y a2 w2 hy
    cases y with
    | normal =>
      obtain ⟨_, r2, hr2, hK⟩ := hy
      exact ⟨_, _, run_endRound none hr2, _, rfl, hK⟩
    | ret =>
      obtain ⟨_, r2, hr2, hK⟩ := hy
      exact ⟨_, _, run_endRound (some .ret) hr2, _, rfl, hK⟩
    | exit id =>
      obtain ⟨_, r2, hr2, hK⟩ := hy
      exact ⟨_, _, run_endRound (some (.exit id)) hr2, _, rfl, hK⟩
    | _ => exact hy.elim
  | ret => exact absurd hx.2.1 (by intro h; cases h)
  | exit id => exact absurd hx.2.1 (by intro h; cases h)
  | _ => exact hx.elim
/-- The statement. -/
theorem RangeO.of (hT : TabOk P tab) (H : St g h w L) {gf : Operand} {ps : Array Tmp} {assign body : Code} {Q : Post} {e : Env} {ds : List Deferred} {f : FuncId} {fn : Func} {caps : Array Value} (hg : ev e gf = .func (.func f) #[] caps)
    (hf : P.funcs[f]? = some fn) (hb : fn.body.isNone = false) (hn : (fn.name == "runtime.NumGoroutine") = false)
    (hk : ∀ (l bd : Nat) (r : Loop) (w1 : World), r.state = .ready → r.pending = none → r.params = ps → r.assign = assign → r.body = body → envOf ⟨r.tmps, []⟩ = e →
      (∃ n, r.tmps.size = n ∧ codeOk n assign = true ∧ codeOk n body = true) → St g h w1 ((l, .loop r) :: (bd, .deferred (some [])) :: L) →
      Ret P f (yieldV l :: caps.toList) w1 fun _ w2 => ∃ (r2 : Loop) (w3 : World), w2.heap[l]? = some (.loop r2) ∧ r2.state ≠ .busy ∧ w3 = w2.putObj l (.loop { r2 with state := .exhausted }) ∧
        (match r2.pending with
         | none => Q .normal e (⟨.collected bd, #[]⟩ :: ds) w3
         | some (.exit id) => Q (.exit id) e (⟨.collected bd, #[]⟩ :: ds) w3
         | some .ret => Q .ret e (⟨.collected bd, #[]⟩ :: ds) w3
         | some _ => False)) : RangeO P gf ps assign body Q e ds w := by
  refine ⟨fun n a c1 c2 hs he hd => wpIn_wide (n := 0).1 (wpIn_rangeFunc (F := Fence.wide) fun fnI _ => ?_)⟩
  have hent := run_enterLoop_outer (P := P) (w := w) fnI a.tmps ps assign body
  have hev : a.eval gf = .func (.func f) #[] caps := by rw [eval_eq, he]; exact hg
  have H1 := (H.alloc (.deferred (some []))).alloc (.loop { state := .ready, pending := none, fn := fnI, tmps := a.tmps, params := ps, assign := assign, body := body, defers := w.heap.size })
  rw [World.size_alloc] at H1
  have hr := hk (w.heap.size + 1) w.heap.size _ _ rfl rfl rfl rfl rfl (by rw [← he]; rfl) ⟨n, hs, c1, c2⟩ H1
  obtain ⟨hr⟩ := hr
  generalize (w.alloc (.deferred (some []))).alloc (.loop { state := .ready, pending := none, fn := fnI, tmps := a.tmps, params := ps, assign := assign, body := body, defers := w.heap.size }) = W2 at hent hr
  have hcf := callFunc_run hf hb hn (args := (yieldV (w.heap.size + 1) :: caps.toList).toArray) W2
  rw [hcf] at hr
  simp only [retK] at hr
  refine ⟨w.heap.size + 1, [{ target := .collected w.heap.size, args := #[] }], W2, { target := .fn (.func f) caps, args := #[yieldV (w.heap.size + 1)] }, W2, f, (yieldV (w.heap.size + 1) :: caps.toList).toArray, W2, hent, ?_, fun _ _ => trivial, ?_, fun hx => (by cases hx), (callsIn_wide (n := 0 - 1)).2 (hr.mono ?_)⟩
  · simp only [resolve, rangeCall, hev, Deferred.ofValue, Sem.run_pure]
    have : Array.map a.eval #[Operand.const (Value.func (Fn.yield (w.heap.size + 1)) #[] #[])] = #[yieldV (w.heap.size + 1)] := by
      apply Array.ext'; simp [eval_eq, ev, yieldV]
    rw [this]; rfl
  · have : (#[yieldV (w.heap.size + 1)] : Array Value) ++ caps = (yieldV (w.heap.size + 1) :: caps.toList).toArray := by apply Array.ext'; simp
    simp only [invoke, this]
    exact hcf
  · rintro x w2 ⟨v, rfl, r2, w3, hr2, hb2, hw3, hQ⟩
    refine ⟨_, w3, by rw [hw3]; exact run_endLoop hr2 hb2, ?_⟩
    have hfin : ∀ x : Exit, (match x with | .panic _ | .outgrown | .goto _ => False | _ => True) → Q x e (⟨.collected w.heap.size, #[]⟩ :: ds) w3 →
        lift n Q x { a with defers := [⟨.collected w.heap.size, #[]⟩] ++ a.defers } w3 := fun x hx hq => by
      have he2 : envOf { a with defers := [⟨.collected w.heap.size, #[]⟩] ++ a.defers } = e := he
      cases x <;> first | exact hx.elim | (refine ⟨hs, ?_⟩; rw [he2]; show Q _ e (_ :: a.defers) _; rw [hd]; exact hq)
    split
    · rename_i hp
      rw [hp] at hQ
      exact hfin .normal trivial hQ
    · rename_i c hp
      rw [hp] at hQ
      cases c <;> first | exact hQ.elim | skip
      · exact wpIn_exit (hfin _ trivial hQ)
      · exact wpIn_ret (hfin _ trivial hQ)
/-- Where the branches of a test meet again. -/
def nrm (I : Env → List Deferred → World → Prop) : Post := fun x e ds w => match x with
  | .normal => I e ds w
  | _ => False
theorem CondT.cut {t : Bool} {f : Bool → Prop} {A B : Code} {K : Env → List Deferred → World → Prop} {Q : Post} {e : Env} {ds : List Deferred} (I : Env → List Deferred → World → Prop)
    (ft : f true = TC P tab A (seqQ K Q) e ds w) (ff : f false = TC P tab B (seqQ K Q) e ds w) (ha : t = true → TC P tab A (nrm I) e ds w) (hb : t = false → TC P tab B (nrm I) e ds w) (hk : ∀ e ds w, I e ds w → K e ds w) : CondT t f := by
  have hm : ∀ x e ds w, nrm I x e ds w → seqQ K Q x e ds w := fun x e ds w h => by
    cases x with
    | normal => exact hk _ _ _ h
    | _ => exact h.elim
  cases t with
  | true => exact ⟨by rw [ft]; exact TC_mono A hm _ _ _ (ha rfl)⟩
  | false => exact ⟨by rw [ff]; exact TC_mono B hm _ _ _ (hb rfl)⟩
end
end RL
