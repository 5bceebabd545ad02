/- Walks within a round of a range over a function; entering a function that holds such a range. Conditions: the table fits the program's types; no call is deferred in a round. -/
import Derived.Test.YtbdoinigeaaclaaGreatK18
import Derived.RangeFuncRecord
import Derived.TacticsIn
import Derived.RangeFuncCalls
set_option linter.all false
namespace RL
open Go
/-- Straight code that defers nothing. -/
def calmOp (o : Oper) : Bool := match o.op with
  | .defer _ => false
  | _ => true
def calmC : Code → Bool
  | .skip | .exit _ | .ret => true
  | .region _ ops false => ops.toList.all calmOp
  | .seq a b => calmC a && calmC b
  | .cond _ a b => calmC a && calmC b
  | .block _ c => calmC c
  | _ => false
/-- A fence that lets everything in. -/
structure Open (F : Fence) : Prop where
  fn : ∀ f, F.fn f
  depth : F.depth = none
  calls : ∀ {P : Program} {n : Nat} {f : FuncId} {args : Array Value} {w : World} {R : Ending → World → Prop}, Calls P f args w R → CallsIn F n P f args w R
theorem open_wide : Open Fence.wide := ⟨fun _ => trivial, rfl, fun h => callsIn_wide.2 h⟩
theorem open_round (l : Nat) : Open (Fence.wide.inRound l) := ⟨fun _ => trivial, rfl, fun h => CallsIn.inRound l (callsIn_wide.2 h)⟩
section
variable {P : Program} {tab : Tab} {F : Fence}
theorem runK_wpIn (hF : Open F) {m : Nat} {o : Oper} (ho : calmOp o = true) {a : Act} {w : World} {next : Act → World → Prop} {Q : Exit → Act → World → Prop}
    (h : runK P (fun v w' => next (a.put o.dst v) w') ((execOp a.eval o).run P w)) : o.wpIn F m P a w next Q := by
  refine ⟨fun f _ => hF.fn f, ?_⟩
  rw [Oper.semAt_eq _ _ _ (fun c hc => by unfold calmOp at ho; rw [hc] at ho; cases ho)]
  generalize (execOp a.eval o).run P w = r at *
  cases r with
  | halt x w' => exact h.elim
  | ok nx w' =>
    cases nx <;> simp only [runK] at h <;> simp only [Oper.uponIn] <;> try exact h
    refine ⟨fun hd => (by rw [hF.depth] at hd; cases hd), (hF.calls h).mono fun x w'' ⟨v, hx, hv⟩ => by subst hx; exact hv⟩
theorem TLIn_sound (hT : TabOk P tab) (hF : Open F) {m : Nat} {ops : Array Oper} {n : Nat} {K : Env → List Deferred → World → Prop} {Q : Exit → Act → World → Prop}
    (hQ : ∀ a e ds w, Fr n a e ds → K e ds w → Q .normal a w) : ∀ (l : List Oper), l.all (dstOk n) = true → l.all calmOp = true → ∀ (kg : Kg) (e : Env) (ds : List Deferred) (w : World) (a : Act), Fr n a e ds → KgOk kg e →
      TL P tab ops.toList l kg K e ds w → wpListIn F m P ops Q l a w
  | [], _, _, _, e, ds, w, a, hf, _, h => hQ a e ds w hf h
  | o :: rest, hd, hc, kg, e, ds, w, a, hf, hkg, h => by
    simp only [List.all_cons, Bool.and_eq_true] at hd hc
    rw [TL_cons] at h
    unfold stepL at h
    unfold wpListIn
    obtain ⟨kg, hkg, ⟨hw, h⟩ | ⟨hw, h⟩⟩ := guardT_cases hf hkg h
    · rw [if_pos hw]
      split at h
      · rename_i c ho
        have := hc.1
        unfold calmOp at this
        rw [ho] at this
        cases this
      · apply runK_wpIn hF hc.1
        rw [eval_eq, hf.env]
        exact runK_mono (fun v w' hv => TLIn_sound hT hF hQ rest hd.2 hc.2 _ _ _ _ _ (hf.put hd.1 v) (hkg.rm _ _) hv) (opT_run hT h)
    · rw [if_neg (by rw [hw]; decide)]
      exact ⟨fun f _ => hF.fn f, TLIn_sound hT hF hQ rest hd.2 hc.2 _ _ _ _ _ (hf.put hd.1 _) (hkg.rm _ _) h⟩
theorem wpIn_lift {c : Code} {m n : Nat} {Q : Post} {R : Exit → Act → World → Prop} {a : Act} {w : World} (h : c.wpIn F m P (lift n Q) a w)
    (hm : ∀ x a w, lift n Q x a w → R x a w) : c.wpIn F m P R a w := Go.wpIn_mono h hm
theorem TCIn_sound (hT : TabOk P tab) (hF : Open F) {m n : Nat} : ∀ (c : Code) (Q : Post), codeOk n c = true → calmC c = true → ∀ (e : Env) (ds : List Deferred) (w : World) (a : Act), Fr n a e ds →
    TC P tab c Q e ds w → c.wpIn F m P (lift n Q) a w
  | .skip, Q, _, _, e, ds, w, a, hf, h => wpIn_skip ⟨hf.size, by rw [hf.env, hf.defers]; exact h⟩
  | .region _ ops false, Q, hok, hc, e, ds, w, a, hf, h => by
    refine wpIn_region_list (TLIn_sound hT hF (Q := lift n Q) (K := Q .normal) (fun a e ds w hf hK => ⟨hf.size, by rw [hf.env, hf.defers]; exact hK⟩) ops.toList (by simpa [codeOk] using hok) (by simpa [calmC] using hc) [] e ds w a hf (KgOk.nil e) h)
  | .seq x y, Q, hok, hc, e, ds, w, a, hf, h => by
    simp only [codeOk, calmC, Bool.and_eq_true] at hok hc
    refine wpIn_seq (wpIn_lift (TCIn_sound hT hF x _ hok.1 hc.1 e ds w a hf h) ?_)
    intro x' a' w' hx
    cases x' with
    | normal => exact TCIn_sound hT hF y Q hok.2 hc.2 _ _ _ _ ⟨hx.1, rfl, rfl⟩ hx.2
    | _ => exact hx
  | .cond c x y, Q, hok, hcc, e, ds, w, a, hf, h => by
    simp only [codeOk, calmC, Bool.and_eq_true] at hok hcc
    rw [TC_cond] at h
    unfold condT at h
    cases hv : ev e c <;> simp only [hv] at h
    rename_i t
    have hc : a.eval c = .bool t := by rw [eval_eq, hf.env]; exact hv
    have h := CondT_elim h
    cases t
    · exact wpIn_cond_false hc (TCIn_sound hT hF y Q hok.2 hcc.2 _ _ _ _ hf h)
    · exact wpIn_cond_true hc (TCIn_sound hT hF x Q hok.1 hcc.1 _ _ _ _ hf h)
  | .block id c, Q, hok, hc, e, ds, w, a, hf, h => by
    refine wpIn_block (wpIn_lift (TCIn_sound hT hF c _ (by simpa [codeOk] using hok) (by simpa [calmC] using hc) e ds w a hf h) ?_)
    intro x' a' w' hx
    cases x' with
    | exit id' =>
      simp only [lift, blockQ] at hx
      simp only [Exit.inBlock]
      by_cases hid : id' = id
      · subst hid
        rw [if_pos rfl]
        have : Nat.beq id' id' = true := by simp
        rw [this] at hx
        exact hx
      · rw [if_neg hid]
        rw [nbeq_ne hid] at hx
        exact hx
    | _ => exact hx
  | .exit id, Q, _, _, e, ds, w, a, hf, h => wpIn_exit ⟨hf.size, by rw [hf.env, hf.defers]; exact h⟩
  | .ret, Q, _, _, e, ds, w, a, hf, h => wpIn_ret ⟨hf.size, by rw [hf.env, hf.defers]; exact h⟩
/-- What a body leaves where it holds a range over a function: the marks of its blocks for deferred calls, then its results. -/
def leaveM (P : Program) (tab : Tab) (rs : List ResultVar) (K : Value → World → Prop) : List Deferred → Env → World → Prop
  | [], e, w => resT tab rs e w fun vs => K (retV vs) w
  | d :: ds, e, w => match d.target with
    | .collected r => w.heap[r]? = some (.deferred (some [])) ∧ leaveM P tab rs K ds e (w.putObj r (.deferred none))
    | _ => False
def postM (P : Program) (tab : Tab) (rs : List ResultVar) (K : Value → World → Prop) : Post := fun x e ds w => match x with
  | .normal | .ret => leaveM P tab rs K ds e w
  | _ => False
theorem leaveM_run (hT : TabOk P tab) {fn : Func} {K : Value → World → Prop} {a : Act} {m : Nat} : ∀ (ds : List Deferred) (w : World), leaveM P tab fn.results.toList K ds (envOf a) w →
    LeavesInM Fence.wide m P fn a.tmps (fun x w => ∃ v, x = .returned v ∧ K v w) ds .returning w
  | [], w, h => by
    obtain ⟨v, hv, hK⟩ := results_run (fn := fn) (K := fun v => K v w) hT h
    exact ⟨v, hv, v, rfl, hK⟩
  | d :: ds, w, h => by
    obtain ⟨t, as⟩ := d
    simp only [leaveM] at h
    split at h
    · rename_i r
      exact ⟨(by intro h; cases h), .inl ⟨r, _, rfl, run_takeDeferred h.1, leaveM_run hT ds _ h.2⟩⟩
    · exact h.elim
/-- **A function that holds a range over a function is entered.** -/
theorem Ret.enterM (hT : TabOk P tab) {f : FuncId} {fn : Func} {c : Code} {n : Nat} {args : List Value} {w : World} {K : Value → World → Prop}
    (hf : P.funcs[f]? = some fn) (hb : fn.body = some c) (hn : (fn.name == "runtime.NumGoroutine") = false) (hs : fn.ntmps = n) (ha : Nat.ble args.length n = true) (hok : codeOk n c = true)
    (h : TC P tab c (postM P tab fn.results.toList K) (ini args) [] w) : Ret P f args w K := by
  refine ⟨?_⟩
  rw [callFunc_run hf (by rw [hb]; rfl) hn]
  simp only [retK]
  refine (callsIn_wide (n := 0)).1 (callsIn_of_wp_marks (F := Fence.wide) hf hb trivial (wpIn_wide.2 ?_) rfl)
  have hle := Nat.le_of_ble_eq_true ha
  refine wp_lift (TC_sound hT c _ hok _ _ _ _ ⟨?_, ini_env _ _, rfl⟩ h) ?_
  · simp [hs]; omega
  · intro x a w' hx
    cases x with
    | normal => exact leaveM_run hT _ _ hx.2
    | ret => exact leaveM_run hT _ _ hx.2
    | exit id => exact hx.2.elim
    | _ => exact hx.elim
end
end RL
