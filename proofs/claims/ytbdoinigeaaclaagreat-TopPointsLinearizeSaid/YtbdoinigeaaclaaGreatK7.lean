/- The transformer is monotone; it is sound for whole code and for calls; the moves of a walk. Conditions: the table fits the program's types. -/
import Derived.Test.YtbdoinigeaaclaaGreatK6
set_option linter.all false
namespace RL
open Go
section
variable {P : Program} {tab : Tab}
theorem PurO_mono {o : Oper} {e : Env} {K K' : Value → Prop} (hm : ∀ v, K v → K' v) : PurO P o e K → PurO P o e K' := fun ⟨⟨v, h1, h2⟩⟩ => ⟨⟨v, h1, hm _ h2⟩⟩
theorem ArO_mono {k : IntKind} {z : Int} {K K' : Value → Prop} (hm : ∀ v, K v → K' v) : ArO k z K → ArO k z K' := fun h => ⟨hm _ h.1⟩
theorem DivO_mono {k : IntKind} {op : BinOp} {a b : Int} {K K' : Value → Prop} (hm : ∀ v, K v → K' v) : DivO k op a b K → DivO k op a b K' := fun ⟨⟨h, h'⟩⟩ => ⟨⟨h, by cases op <;> first | exact hm _ h' | exact h'⟩⟩
theorem ShO_mono {k : IntKind} {op : BinOp} {a b : Int} {K K' : Value → Prop} (hm : ∀ v, K v → K' v) : ShO k op a b K → ShO k op a b K' := fun ⟨⟨h, h'⟩⟩ => ⟨⟨h, by cases op <;> first | exact hm _ h' | exact h'⟩⟩
theorem IdxO_mono {sz : Nat} {x i : Value} {K K' : Value → Prop} (hm : ∀ v, K v → K' v) : IdxO sz x i K → IdxO sz x i K' :=
  fun ⟨⟨b, o, len, cap, k, n, h1, h2, h3, h4, h5⟩⟩ => ⟨⟨b, o, len, cap, k, n, h1, h2, h3, h4, hm _ h5⟩⟩
theorem IdaO_mono {len sz : Nat} {x i : Value} {K K' : Value → Prop} (hm : ∀ v, K v → K' v) : IdaO len sz x i K → IdaO len sz x i K' :=
  fun ⟨⟨b, o, k, n, h1, h2, h3, h4, h5⟩⟩ => ⟨⟨b, o, k, n, h1, h2, h3, h4, hm _ h5⟩⟩
theorem SlcO_mono {sz : Nat} {x : Value} {lo hi mx : Option Value} {K K' : Value → Prop} (hm : ∀ v, K v → K' v) : SlcO sz x lo hi mx K → SlcO sz x lo hi mx K' :=
  fun ⟨⟨a, len, cap, l, h, m, h1, h2, h3, h4, h5, h6, h7, h8⟩⟩ => ⟨⟨a, len, cap, l, h, m, h1, h2, h3, h4, h5, h6, h7, hm _ h8⟩⟩
theorem binT_mono {o : Oper} {e : Env} {op : BinOp} {t : TypeId} {x y : Value} {K K' : Value → Prop} (hm : ∀ v, K v → K' v) (h : binT P tab o e op t x y K) : binT P tab o e op t x y K' := by
  unfold binT at h ⊢
  split at h
  · split at h
    · cases op <;> first | exact hm _ h | exact ArO_mono hm h | exact DivO_mono hm h | exact ShO_mono hm h | exact PurO_mono hm h
    · exact PurO_mono hm h
  · split at h
    · split at h
      · cases op <;> first | exact hm _ h | exact h
      · exact h
    · exact h
  · split at h
    · split at h
      · cases op <;> first | exact hm _ h | exact h
      · exact h
    · exact h
  · split at h
    · split at h
      · cases op <;> first | exact hm _ h | exact h
      · exact h
    · exact h
  · exact PurO_mono hm h
theorem pureT_mono {o : Oper} {e : Env} {K K' : Value → Prop} (hm : ∀ v, K v → K' v) (h : pureT P tab o e K) : pureT P tab o e K' := by
  cases ho : o.op <;> simp only [pureT, ho] at h ⊢ <;> (repeat' (split at h)) <;> first
    | exact hm _ h
    | exact h.elim
    | exact PurO_mono hm h
    | exact ArO_mono hm h
    | exact SlcO_mono hm h
    | exact IdxO_mono hm h
    | exact IdaO_mono hm h
    | exact binT_mono hm h
theorem retK_mono {K K' : Value → World → Prop} {r : Result Next} (h : retK P K r) (hm : ∀ v w', K v w' → K' v w') : retK P K' r := by
  cases r with
  | halt x w' => exact h.elim
  | ok nx w' => cases nx <;> first | exact hm _ _ h | exact Calls.mono h (fun x w'' ⟨v, hx, hv⟩ => ⟨v, hx, hm _ _ hv⟩) | exact h.elim
theorem Ret_mono {f : FuncId} {args : List Value} {w : World} {K K' : Value → World → Prop} (h : Ret P f args w K) (hm : ∀ v w', K v w' → K' v w') : Ret P f args w K' := ⟨retK_mono h.1 hm⟩
theorem InvO_mono {r : Value} {f : String} {args : List Value} {w : World} {K K' : Value → World → Prop} (h : InvO P r f args w K) (hm : ∀ v w', K v w' → K' v w') : InvO P r f args w K' := ⟨retK_mono h.1 hm⟩
theorem AllocO_mono {w : World} {o : Obj} {K K' : Nat → World → Prop} (hm : ∀ v w', K v w' → K' v w') (h : AllocO w o K) : AllocO w o K' := ⟨fun b w' h1 h2 => hm _ _ (h.1 b w' h1 h2)⟩
theorem byB_mono {b : Bool} {p q p' q' : Prop} (h1 : p → p') (h2 : q → q') (h : byB b p q) : byB b p' q' := by cases b <;> first | exact h1 h | exact h2 h
theorem RunO_mono {o : Oper} {e : Env} {w : World} {K K' : Value → World → Prop} (hm : ∀ v w', K v w' → K' v w') : RunO P o e w K → RunO P o e w K' :=
  fun ⟨⟨v, w', h1, h2⟩⟩ => ⟨⟨v, w', h1, hm _ _ h2⟩⟩
theorem opT_mono {o : Oper} {e : Env} {w : World} {K K' : Value → World → Prop} (hm : ∀ v w', K v w' → K' v w') (h : opT P tab o e w K) : opT P tab o e w K' := by
  cases ho : o.op <;> simp only [opT, ho] at h ⊢ <;> (repeat' (split at h)) <;> first
    | exact byB_mono (pureT_mono fun v => hm v w) (RunO_mono hm) h
    | exact AllocO_mono (fun b w' hh => hm _ _ hh) h
    | exact h.elim
    | exact (let ⟨⟨v, h1, h2⟩⟩ := h; ⟨⟨v, h1, hm _ _ h2⟩⟩)
    | exact (let ⟨⟨b, o, h1, h2, h3, h4, h5⟩⟩ := h; ⟨⟨b, o, h1, h2, h3, h4, fun w' hw => hm _ _ (h5 w' hw)⟩⟩)
    | exact (let ⟨⟨n, m, k, k', h1, h2, h3, h4, h5, h6⟩⟩ := h; ⟨⟨n, m, k, k', h1, h2, h3, h4, h5, AllocO_mono (fun b w' hh => hm _ _ hh) h6⟩⟩)
    | exact Ret_mono h hm
    | exact InvO_mono h hm
theorem opQ_mono {S : World → Prop} {o : Oper} {e : Env} {K K' : Value → Prop} (hm : ∀ v, K v → K' v) (h : opQ P tab S o e K) : opQ P tab S o e K' := by
  cases ho : o.op <;> simp only [opQ, ho] at h ⊢ <;> (repeat' (split at h)) <;> first
    | exact byB_mono (pureT_mono hm) (fun h => h) h
    | exact h.elim
    | exact (let ⟨⟨v, h1, h2⟩⟩ := h; ⟨⟨v, h1, hm _ h2⟩⟩)
theorem CondT_mono {t : Bool} {f g : Bool → Prop} (hm : ∀ b, f b → g b) (h : CondT t f) : CondT t g := ⟨hm _ h.1⟩
theorem guardT_mono {ops : List Oper} {kg : Kg} {g : Option (Nat × Bool)} {e : Env} {go go' skip skip' : Kg → Env → Prop} (h1 : ∀ kg e, go kg e → go' kg e) (h2 : ∀ kg e, skip kg e → skip' kg e)
    (h : guardT ops kg g e go skip) : guardT ops kg g e go' skip' := by
  unfold guardT at h ⊢
  repeat' (split at h)
  all_goals first
    | exact h.elim
    | exact h1 _ _ h
    | exact h2 _ _ h
    | (refine CondT_mono (fun b hb => ?_) h
       cases b <;> (split at hb <;> first | exact h1 _ _ hb | exact h2 _ _ hb))
theorem TL_mono {ops : List Oper} {K K' : Env → List Deferred → World → Prop} (hm : ∀ e ds w, K e ds w → K' e ds w) : ∀ (l : List Oper) (kg : Kg) (e : Env) (ds : List Deferred) (w : World),
    TL P tab ops l kg K e ds w → TL P tab ops l kg K' e ds w
  | [], _, e, ds, w, h => hm e ds w h
  | o :: rest, kg, e, ds, w, h => by
    rw [TL_cons] at h ⊢
    unfold stepL at h ⊢
    refine guardT_mono (fun kg e h => ?_) (fun kg e h => TL_mono hm rest _ _ _ _ h) h
    split at h
    · split at h
      · split at h
        · exact TL_mono hm rest _ _ _ _ h
        · exact h
      · exact h
    · exact opT_mono (fun v w' h => TL_mono hm rest _ _ _ _ h) h
theorem TD_mono {ops : List Oper} {S : World → Prop} {D : Nat → Bool} {K K' : Env → List Deferred → World → Prop} (hm : ∀ e ds w, K e ds w → K' e ds w) : ∀ (p : Plan) (kg : Kg) (e : Env) (ds : List Deferred) (w : World),
    TD P tab ops S D p kg K e ds w → TD P tab ops S D p kg K' e ds w := by
  have loud : ∀ (i : Nat) (tl : Bool) (p : Plan) (kg : Kg) (e : Env) (ds : List Deferred) (w : World), (∀ (kg : Kg) (e : Env) (ds : List Deferred) (w : World), TD P tab ops S D p kg K e ds w → TD P tab ops S D p kg K' e ds w) →
      stepD P tab ops S D i tl (TD P tab ops S D p) kg K e ds w → stepD P tab ops S D i tl (TD P tab ops S D p) kg K' e ds w := by
    intro i tl p kg e ds w ih h
    unfold stepD at h ⊢
    split
    · rename_i o ho
      simp only [ho] at h
      exact guardT_mono (fun kg e h => opT_mono (fun v w' h => ⟨h.1, ih _ _ _ _ h.2⟩) h) (fun kg e h => by cases hd : D i with
        | true => rw [hd] at h; exact ⟨h.1, ih _ _ _ _ h.2⟩
        | false => rw [hd] at h; exact ih _ _ _ _ h) h
    · rename_i ho; simp only [ho] at h
  intro p
  induction p with
  | nil => exact fun _ e ds w h => hm e ds w h
  | q i p ih =>
    intro kg e ds w h
    rw [TD_q] at h ⊢
    unfold stepQ at h ⊢
    split
    · rename_i o ho
      simp only [ho] at h
      cases hd : D i with
      | true => rw [hd] at h; exact h.elim
      | false =>
        rw [hd] at h
        have h := byD_false h
        exact guardT_mono (fun kg e h => opQ_mono (fun v h => ih _ _ _ _ h) h) (fun kg e h => ih _ _ _ _ h) h
    · rename_i ho; simp only [ho] at h
  | l i p ih =>
    intro kg e ds w h
    rw [TD_l] at h ⊢
    exact loud _ _ _ _ _ _ _ ih h
  | ll i p j p' ih ih' =>
    intro kg e ds w h
    rw [TD_ll] at h ⊢
    exact ⟨loud _ _ _ _ _ _ _ ih h.1, loud _ _ _ _ _ _ _ ih' h.2⟩
  | lll i p j p' k p'' ih ih' ih'' =>
    intro kg e ds w h
    rw [TD_lll] at h ⊢
    exact ⟨loud _ _ _ _ _ _ _ ih h.1, loud _ _ _ _ _ _ _ ih' h.2.1, loud _ _ _ _ _ _ _ ih'' h.2.2⟩
theorem TC_mono : ∀ (c : Code) {Q Q' : Post} (_ : ∀ x e ds w, Q x e ds w → Q' x e ds w) (e : Env) (ds : List Deferred) (w : World), TC P tab c Q e ds w → TC P tab c Q' e ds w
  | .skip, _, _, hm, e, ds, w, h => hm _ _ _ _ h
  | .region _ ops false, _, _, hm, e, ds, w, h => TL_mono (fun e ds w => hm _ e ds w) _ _ _ _ _ h
  | .region _ ops true, _, _, hm, e, ds, w, h => by
    obtain ⟨⟨S, D, p, h0, h1, h2, h3⟩⟩ := h
    exact ⟨⟨S, D, p, h0, h1, h2, TD_mono (fun e ds w => hm _ e ds w) _ _ _ _ _ h3⟩⟩
  | .seq a b, _, _, hm, e, ds, w, h => TC_mono a (fun x e ds w h => by
      cases x <;> first | exact TC_mono b hm _ _ _ h | exact hm _ _ _ _ h) _ _ _ h
  | .cond c a b, _, _, hm, e, ds, w, h => by
    rw [TC_cond] at h ⊢
    unfold condT at h ⊢
    cases hv : ev e c <;> simp only [hv] at h ⊢
    refine CondT_mono (fun u hu => ?_) h
    cases u
    · exact TC_mono b hm _ _ _ hu
    · exact TC_mono a hm _ _ _ hu
  | .block id c, _, _, hm, e, ds, w, h => TC_mono c (fun x e ds w h => by
      cases x with
      | exit id' =>
        unfold blockQ at h ⊢
        cases hb : Nat.beq id' id <;> simp only [hb] at h ⊢ <;> exact hm _ _ _ _ h
      | _ => exact hm _ _ _ _ h) _ _ _ h
  | .exit id, _, _, hm, e, ds, w, h => hm _ _ _ _ h
  | .ret, _, _, hm, e, ds, w, h => hm _ _ _ _ h
  | .loop c, _, _, hm, e, ds, w, h => by
    obtain ⟨⟨I, μ, h1, h2⟩⟩ := h
    exact ⟨⟨I, μ, h1, fun e ds w hI => TC_mono c (fun x e ds w h => by cases x <;> first | exact h | exact hm _ _ _ _ h) _ _ _ (h2 e ds w hI)⟩⟩
  | .rangeFunc _ _ _ _, _, _, hm, _, _, _, h => ⟨fun n a c1 c2 h1 h2 h3 => Code.wp_mono (fun x a w hx => by cases x <;> first | exact hx.elim | exact ⟨hx.1, hm _ _ _ _ hx.2⟩) (h.1 n a c1 c2 h1 h2 h3)⟩
  | .scope c, _, _, hm, e, ds, w, h => TC_mono c hm e ds w h
  | .label _, _, _, hm, e, ds, w, h => hm _ _ _ _ h
  | .goto _, _, _, _, _, _, _, h => h.elim
  | .refuse _, _, _, _, _, _, _, h => h.elim
end
end RL
