/- The transformer is sound for whole code and for calls; the moves of a walk. Conditions: the table fits the program's types; a code writes slots below its frame's size. -/
import Derived.Test.YtbdoinigeaaclaaGreatK7
set_option linter.all false
namespace RL
open Go

/-- What a function hands back. -/
def resT (tab : Tab) : List ResultVar → Env → World → (List Value → Prop) → Prop
  | [], _, _, K => K []
  | .tmp t :: r, e, w, K => resT tab r e w fun vs => K (e t :: vs)
  | .cell a t :: r, e, w, K => match tab t with
    | some i => LdO i.agg i.size w (e a) fun v => resT tab r e w fun vs => K (v :: vs)
    | none => False
def retV : List Value → Value
  | [v] => v
  | vs => .tuple vs.toArray
def post (tab : Tab) (rs : List ResultVar) (K : Value → World → Prop) : Post := fun x e ds w => match x with
  | .normal | .ret => match ds with
    | [] => resT tab rs e w fun vs => K (retV vs) w
    | _ => False
  | _ => False
/-- The frame at the entry. -/
def ini (args : List Value) : Env := fun t => match nth args t with
  | some v => v
  | none => undef

section
variable {P : Program} {tab : Tab}
theorem wp_lift {c : Code} {n : Nat} {Q : Post} {R : Exit → Act → World → Prop} {a : Act} {w : World} (h : c.wp P (lift n Q) a w)
    (hm : ∀ x a w, lift n Q x a w → R x a w) : c.wp P R a w := Code.wp_mono hm h
theorem TC_sound (hT : TabOk P tab) {n : Nat} : ∀ (c : Code) (Q : Post), codeOk n c = true → ∀ (e : Env) (ds : List Deferred) (w : World) (a : Act), Fr n a e ds →
    TC P tab c Q e ds w → c.wp P (lift n Q) a w
  | .skip, Q, _, e, ds, w, a, hf, h => wp_skip ⟨hf.size, by rw [hf.env, hf.defers]; exact h⟩
  | .region _ ops false, Q, hok, e, ds, w, a, hf, h => by
    refine wp_region_list (TL_sound hT (Q := lift n Q) (K := Q .normal) (fun a e ds w hf hK => ⟨hf.size, by rw [hf.env, hf.defers]; exact hK⟩) ops.toList (by simpa [codeOk] using hok) [] e ds w a hf (KgOk.nil e) h)
  | .region _ ops true, Q, hok, e, ds, w, a, hf, h => by
    obtain ⟨⟨S, D, p, h0, h1, h2, h3⟩⟩ := h
    simp only [planAll, Bool.and_eq_true] at h1
    refine wp_region_any hT.mixed (wpAny_of_X _ _ _ _ (S := S) (D := D) ?_)
    exact TD_sound hT (fun e ds w h => h) h1.1.1 (by simpa [codeOk] using hok) h0 p _ _ (Nat.le_of_ble_eq_true h1.1.2) h1.2 [] e ds _ a hf (KgOk.nil e) (.inr ⟨fun j _ => by rw [Array.getD_eq_getD_getElem?, Array.getElem?_replicate]; split <;> rfl, h2⟩) h3
  | .seq x y, Q, hok, e, ds, w, a, hf, h => by
    simp only [codeOk, Bool.and_eq_true] at hok
    refine wp_seq (wp_lift (TC_sound hT x _ hok.1 e ds w a hf h) ?_)
    intro x' a' w' hx
    cases x' with
    | normal => exact TC_sound hT y Q hok.2 _ _ _ _ ⟨hx.1, rfl, rfl⟩ hx.2
    | _ => exact hx
  | .cond c x y, Q, hok, e, ds, w, a, hf, h => by
    simp only [codeOk, Bool.and_eq_true] at hok
    rw [TC_cond] at h
    unfold condT at h
    cases hv : ev e c <;> simp only [hv] at h
    rename_i t
    have hc : a.eval c = .bool t := by rw [eval_eq, hf.env]; exact hv
    have h := CondT_elim h
    cases t
    · exact wp_cond_false hc (TC_sound hT y Q hok.2 _ _ _ _ hf h)
    · exact wp_cond_true hc (TC_sound hT x Q hok.1 _ _ _ _ hf h)
  | .block id c, Q, hok, e, ds, w, a, hf, h => by
    refine wp_block (wp_lift (TC_sound hT c _ (by simpa [codeOk] using hok) e ds w a hf h) ?_)
    intro x' a' w' hx
    cases x' with
    | exit id' =>
      simp only [lift, blockQ] at hx
      simp only [Exit.inBlock]
      by_cases hid : id' = id
      · subst hid
        rw [if_pos rfl]
        have : Nat.beq id' id' = true := by simp
        rw [this] at hx
        exact hx
      · rw [if_neg hid]
        rw [nbeq_ne hid] at hx
        exact hx
    | _ => exact hx
  | .scope c, Q, hok, e, ds, w, a, hf, h => by
    refine wp_scope_straight (wp_lift (TC_sound hT c _ (by simpa [codeOk] using hok) e ds w a hf h) ?_)
    intro x' a' w' hx
    cases x' with
    | goto l => exact hx.elim
    | _ => exact hx
  | .label _, Q, _, e, ds, w, a, hf, h => wp_label ⟨hf.size, by rw [hf.env, hf.defers]; exact h⟩
  | .exit id, Q, _, e, ds, w, a, hf, h => wp_exit ⟨hf.size, by rw [hf.env, hf.defers]; exact h⟩
  | .ret, Q, _, e, ds, w, a, hf, h => wp_ret ⟨hf.size, by rw [hf.env, hf.defers]; exact h⟩
  | .loop c, Q, hok, e, ds, w, a, hf, h => by
    obtain ⟨⟨I, μ, h1, h2⟩⟩ := h
    refine wp_loop (fun a w => a.tmps.size = n ∧ I (envOf a) a.defers w) (fun a w => μ (envOf a) w) ⟨hf.size, by rw [hf.env, hf.defers]; exact h1⟩ ?_
    intro a w ⟨hs, hI⟩
    refine wp_lift (TC_sound hT c _ (by simpa [codeOk] using hok) _ _ _ a ⟨hs, rfl, rfl⟩ (h2 _ _ _ hI)) ?_
    intro x' a' w' hx
    cases x' with
    | normal => exact ⟨⟨hx.1, hx.2.1⟩, hx.2.2⟩
    | _ => exact hx
  | .rangeFunc _ _ _ _, Q, hok, e, ds, w, a, hf, h => by
    simp only [codeOk, Bool.and_eq_true] at hok
    exact h.1 _ a hok.1 hok.2 hf.size hf.env hf.defers
  | .goto _, _, _, _, _, _, _, _, h => h.elim
  | .refuse _, _, _, _, _, _, _, _, h => h.elim
def resF (a : Act) (x : ResultVar) : Sem Value := match x with
  | .tmp t => Pure.pure (a.tmps.getD t undef)
  | .cell b t => asAddr (a.tmps.getD b undef) >>= fun p => loadVar t p
theorem results_eq (fn : Func) (a : Act) : results fn a.tmps = (fn.results.mapM (resF a) >>= fun vs => Pure.pure (if h : vs.size = 1 then vs[0] else .tuple vs)) := by
  unfold results
  congr 1
theorem resT_run (hT : TabOk P tab) {a : Act} {w : World} : ∀ (rs : List ResultVar) (K : List Value → Prop), resT tab rs (envOf a) w K →
    ∃ vs, K vs ∧ (List.mapM (resF a) rs).run P w = .ok vs w
  | [], K, h => ⟨[], h, rfl⟩
  | .tmp t :: r, K, h => by
    obtain ⟨vs, h1, h2⟩ := resT_run hT r _ h
    refine ⟨_, h1, ?_⟩
    simp only [List.mapM_cons, Sem.run_bind, resF, Sem.run_pure, Result.andThen_ok, h2]
    rfl
  | .cell b t :: r, K, h => by
    unfold resT at h
    split at h
    · rename_i i hi
      obtain ⟨⟨v, hv, hK⟩⟩ := h
      obtain ⟨vs, h1, h2⟩ := resT_run hT r _ hK
      refine ⟨_, h1, ?_⟩
      have h3 := run_loadAt (hT.ty _ _ hi) hv
      obtain ⟨bb, oo, hp, _⟩ := hv
      have hp' : a.tmps.getD b undef = .pointer (some ⟨bb, oo, none⟩) := hp
      rw [hp] at h3
      simp only [Instr.loadAt, Instr.sureAddr, Sem.run_bind, Sem.run_pure, Result.andThen_ok] at h3
      have h4 : (asAddr (a.tmps.getD b undef)).run P w = .ok ⟨bb, oo, none⟩ w := by rw [hp']; rfl
      have h5 : (resF a (.cell b t)).run P w = .ok v w := by
        show (asAddr (a.tmps.getD b undef) >>= fun p => loadVar t p).run P w = _
        rw [Sem.run_bind, h4, Result.andThen_ok, h3]
      rw [List.mapM_cons, Sem.run_bind, h5, Result.andThen_ok, Sem.run_bind, h2, Result.andThen_ok]
      rfl
    · exact h.elim
theorem results_run (hT : TabOk P tab) {fn : Func} {a : Act} {w : World} {K : Value → Prop} (h : resT tab fn.results.toList (envOf a) w fun vs => K (retV vs)) :
    ∃ v, (results fn a.tmps).run P w = .ok v w ∧ K v := by
  obtain ⟨vs, h1, h2⟩ := resT_run hT _ _ h
  refine ⟨_, ?_, h1⟩
  rw [results_eq, Array.mapM_eq_mapM_toList, Sem.run_bind, Sem.run_map, h2]
  simp only [Result.andThen_ok, Sem.run_pure]
  congr 1
  unfold retV
  match vs with
  | [v] => rfl
  | [] => rfl
  | _ :: _ :: _ => rfl
theorem callFunc_run {f : FuncId} {fn : Func} (hf : P.funcs[f]? = some fn) (hb : fn.body.isNone = false) (hn : (fn.name == "runtime.NumGoroutine") = false) (args : Array Value) (w : World) :
    (callFunc f args).run P w = .ok (.enter f args) w := by
  unfold callFunc
  simp only [Sem.run_bind, run_program, Result.andThen_ok, hf]
  rw [if_neg (by rw [hn]; decide), if_neg (by rw [hb]; decide)]
  rfl
theorem ini_env (args : List Value) (m : Nat) : envOf { tmps := args.toArray ++ Array.replicate m undef, defers := [] } = ini args := by
  funext t
  unfold envOf ini
  rw [nth_eq]
  simp only [Array.getD_eq_getD_getElem?]
  by_cases ht : t < args.length
  · rw [Array.getElem?_append_left (by simpa using ht)]
    simp [ht]
  · rw [Array.getElem?_append_right (by simpa using ht)]
    have : args[t]? = none := by simpa using ht
    rw [this]
    simp only [Array.getElem?_replicate]
    split <;> rfl
/-- **A function is entered.** -/
theorem Ret.enter (hT : TabOk P tab) {f : FuncId} {fn : Func} {c : Code} {n : Nat} {args : List Value} {w : World} {K : Value → World → Prop}
    (hf : P.funcs[f]? = some fn) (hb : fn.body = some c) (hn : (fn.name == "runtime.NumGoroutine") = false) (hs : fn.ntmps = n) (ha : Nat.ble args.length n = true) (hok : codeOk n c = true)
    (h : TC P tab c (post tab fn.results.toList K) (ini args) [] w) : Ret P f args w K := by
  refine ⟨?_⟩
  rw [callFunc_run hf (by rw [hb]; rfl) hn]
  simp only [retK]
  refine calls_of_wp hf hb ?_
  have hle := Nat.le_of_ble_eq_true ha
  refine wp_lift (TC_sound hT c _ hok _ _ _ _ ⟨?_, ini_env _ _, rfl⟩ h) ?_
  · simp [hs]; omega
  · intro x a w' hx
    cases x with
    | normal =>
      obtain ⟨h1, h2⟩ := hx
      simp only [post] at h2
      split at h2
      · rename_i hds
        obtain ⟨v, hv, hK⟩ := results_run (fn := fn) (K := fun v => K v w') hT h2
        exact ⟨hds, v, hv, v, rfl, hK⟩
      · exact h2.elim
    | ret =>
      obtain ⟨h1, h2⟩ := hx
      simp only [post] at h2
      split at h2
      · rename_i hds
        obtain ⟨v, hv, hK⟩ := results_run (fn := fn) (K := fun v => K v w') hT h2
        exact ⟨hds, v, hv, v, rfl, hK⟩
      · exact h2.elim
    | exit id => exact hx.2.elim
    | _ => exact hx.elim

/-! ### Loops -/
def Has (e : Env) : List (Nat × Value) → Prop
  | [] => True
  | (t, v) :: r => e t = v ∧ Has e r
def putL : List (Nat × Value) → Env → Env
  | [], e => e
  | (t, v) :: r, e => upd (putL r e) t v
theorem putL_has {e : Env} : ∀ {l : List (Nat × Value)}, Has e l → putL l e = e
  | [], _ => rfl
  | (t, v) :: r, h => by
    unfold putL
    rw [putL_has h.2, upd_self e h.1]
/-- **A loop**, by a state of the prover's own: what stands in the slots, what holds of the world, a number that goes down. -/
theorem LoopO.run {σ : Type} {P : Program} {tab : Tab} {c : Code} {body : TCT} {Q : Post} {e : Env} {ds : List Deferred} {w : World}
    (vals : σ → List (Nat × Value)) (inv : σ → World → Prop) (μ : σ → Nat) (s0 : σ) (h0 : Has e (vals s0)) (h1 : inv s0 w)
    (round : ∀ s w g, inv s w → body (fun x e' ds' w' => match x with
      | .normal => ds' = ds ∧ ∃ s', Has e' (vals s') ∧ inv s' w' ∧ μ s' < μ s
      | x => Q x e' ds' w') (putL (vals s) g) ds w) (hb : body = TC P tab c := by rfl) : LoopO P tab c body Q e ds w := by
  subst hb
  have hwf : ∀ (e : Env) (w : World), (∃ s, Has e (vals s) ∧ inv s w) → ∃ s, (Has e (vals s) ∧ inv s w) ∧ ∀ s', Has e (vals s') ∧ inv s' w → μ s ≤ μ s' := by
    intro e w ⟨s, hs⟩
    have key : ∀ n s, μ s = n → Has e (vals s) ∧ inv s w → ∃ s, (Has e (vals s) ∧ inv s w) ∧ ∀ s', Has e (vals s') ∧ inv s' w → μ s ≤ μ s' := by
      intro n
      induction n using Nat.strongRecOn with
      | _ n ih =>
        intro s hn hs
        by_cases hex : ∃ s', (Has e (vals s') ∧ inv s' w) ∧ μ s' < μ s
        · obtain ⟨s', hs', hlt⟩ := hex
          exact ih (μ s') (by omega) s' rfl hs'
        · refine ⟨s, hs, fun s' hs' => ?_⟩
          rcases Nat.lt_or_ge (μ s') (μ s) with hlt | hge
          · exact absurd ⟨s', hs', hlt⟩ hex
          · exact hge
    exact key (μ s) s rfl hs
  let m : Env → World → Nat := fun e w => open Classical in if h : ∃ s, Has e (vals s) ∧ inv s w then μ (Classical.choose (hwf e w h)) else 0
  refine ⟨⟨fun e ds' w => ds' = ds ∧ ∃ s, Has e (vals s) ∧ inv s w, m, ⟨rfl, s0, h0, h1⟩, ?_⟩⟩
  rintro e ds' w ⟨rfl, hex⟩
  have hs := Classical.choose_spec (hwf e w hex)
  have hm : m e w = μ (Classical.choose (hwf e w hex)) := by simp only [m]; rw [dif_pos hex]
  generalize Classical.choose (hwf e w hex) = s at hs hm
  have hr := round s w e hs.1.2
  rw [putL_has hs.1.1] at hr
  refine TC_mono c (fun x e' ds' w' h => ?_) _ _ _ hr
  cases x with
  | normal =>
    obtain ⟨hd, s', h1, h2, h3⟩ := h
    have hex' : ∃ s, Has e' (vals s) ∧ inv s w' := ⟨s', h1, h2⟩
    refine ⟨⟨hd, hex'⟩, ?_⟩
    rw [hm]
    have hm' : m e' w' = μ (Classical.choose (hwf e' w' hex')) := by simp only [m]; rw [dif_pos hex']
    rw [hm']
    exact Nat.lt_of_le_of_lt ((Classical.choose_spec (hwf e' w' hex')).2 s' ⟨h1, h2⟩) h3
  | _ => exact h
end
end RL
