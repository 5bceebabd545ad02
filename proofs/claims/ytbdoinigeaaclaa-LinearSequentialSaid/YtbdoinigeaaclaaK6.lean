/- The transformer is sound: regions in order and in whatever order, code. Conditions: the table fits the program's types; the code writes slots below its frame's size. -/
import Derived.Test.YtbdoinigeaaclaaK5
set_option linter.all false
namespace RL
open Go

section
variable {P : Program} {tab : Tab}
/-- The given post of an ending, over frames as functions. -/
def lift (n : Nat) (Q : Post) (x : Exit) (a : Act) (w : World) : Prop :=
  match x with
  | .panic _ | .outgrown | .goto _ => False
  | x => a.tmps.size = n ∧ Q x (envOf a) a.defers w
/-- A frame. -/
structure Fr (n : Nat) (a : Act) (e : Env) (ds : List Deferred) : Prop where
  size : a.tmps.size = n
  env : envOf a = e
  defers : a.defers = ds
theorem Fr.put {n : Nat} {a : Act} {e : Env} {ds : List Deferred} (h : Fr n a e ds) {o : Oper} (ho : dstOk n o = true) (v : Value) : Fr n (a.put o.dst v) (upo e o.dst v) ds := by
  refine ⟨by rw [put_size]; exact h.size, ?_, by rw [put_defers]; exact h.defers⟩
  rw [envOf_put _ _ _ ?_, h.env]
  intro t ht
  unfold dstOk at ho
  rw [ht] at ho
  rw [h.size]
  simpa using ho
/-- What the guards see. -/
def yie (ops : List Oper) (e : Env) (j : Nat) : Option Bool :=
  match nth ops j with
  | some oj => match oj.dst with
    | some d => match e d with
      | .bool t => some t
      | _ => none
    | none => none
  | none => none
theorem yielded_eq (ops : Array Oper) (a : Act) (j : Nat) : yielded ops a.tmps j = yie ops.toList (envOf a) j := by
  unfold yielded yie
  rw [nth_eq]
  simp only [Array.getElem?_toList]
  cases ops[j]? with
  | none => rfl
  | some oj =>
    simp only [Option.bind_some]
    cases oj.dst with
    | none => rfl
    | some d =>
      simp only [Option.bind_some, envOf, Array.getD_eq_getD_getElem?]
      cases a.tmps[d]? with
      | none => rfl
      | some v => simp only [Option.getD_some]; cases v <;> rfl
theorem CondT_elim {t : Bool} {f : Bool → Prop} (h : CondT t f) : f t := h.1
/-- The decided tests fit the frame. -/
def KgOk (kg : Kg) (e : Env) : Prop := ∀ d u, kgAt kg d = some u → e d = .bool u
theorem KgOk.nil (e : Env) : KgOk [] e := fun _ _ h => by cases h
theorem KgOk.cons {kg : Kg} {e : Env} (h : KgOk kg e) {d : Nat} {u : Bool} (hd : e d = .bool u) : KgOk ((d, u) :: kg) (upd e d (.bool u)) := by
  rw [upd_self e hd]
  intro k v hk
  unfold kgAt at hk
  by_cases hkd : d = k
  · subst hkd
    have : Nat.beq d d = true := by simp
    rw [this] at hk
    cases hk
    exact hd
  · rw [nbeq_ne hkd] at hk
    exact h k v hk
theorem KgOk.rm {kg : Kg} {e : Env} (h : KgOk kg e) (o : Option Nat) (v : Value) : KgOk (kgRm o kg) (upo e o v) := by
  cases o with
  | none =>
    have : kgRm none kg = kg := by cases kg <;> rfl
    rw [this]; exact h
  | some d =>
    have key : ∀ (kg : Kg) (k : Nat) (u : Bool), kgAt (kgRm (some d) kg) k = some u → k ≠ d ∧ kgAt kg k = some u := by
      intro kg
      induction kg with
      | nil => intro k u hk; cases hk
      | cons p r ih =>
        obtain ⟨j, x⟩ := p
        intro k u hk
        unfold kgRm at hk
        by_cases hjd : j = d
        · subst hjd
          have hb : Nat.beq j j = true := by simp
          simp only [hb, cond_true] at hk
          obtain ⟨h1, h2⟩ := ih k u hk
          refine ⟨h1, ?_⟩
          unfold kgAt
          rw [nbeq_ne (Ne.symm h1)]; exact h2
        · simp only [nbeq_ne hjd, cond_false] at hk
          unfold kgAt at hk ⊢
          by_cases hjk : j = k
          · subst hjk
            have hb : Nat.beq j j = true := by simp
            rw [hb] at hk ⊢
            exact ⟨hjd, hk⟩
          · rw [nbeq_ne hjk] at hk ⊢
            exact ih k u hk
    intro k u hk
    obtain ⟨h1, h2⟩ := key kg k u hk
    simp only [upo]
    rw [upd_ne _ _ h1]; exact h k u h2
theorem guardT_cases {ops : Array Oper} {kg : Kg} {o : Oper} {a : Act} {n : Nat} {e : Env} {ds : List Deferred} {go skip : Kg → Env → Prop} (hf : Fr n a e ds) (hkg : KgOk kg e)
    (h : guardT ops.toList kg o.guard e go skip) :
    ∃ kg, KgOk kg e ∧ ((Region.wanted o (yielded ops a.tmps) = true ∧ go kg e) ∨ (Region.wanted o (yielded ops a.tmps) = false ∧ skip kg e)) := by
  unfold guardT at h
  unfold Region.wanted
  split at h
  · rename_i hg
    rw [hg]
    exact ⟨kg, hkg, .inl ⟨rfl, h⟩⟩
  · rename_i j want hg
    rw [hg]
    simp only [yielded_eq, hf.env]
    unfold yie
    split at h
    · rename_i oj hoj
      rw [hoj]
      simp only
      split at h
      · rename_i d hd
        rw [hd]
        simp only
        split at h
        · rename_i u hu
          have ht := hkg d u hu
          rw [ht]
          simp only
          split at h
          · exact ⟨kg, hkg, .inl ⟨by simp, h⟩⟩
          · exact ⟨kg, hkg, .inl ⟨by simp, h⟩⟩
          · exact ⟨kg, hkg, .inr ⟨by simp, h⟩⟩
          · exact ⟨kg, hkg, .inr ⟨by simp, h⟩⟩
        · split at h
          · rename_i t ht
            rw [ht]
            simp only
            have h := CondT_elim h
            have hc := hkg.cons ht
            rw [upd_self e ht] at hc
            split at h <;> rw [upd_self e ht] at h
            · exact ⟨_, hc, .inl ⟨by simp, h⟩⟩
            · exact ⟨_, hc, .inl ⟨by simp, h⟩⟩
            · exact ⟨_, hc, .inr ⟨by simp, h⟩⟩
            · exact ⟨_, hc, .inr ⟨by simp, h⟩⟩
          · exact h.elim
      · exact h.elim
    · exact h.elim
theorem runK_mono {K K' : Value → World → Prop} (hm : ∀ v w, K v w → K' v w) {r : Result Next} (h : runK P K r) : runK P K' r := by
  cases r with
  | halt x w' => exact h
  | ok nx w' =>
    cases nx <;> first
      | exact hm _ _ h
      | exact h
      | exact h.mono fun x w'' ⟨v, hx, hv⟩ => ⟨v, hx, hm _ _ hv⟩
theorem run_defer {o : Oper} {e : Env} {c : Call} (ho : o.op = .defer c) {f : Operand} (hc : c.callee = .value f) {fn : Fn} {first captured : Array Value} (hf : ev e f = .func fn first captured) (w : World) :
    (execOp (ev e) o).run P w = .ok (.defer { target := .fn fn captured, args := (first.toList ++ c.args.toList.map (ev e)).toArray }) w := by
  unfold execOp; rw [ho]
  simp only [resolve, hc, hf, Deferred.ofValue]
  simp only [Sem.run_bind, Sem.run_pure, Result.andThen_ok]
  congr 3
  apply Array.ext'; simp
theorem TL_sound (hT : TabOk P tab) {ops : Array Oper} {n : Nat} {K : Env → List Deferred → World → Prop} {Q : Exit → Act → World → Prop}
    (hQ : ∀ a e ds w, Fr n a e ds → K e ds w → Q .normal a w) : ∀ (l : List Oper), l.all (dstOk n) = true → ∀ (kg : Kg) (e : Env) (ds : List Deferred) (w : World) (a : Act), Fr n a e ds → KgOk kg e →
      TL P tab ops.toList l kg K e ds w → wpList P ops Q l a w
  | [], _, _, e, ds, w, a, hf, _, h => hQ a e ds w hf h
  | o :: rest, hd, kg, e, ds, w, a, hf, hkg, h => by
    simp only [List.all_cons, Bool.and_eq_true] at hd
    rw [TL_cons] at h
    unfold stepL at h
    unfold wpList
    obtain ⟨kg, hkg, ⟨hw, h⟩ | ⟨hw, h⟩⟩ := guardT_cases hf hkg h
    · rw [if_pos hw]
      refine .inl ?_
      split at h
      · rename_i c ho
        split at h
        · rename_i f hc
          split at h
          · rename_i fn first captured hfn
            unfold Oper.wp
            rw [eval_eq, hf.env, run_defer ho hc hfn]
            simp only [Oper.upon]
            refine TL_sound hT hQ rest hd.2 _ _ _ _ _ ?_ (hkg.rm _ _) h
            have := hf.put hd.1 undef
            refine ⟨?_, ?_, ?_⟩
            · have := this.size; rw [put_size] at this ⊢; exact this
            · rw [← this.env]; cases o.dst <;> rfl
            · rw [put_defers, hf.defers]
          · exact h.elim
        · exact h.elim
      · apply runK_wp
        rw [eval_eq, hf.env]
        exact runK_mono (fun v w' hv => TL_sound hT hQ rest hd.2 _ _ _ _ _ (hf.put hd.1 v) (hkg.rm _ _) hv) (opT_run hT h)
    · rw [if_neg (by rw [hw]; decide)]
      exact TL_sound hT hQ rest hd.2 _ _ _ _ _ (hf.put hd.1 _) (hkg.rm _ _) h
theorem opQ_run (hT : TabOk P tab) {S : World → Prop} {o : Oper} {e : Env} {K : Value → Prop} (h : opQ P tab S o e K) : ∃ v, K v ∧ ∀ w, S w → (execOp (ev e) o).run P w = .ok (.value v) w := by
  have both : ∀ b : Bool, byB b (pureT P tab o e K) False → ∃ v, K v ∧ ∀ w, S w → (execOp (ev e) o).run P w = .ok (.value v) w := fun b hb => by
    cases b
    · exact hb.elim
    · obtain ⟨v, h1, h2⟩ := pureT_run hT hb; exact ⟨v, h1, fun w _ => h2 w⟩
  cases ho : o.op <;> simp only [opQ, ho] at h <;> try exact both _ h
  case load t x =>
    split at h
    · rename_i i hi
      obtain ⟨⟨v, hv, hK⟩⟩ := h
      refine ⟨v, hK, fun w hS => ?_⟩
      have he : execOp (ev e) o = (Instr.loadAt t (ev e x) >>= fun r => pure (.value r)) := by unfold execOp; rw [ho]
      rw [he]; simp only [Sem.run_bind, run_loadAt (hT.ty _ _ hi) (hv w hS), Result.andThen_ok, Sem.run_pure]
    · exact h.elim
theorem TD_sound (hT : TabOk P tab) {ops : Array Oper} {n : Nat} {S : World → Prop} {K : Env → List Deferred → World → Prop} {Q : Post}
    (hQ : ∀ e ds w, K e ds w → Q .normal e ds w) (hsel : Region.noSelect ops = true) (hd : ops.toList.all (dstOk n) = true) :
    ∀ (p : Plan) (li : Array Bool) (fuel : Nat), planSize p ≤ fuel → planOk ops p li = true → ∀ (kg : Kg) (e : Env) (ds : List Deferred) (w : World) (a : Act), Fr n a e ds → KgOk kg e → S w →
      TD P tab ops.toList S p kg K e ds w → wpAnyH P .any ops (lift n Q) S fuel li a w := by
  have dok : ∀ {i : Nat} {o : Oper}, nth ops.toList i = some o → dstOk n o = true := fun {i o} h => by
    rw [nth_eq] at h
    exact List.all_eq_true.1 hd o (List.mem_of_getElem? h)
  have loud : ∀ {i : Nat} {p : Plan} {li : Array Bool} {fuel : Nat} {kg : Kg} {e : Env} {ds : List Deferred} {w : World} {a : Act}, Fr n a e ds → KgOk kg e → S w →
      (∀ (kg : Kg) (e : Env) (ds : List Deferred) (w : World) (a : Act), Fr n a e ds → KgOk kg e → S w → TD P tab ops.toList S p kg K e ds w → wpAnyH P .any ops (lift n Q) S fuel (li.setIfInBounds i true) a w) →
      stepD P tab ops.toList S i (TD P tab ops.toList S p) kg K e ds w →
      wpOp P ops (lift n Q) i (fun a' w' => S w' ∧ wpAnyH P .any ops (lift n Q) S fuel (li.setIfInBounds i true) a' w') a w := by
    intro i p li fuel kg e ds w a hf hkg hS ih h
    unfold stepD at h
    split at h
    · rename_i o ho
      have ho' : ops[i]? = some o := by rw [nth_eq] at ho; simpa using ho
      unfold wpOp
      rw [ho']
      simp only
      obtain ⟨kg, hkg, ⟨hw, h⟩ | ⟨hw, h⟩⟩ := guardT_cases hf hkg h
      · rw [if_pos hw]
        refine .inl (runK_wp ?_)
        rw [eval_eq, hf.env]
        exact runK_mono (fun v w' hv => ⟨hv.1, ih _ _ _ _ _ (hf.put (dok ho) v) (hkg.rm _ _) hv.1 hv.2⟩) (opT_run hT h)
      · rw [if_neg (by rw [hw]; decide)]
        exact ⟨hS, ih _ _ _ _ _ (hf.put (dok ho) _) (hkg.rm _ _) hS h⟩
    · exact h.elim
  intro p
  induction p with
  | nil =>
    intro li fuel _ hp kg e ds w a hf hkg hS h
    unfold planOk at hp
    refine wpAnyH_done (by simpa using hp) ?_ _
    simp only [lift]
    exact ⟨hf.size, by rw [hf.env, hf.defers]; exact hQ _ _ _ h⟩
  | q i p ih =>
    intro li fuel hfu hp kg e ds w a hf hkg hS h
    obtain ⟨fuel, rfl⟩ : ∃ m, fuel = m + 1 := ⟨fuel - 1, by simp [planSize] at hfu; omega⟩
    simp only [planOk, Bool.and_eq_true] at hp
    rw [TD_q] at h
    unfold stepQ at h
    split at h
    · rename_i o ho
      have ho' : ops[i]? = some o := by rw [nth_eq] at ho; simpa using ho
      obtain ⟨kg, hkg, ⟨hw, h⟩ | ⟨hw, h⟩⟩ := guardT_cases hf hkg h
      · obtain ⟨v, hv, hrun⟩ := opQ_run hT h
        refine wpAnyH_take ho' hsel hp.1.2 hp.1.1 (fun c a w hh => by simp [lift] at hh) (v := v) (.inl ⟨hw, fun w' hS' => ?_⟩) hS ?_
        · rw [eval_eq, hf.env]; exact hrun w' hS'
        · exact ih _ _ (by simp [planSize] at hfu; omega) hp.2 _ _ _ _ _ (hf.put (dok ho) v) (hkg.rm _ _) hS hv
      · refine wpAnyH_take ho' hsel hp.1.2 hp.1.1 (fun c a w hh => by simp [lift] at hh) (v := undef) (.inr ⟨hw, rfl⟩) hS ?_
        exact ih _ _ (by simp [planSize] at hfu; omega) hp.2 _ _ _ _ _ (hf.put (dok ho) _) (hkg.rm _ _) hS h
    · exact h.elim
  | l i p ih =>
    intro li fuel hfu hp kg e ds w a hf hkg hS h
    obtain ⟨fuel, rfl⟩ : ∃ m, fuel = m + 1 := ⟨fuel - 1, by simp [planSize] at hfu; omega⟩
    simp only [planOk, Bool.and_eq_true, beq_iff_eq] at hp
    refine wpAnyH_all hp.1 (by simp) ?_
    intro j hj
    rcases List.mem_singleton.1 hj with rfl
    rw [TD_l] at h
    exact loud hf hkg hS (fun kg e ds w a hf hkg hS h => ih _ _ (by simp [planSize] at hfu; omega) hp.2 _ _ _ _ _ hf hkg hS h) h
  | ll i p j p' ih ih' =>
    intro li fuel hfu hp kg e ds w a hf hkg hS h
    obtain ⟨fuel, rfl⟩ : ∃ m, fuel = m + 1 := ⟨fuel - 1, by simp [planSize] at hfu; omega⟩
    simp only [planOk, Bool.and_eq_true, beq_iff_eq] at hp
    simp only [planSize] at hfu
    refine wpAnyH_all hp.1.1 (by simp) ?_
    intro k hk
    rw [TD_ll] at h
    rcases List.mem_cons.1 hk with rfl | hk
    · exact loud hf hkg hS (fun kg e ds w a hf hkg hS h => ih _ _ (by omega) hp.1.2 _ _ _ _ _ hf hkg hS h) h.1
    · rcases List.mem_singleton.1 hk with rfl
      exact loud hf hkg hS (fun kg e ds w a hf hkg hS h => ih' _ _ (by omega) hp.2 _ _ _ _ _ hf hkg hS h) h.2
  | lll i p j p' k p'' ih ih' ih'' =>
    intro li fuel hfu hp kg e ds w a hf hkg hS h
    obtain ⟨fuel, rfl⟩ : ∃ m, fuel = m + 1 := ⟨fuel - 1, by simp [planSize] at hfu; omega⟩
    simp only [planOk, Bool.and_eq_true, beq_iff_eq] at hp
    simp only [planSize] at hfu
    refine wpAnyH_all hp.1.1.1 (by simp) ?_
    intro m hm
    rw [TD_lll] at h
    rcases List.mem_cons.1 hm with rfl | hm
    · exact loud hf hkg hS (fun kg e ds w a hf hkg hS h => ih _ _ (by omega) hp.1.1.2 _ _ _ _ _ hf hkg hS h) h.1
    · rcases List.mem_cons.1 hm with rfl | hm
      · exact loud hf hkg hS (fun kg e ds w a hf hkg hS h => ih' _ _ (by omega) hp.1.2 _ _ _ _ _ hf hkg hS h) h.2.1
      · rcases List.mem_singleton.1 hm with rfl
        exact loud hf hkg hS (fun kg e ds w a hf hkg hS h => ih'' _ _ (by omega) hp.2 _ _ _ _ _ hf hkg hS h) h.2.2
end
end RL
