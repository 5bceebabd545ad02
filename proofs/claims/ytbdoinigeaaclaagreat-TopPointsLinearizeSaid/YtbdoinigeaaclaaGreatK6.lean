/- The transformer is sound: regions in order and in whatever order, code. Conditions: the table fits the program's types; the code writes slots below its frame's size. -/
import Derived.Test.YtbdoinigeaaclaaGreatK5
set_option linter.all false
namespace RL
open Go

section
variable {P : Program} {tab : Tab}
/-- A frame. -/
structure Fr (n : Nat) (a : Act) (e : Env) (ds : List Deferred) : Prop where
  size : a.tmps.size = n
  env : envOf a = e
  defers : a.defers = ds
theorem Fr.put {n : Nat} {a : Act} {e : Env} {ds : List Deferred} (h : Fr n a e ds) {o : Oper} (ho : dstOk n o = true) (v : Value) : Fr n (a.put o.dst v) (upo e o.dst v) ds := by
  refine ⟨by rw [put_size]; exact h.size, ?_, by rw [put_defers]; exact h.defers⟩
  rw [envOf_put _ _ _ ?_, h.env]
  intro t ht
  unfold dstOk at ho
  rw [ht] at ho
  rw [h.size]
  simpa using ho
/-- What the guards see. -/
def yie (ops : List Oper) (e : Env) (j : Nat) : Option Bool :=
  match nth ops j with
  | some oj => match oj.dst with
    | some d => match e d with
      | .bool t => some t
      | _ => none
    | none => none
  | none => none
theorem yielded_eq (ops : Array Oper) (a : Act) (j : Nat) : yielded ops a.tmps j = yie ops.toList (envOf a) j := by
  unfold yielded yie
  rw [nth_eq]
  simp only [Array.getElem?_toList]
  cases ops[j]? with
  | none => rfl
  | some oj =>
    simp only [Option.bind_some]
    cases oj.dst with
    | none => rfl
    | some d =>
      simp only [Option.bind_some, envOf, Array.getD_eq_getD_getElem?]
      cases a.tmps[d]? with
      | none => rfl
      | some v => simp only [Option.getD_some]; cases v <;> rfl
theorem CondT_elim {t : Bool} {f : Bool → Prop} (h : CondT t f) : f t := h.1
/-- The decided tests fit the frame. -/
def KgOk (kg : Kg) (e : Env) : Prop := ∀ d u, kgAt kg d = some u → e d = .bool u
theorem KgOk.nil (e : Env) : KgOk [] e := fun _ _ h => by cases h
theorem KgOk.cons {kg : Kg} {e : Env} (h : KgOk kg e) {d : Nat} {u : Bool} (hd : e d = .bool u) : KgOk ((d, u) :: kg) (upd e d (.bool u)) := by
  rw [upd_self e hd]
  intro k v hk
  unfold kgAt at hk
  by_cases hkd : d = k
  · subst hkd
    have : Nat.beq d d = true := by simp
    rw [this] at hk
    cases hk
    exact hd
  · rw [nbeq_ne hkd] at hk
    exact h k v hk
theorem KgOk.rm {kg : Kg} {e : Env} (h : KgOk kg e) (o : Option Nat) (v : Value) : KgOk (kgRm o kg) (upo e o v) := by
  cases o with
  | none =>
    have : kgRm none kg = kg := by cases kg <;> rfl
    rw [this]; exact h
  | some d =>
    have key : ∀ (kg : Kg) (k : Nat) (u : Bool), kgAt (kgRm (some d) kg) k = some u → k ≠ d ∧ kgAt kg k = some u := by
      intro kg
      induction kg with
      | nil => intro k u hk; cases hk
      | cons p r ih =>
        obtain ⟨j, x⟩ := p
        intro k u hk
        unfold kgRm at hk
        by_cases hjd : j = d
        · subst hjd
          have hb : Nat.beq j j = true := by simp
          simp only [hb, cond_true] at hk
          obtain ⟨h1, h2⟩ := ih k u hk
          refine ⟨h1, ?_⟩
          unfold kgAt
          rw [nbeq_ne (Ne.symm h1)]; exact h2
        · simp only [nbeq_ne hjd, cond_false] at hk
          unfold kgAt at hk ⊢
          by_cases hjk : j = k
          · subst hjk
            have hb : Nat.beq j j = true := by simp
            rw [hb] at hk ⊢
            exact ⟨hjd, hk⟩
          · rw [nbeq_ne hjk] at hk ⊢
            exact ih k u hk
    intro k u hk
    obtain ⟨h1, h2⟩ := key kg k u hk
    simp only [upo]
    rw [upd_ne _ _ h1]; exact h k u h2
theorem guardT_cases {ops : Array Oper} {kg : Kg} {o : Oper} {a : Act} {n : Nat} {e : Env} {ds : List Deferred} {go skip : Kg → Env → Prop} (hf : Fr n a e ds) (hkg : KgOk kg e)
    (h : guardT ops.toList kg o.guard e go skip) :
    ∃ kg, KgOk kg e ∧ ((Region.wanted o (yielded ops a.tmps) = true ∧ go kg e) ∨ (Region.wanted o (yielded ops a.tmps) = false ∧ skip kg e)) := by
  unfold guardT at h
  unfold Region.wanted
  split at h
  · rename_i hg
    rw [hg]
    exact ⟨kg, hkg, .inl ⟨rfl, h⟩⟩
  · rename_i j want hg
    rw [hg]
    simp only [yielded_eq, hf.env]
    unfold yie
    split at h
    · rename_i oj hoj
      rw [hoj]
      simp only
      split at h
      · rename_i d hd
        rw [hd]
        simp only
        split at h
        · rename_i u hu
          have ht := hkg d u hu
          rw [ht]
          simp only
          split at h
          · exact ⟨kg, hkg, .inl ⟨by simp, h⟩⟩
          · exact ⟨kg, hkg, .inl ⟨by simp, h⟩⟩
          · exact ⟨kg, hkg, .inr ⟨by simp, h⟩⟩
          · exact ⟨kg, hkg, .inr ⟨by simp, h⟩⟩
        · split at h
          · rename_i t ht
            rw [ht]
            simp only
            have h := CondT_elim h
            have hc := hkg.cons ht
            rw [upd_self e ht] at hc
            split at h <;> rw [upd_self e ht] at h
            · exact ⟨_, hc, .inl ⟨by simp, h⟩⟩
            · exact ⟨_, hc, .inl ⟨by simp, h⟩⟩
            · exact ⟨_, hc, .inr ⟨by simp, h⟩⟩
            · exact ⟨_, hc, .inr ⟨by simp, h⟩⟩
          · rename_i tt ht
            rw [ht]
            exact ⟨kg, hkg, .inr ⟨rfl, h⟩⟩
          · exact h.elim
      · exact h.elim
    · exact h.elim
theorem runK_mono {K K' : Value → World → Prop} (hm : ∀ v w, K v w → K' v w) {r : Result Next} (h : runK P K r) : runK P K' r := by
  cases r with
  | halt x w' => exact h
  | ok nx w' =>
    cases nx <;> first
      | exact hm _ _ h
      | exact h
      | exact h.mono fun x w'' ⟨v, hx, hv⟩ => ⟨v, hx, hm _ _ hv⟩
theorem run_defer {o : Oper} {e : Env} {c : Call} (ho : o.op = .defer c) {f : Operand} (hc : c.callee = .value f) {fn : Fn} {first captured : Array Value} (hf : ev e f = .func fn first captured) (w : World) :
    (execOp (ev e) o).run P w = .ok (.defer { target := .fn fn captured, args := (first.toList ++ c.args.toList.map (ev e)).toArray }) w := by
  unfold execOp; rw [ho]
  simp only [resolve, hc, hf, Deferred.ofValue]
  simp only [Sem.run_bind, Sem.run_pure, Result.andThen_ok]
  congr 3
  apply Array.ext'; simp
theorem TL_sound (hT : TabOk P tab) {ops : Array Oper} {n : Nat} {K : Env → List Deferred → World → Prop} {Q : Exit → Act → World → Prop}
    (hQ : ∀ a e ds w, Fr n a e ds → K e ds w → Q .normal a w) : ∀ (l : List Oper), l.all (dstOk n) = true → ∀ (kg : Kg) (e : Env) (ds : List Deferred) (w : World) (a : Act), Fr n a e ds → KgOk kg e →
      TL P tab ops.toList l kg K e ds w → wpList P ops Q l a w
  | [], _, _, e, ds, w, a, hf, _, h => hQ a e ds w hf h
  | o :: rest, hd, kg, e, ds, w, a, hf, hkg, h => by
    simp only [List.all_cons, Bool.and_eq_true] at hd
    rw [TL_cons] at h
    unfold stepL at h
    unfold wpList
    obtain ⟨kg, hkg, ⟨hw, h⟩ | ⟨hw, h⟩⟩ := guardT_cases hf hkg h
    · rw [if_pos hw]
      refine .inl ?_
      split at h
      · rename_i c ho
        split at h
        · rename_i f hc
          split at h
          · rename_i fn first captured hfn
            unfold Oper.wp
            rw [eval_eq, hf.env, run_defer ho hc hfn]
            simp only [Oper.upon]
            refine TL_sound hT hQ rest hd.2 _ _ _ _ _ ?_ (hkg.rm _ _) h
            have := hf.put hd.1 undef
            refine ⟨?_, ?_, ?_⟩
            · have := this.size; rw [put_size] at this ⊢; exact this
            · rw [← this.env]; cases o.dst <;> rfl
            · rw [put_defers, hf.defers]
          · exact h.elim
        · exact h.elim
      · apply runK_wp
        rw [eval_eq, hf.env]
        exact runK_mono (fun v w' hv => TL_sound hT hQ rest hd.2 _ _ _ _ _ (hf.put hd.1 v) (hkg.rm _ _) hv) (opT_run hT h)
    · rw [if_neg (by rw [hw]; decide)]
      exact TL_sound hT hQ rest hd.2 _ _ _ _ _ (hf.put hd.1 _) (hkg.rm _ _) h
theorem opQ_run (hT : TabOk P tab) {S : World → Prop} {o : Oper} {e : Env} {K : Value → Prop} (h : opQ P tab S o e K) : ∃ v, K v ∧ ∀ w, S w → (execOp (ev e) o).run P w = .ok (.value v) w := by
  have both : ∀ b : Bool, byB b (pureT P tab o e K) False → ∃ v, K v ∧ ∀ w, S w → (execOp (ev e) o).run P w = .ok (.value v) w := fun b hb => by
    cases b
    · exact hb.elim
    · obtain ⟨v, h1, h2⟩ := pureT_run hT hb; exact ⟨v, h1, fun w _ => h2 w⟩
  cases ho : o.op <;> simp only [opQ, ho] at h <;> try exact both _ h
  case load t x =>
    split at h
    · rename_i i hi
      obtain ⟨⟨v, hv, hK⟩⟩ := h
      refine ⟨v, hK, fun w hS => ?_⟩
      have he : execOp (ev e) o = (Instr.loadAt t (ev e x) >>= fun r => pure (.value r)) := by unfold execOp; rw [ho]
      rw [he]; simp only [Sem.run_bind, run_loadAt (hT.ty _ _ hi) (hv w hS), Result.andThen_ok, Sem.run_pure]
    · exact h.elim
theorem opQ_free {S T : World → Prop} {o : Oper} {e : Env} {K : Value → Prop} (hn : notLoad o.op = true) (h : opQ P tab S o e K) : opQ P tab T o e K := by
  cases ho : o.op <;> simp only [opQ, ho] at h ⊢ <;> first | exact h | (rw [ho] at hn; cases hn)
/-- None of D has come up. -/
def fresh (D : Nat → Bool) (li : Array Bool) : Prop := ∀ j, D j = true → li.getD j false = false
theorem fresh_of_set {D : Nat → Bool} {li : Array Bool} {i : Nat} (h : fresh D (li.setIfInBounds i true)) : fresh D li := fun j hj => by
  have h1 := h j hj
  by_cases hij : i = j
  · subst hij
    rcases Nat.lt_or_ge i li.size with hlt | hge
    · simp [hlt] at h1
    · simp [hge]
  · rw [getD_set_ne false hij] at h1; exact h1
theorem fresh_set {D : Nat → Bool} {li : Array Bool} {i : Nat} (hD : D i = false) (h : fresh D li) : fresh D (li.setIfInBounds i true) := fun j hj => by
  by_cases hij : i = j
  · subst hij; rw [hD] at hj; cases hj
  · rw [getD_set_ne false hij]; exact h j hj
theorem not_fresh {D : Nat → Bool} {li : Array Bool} {i : Nat} (hD : D i = true) (hi : i < li.size) : ¬ fresh D (li.setIfInBounds i true) := fun h => by
  have h1 := h i hD
  simp [hi] at h1
/-- Whatever order is picked from here on; S holds behind every operation, as long as none of D has come up. -/
def wpAnyX (P : Program) (ops : Array Oper) (Q : Exit → Act → World → Prop) (S : World → Prop) (D : Nat → Bool) : Nat → Array Bool → Act → World → Prop
  | 0, li, a, w => Region.ready .any ops li = [] ∧ Q .normal a w
  | fuel + 1, li, a, w => (Region.ready .any ops li = [] → Q .normal a w) ∧
    ∀ i ∈ Region.ready .any ops li, wpOp P ops Q i (fun a' w' => (fresh D (li.setIfInBounds i true) → S w') ∧ wpAnyX P ops Q S D fuel (li.setIfInBounds i true) a' w') a w
theorem wpAny_of_X {ops : Array Oper} {Q : Exit → Act → World → Prop} {S : World → Prop} {D : Nat → Bool} : ∀ (fuel : Nat) (li : Array Bool) (a : Act) (w : World), wpAnyX P ops Q S D fuel li a w → wpAny P .any ops Q fuel li a w
  | 0, _, _, _, h => h
  | fuel + 1, _, _, _, h => ⟨h.1, fun i hi => wpOp_mono (fun a' w' h' => wpAny_of_X fuel _ a' w' h'.2) (h.2 i hi)⟩
theorem wpAnyX_done {ops : Array Oper} {Q : Exit → Act → World → Prop} {S : World → Prop} {D : Nat → Bool} {li : Array Bool} {a : Act} {w : World} (hr : Region.ready .any ops li = []) (h : Q .normal a w) :
    ∀ fuel, wpAnyX P ops Q S D fuel li a w
  | 0 => ⟨hr, h⟩
  | _ + 1 => ⟨fun _ => h, by rw [hr]; simp⟩
theorem wpAnyX_all {ops : Array Oper} {Q : Exit → Act → World → Prop} {S : World → Prop} {D : Nat → Bool} {rs : List Nat} {fuel : Nat} {li : Array Bool} {a : Act} {w : World} (hr : Region.ready .any ops li = rs) (hne : rs ≠ [])
    (h : ∀ i ∈ rs, i < li.size → wpOp P ops Q i (fun a' w' => (fresh D (li.setIfInBounds i true) → S w') ∧ wpAnyX P ops Q S D fuel (li.setIfInBounds i true) a' w') a w) : wpAnyX P ops Q S D (fuel + 1) li a w := by
  refine ⟨fun h0 => absurd (hr ▸ h0) hne, fun i hi => h i (hr ▸ hi) ?_⟩
  have h1 := (mem_ready.1 hi).1
  refine Nat.lt_of_not_le fun hge => ?_
  simp [Array.getElem?_eq_none hge] at h1
/-- A quiet operation may be taken first: what it reads (T) holds as long as it has not come up. -/
theorem wpAnyX_first {ops : Array Oper} {Q : Exit → Act → World → Prop} {S T : World → Prop} {D : Nat → Bool} {i : Nat} {oi : Oper} {v : Value} (hi : ops[i]? = some oi) (hsel : ∀ (j : Nat) (o : Oper) cs b, ops[j]? = some o → o.op ≠ .select cs b)
    (hQ : ∀ c a w, Q (.panic c) (a.put oi.dst v) w → Q (.panic c) a w) (hDi : D i = false)
    (hD : (∀ w, T w) ∨ (T = S ∧ ∀ j oj, ops[j]? = some oj → D j = true → ∃ e ∈ oj.after, Region.binds .any e = true ∧ e.on = i)) :
    ∀ (fuel : Nat) (li : Array Bool) (a : Act) (w : World),
      (∀ j oj, ops[j]? = some oj → j ≠ i → li.getD j true = false → (∀ e ∈ oj.after, Region.binds .any e = true → e.on ≠ i) → oi.apart ops oj = true) →
      i ∈ Region.ready .any ops li → YieldsIf P ops T oi v a → ((∀ w, T w) ∨ fresh D li) → (fresh D li → S w) →
      wpAnyX P ops Q S D fuel (li.setIfInBounds i true) (a.put oi.dst v) w → wpAnyX P ops Q S D (fuel + 1) li a w := by
  have hTw : ∀ {li : Array Bool} {w : World}, ((∀ w, T w) ∨ fresh D li) → (fresh D li → S w) → T w := fun {li w} h1 h2 => by
    rcases hD with hD | hD
    · exact hD w
    · rcases h1 with h1 | h1
      · exact h1 w
      · rw [hD.1]; exact h2 h1
  intro fuel
  induction fuel with
  | zero =>
    intro li a w _ hr hy hf hS H
    refine ⟨fun h => (by rw [h] at hr; cases hr), fun j hj => ?_⟩
    by_cases hji : j = i
    · subst hji; exact hy.wpOp hi (hTw hf hS) ⟨fun h => hS (fresh_of_set h), H⟩
    · have := ready_mono hj hji
      rw [H.1] at this
      cases this
  | succ fuel ih =>
    intro li a w hfree hr hy hf hS H
    refine ⟨fun h => (by rw [h] at hr; cases hr), fun j hj => ?_⟩
    by_cases hji : j = i
    · subst hji; exact hy.wpOp hi (hTw hf hS) ⟨fun h => hS (fresh_of_set h), H⟩
    · have h1 := H.2 j (ready_mono hj hji)
      obtain ⟨hjun, oj, hoj, hall⟩ := mem_ready.1 hj
      have hnot : ∀ e ∈ oj.after, Region.binds .any e = true → e.on ≠ i := fun e he hb heq => by
        have h1 := hall e he hb
        have h0 := (mem_ready.1 hr).1
        rw [heq] at h1
        rcases Nat.lt_or_ge i li.size with h' | h'
        · simp [h'] at h0 h1; rw [h0] at h1; cases h1
        · simp [Array.getElem?_eq_none h'] at h1
      have h2 := wpOp_putIf hoj (hfree j oj hoj hji hjun hnot) (fun cs b => hsel i oi cs b hi) (fun cs b => hsel j oj cs b hoj) hQ hy h1
      have hfree' : ∀ k ok, ops[k]? = some ok → k ≠ i → (li.setIfInBounds j true).getD k true = false →
          (∀ e ∈ ok.after, Region.binds .any e = true → e.on ≠ i) → oi.apart ops ok = true := fun k ok hk hki hun hno => by
        refine hfree k ok hk hki ?_ hno
        by_cases hjk : j = k
        · subst hjk; exact hjun
        · rw [getD_set_ne true hjk] at hun; exact hun
      have hf' : (∀ w, T w) ∨ fresh D (li.setIfInBounds j true) := by
        rcases hD with hD | hD
        · exact .inl hD
        · rcases hf with hf | hf
          · exact .inl hf
          · refine .inr (fresh_set ?_ hf)
            cases hd : D j with
            | false => rfl
            | true =>
              obtain ⟨e, he, hb, heq⟩ := hD.2 j oj hoj hd
              exact absurd heq (hnot e he hb)
      refine wpOp_mono (fun a' w' h3 => ?_) h2
      have hs3 : fresh D (li.setIfInBounds j true) → S w' := fun h => h3.2.1 (by
        rw [Array.setIfInBounds_comm _ _ (Ne.symm hji)]
        exact fresh_set hDi h)
      refine ⟨hs3, ih (li.setIfInBounds j true) a' w' hfree' (ready_mono hr (Ne.symm hji)) h3.1 hf' hs3 ?_⟩
      rw [Array.setIfInBounds_comm _ _ hji]
      exact h3.2.2
theorem closeOk_spec {ops : Array Oper} {D : Nat → Bool} (h : closeOk ops D = true) {i : Nat} {oi : Oper} (hi : ops[i]? = some oi) (hDi : D i = false) (hl : notLoad oi.op = false) (j : Nat) (oj : Oper) (hj : ops[j]? = some oj) (hd : D j = true) :
    ∃ e ∈ oj.after, Region.binds .any e = true ∧ e.on = i := by
  have hjs := (Array.getElem?_eq_some_iff.1 hj).1
  have his := (Array.getElem?_eq_some_iff.1 hi).1
  simp only [closeOk, List.all_eq_true, List.mem_range] at h
  have h1 := h j hjs
  rw [hd] at h1
  simp only [Bool.not_true, Bool.false_or, List.all_eq_true, List.mem_range] at h1
  have h2 := h1 i his
  rw [hDi, hi, hj] at h2
  simp only [Bool.false_or, hl] at h2
  obtain ⟨e, he, hb⟩ := Array.any_eq_true'.1 h2
  simp only [Bool.and_eq_true, beq_iff_eq] at hb
  exact ⟨e, he, hb⟩
theorem TD_sound (hT : TabOk P tab) {ops : Array Oper} {n : Nat} {S : World → Prop} {D : Nat → Bool} {K : Env → List Deferred → World → Prop} {Q : Post}
    (hQ : ∀ e ds w, K e ds w → Q .normal e ds w) (hsel : Region.noSelect ops = true) (hd : ops.toList.all (dstOk n) = true) (hcl : closeOk ops D = true) :
    ∀ (p : Plan) (li : Array Bool) (fuel : Nat), planSize p ≤ fuel → planOk ops p li = true → ∀ (kg : Kg) (e : Env) (ds : List Deferred) (w : World) (a : Act), Fr n a e ds → KgOk kg e → (tailD D p = true ∨ (fresh D li ∧ S w)) →
      TD P tab ops.toList S D p kg K e ds w → wpAnyX P ops (lift n Q) S D fuel li a w := by
  have dok : ∀ {i : Nat} {o : Oper}, nth ops.toList i = some o → dstOk n o = true := fun {i o} h => by
    rw [nth_eq] at h
    exact List.all_eq_true.1 hd o (List.mem_of_getElem? h)
  have loud : ∀ {i : Nat} {p : Plan} {li : Array Bool} {fuel : Nat} {kg : Kg} {e : Env} {ds : List Deferred} {w : World} {a : Act}, Fr n a e ds → KgOk kg e → i < li.size → ((D i = true ∧ tailD D p = true) ∨ (fresh D li ∧ S w)) →
      (∀ (kg : Kg) (e : Env) (ds : List Deferred) (w : World) (a : Act), Fr n a e ds → KgOk kg e → (tailD D p = true ∨ (fresh D (li.setIfInBounds i true) ∧ S w)) → TD P tab ops.toList S D p kg K e ds w → wpAnyX P ops (lift n Q) S D fuel (li.setIfInBounds i true) a w) →
      stepD P tab ops.toList S D i (tailD D p) (TD P tab ops.toList S D p) kg K e ds w →
      wpOp P ops (lift n Q) i (fun a' w' => (fresh D (li.setIfInBounds i true) → S w') ∧ wpAnyX P ops (lift n Q) S D fuel (li.setIfInBounds i true) a' w') a w := by
    intro i p li fuel kg e ds w a hf hkg hil hS ih h
    unfold stepD at h
    split at h
    · rename_i o ho
      have ho' : ops[i]? = some o := by rw [nth_eq] at ho; simpa using ho
      unfold wpOp
      rw [ho']
      simp only
      obtain ⟨kg, hkg, ⟨hw, h⟩ | ⟨hw, h⟩⟩ := guardT_cases hf hkg h
      · rw [if_pos hw]
        refine .inl (runK_wp ?_)
        rw [eval_eq, hf.env]
        refine runK_mono (fun v w' hv => ?_) (opT_run hT h)
        cases hdi : D i with
        | true =>
          rw [hdi] at hv
          exact ⟨fun hx => absurd hx (not_fresh hdi hil), ih _ _ _ _ _ (hf.put (dok ho) v) (hkg.rm _ _) (.inl hv.1) hv.2⟩
        | false =>
          rw [hdi] at hv
          rcases hS with hS | hS
          · rw [hdi] at hS; cases hS.1
          · exact ⟨fun _ => hv.1, ih _ _ _ _ _ (hf.put (dok ho) v) (hkg.rm _ _) (.inr ⟨fresh_set hdi hS.1, hv.1⟩) hv.2⟩
      · rw [if_neg (by rw [hw]; decide)]
        cases hdi : D i with
        | true =>
          rw [hdi] at h
          exact ⟨fun hx => absurd hx (not_fresh hdi hil), ih _ _ _ _ _ (hf.put (dok ho) _) (hkg.rm _ _) (.inl h.1) h.2⟩
        | false =>
          rcases hS with hS | hS
          · rw [hdi] at hS; cases hS.1
          · rw [hdi] at h
            exact ⟨fun _ => hS.2, ih _ _ _ _ _ (hf.put (dok ho) _) (hkg.rm _ _) (.inr ⟨fresh_set hdi hS.1, hS.2⟩) h⟩
    · exact h.elim
  intro p
  induction p with
  | nil =>
    intro li fuel _ hp kg e ds w a hf hkg hS h
    unfold planOk at hp
    refine wpAnyX_done (by simpa using hp) ?_ _
    simp only [lift]
    exact ⟨hf.size, by rw [hf.env, hf.defers]; exact hQ _ _ _ h⟩
  | q i p ih =>
    intro li fuel hfu hp kg e ds w a hf hkg hS h
    have hS : fresh D li ∧ S w := by
      rcases hS with hS | hS
      · cases hS
      · exact hS
    obtain ⟨fuel, rfl⟩ : ∃ m, fuel = m + 1 := ⟨fuel - 1, by simp [planSize] at hfu; omega⟩
    simp only [planOk, Bool.and_eq_true] at hp
    rw [TD_q] at h
    unfold stepQ at h
    split at h
    · rename_i o ho
      have ho' : ops[i]? = some o := by rw [nth_eq] at ho; simpa using ho
      cases hdi : D i with
      | true => rw [hdi] at h; exact h.elim
      | false =>
        rw [hdi] at h
        have h := byD_false h
        have take : ∀ {T : World → Prop} {v : Value}, ((∀ w, T w) ∨ (T = S ∧ notLoad o.op = false)) → YieldsIf P ops T o v a → wpAnyX P ops (lift n Q) S D fuel (li.setIfInBounds i true) (a.put o.dst v) w → wpAnyX P ops (lift n Q) S D (fuel + 1) li a w := fun hT' hy hx =>
          wpAnyX_first ho' (Region.noSelect_spec hsel) (fun c a w hh => by simp [lift] at hh) hdi (hT'.imp_right fun h => ⟨h.1, closeOk_spec hcl ho' hdi h.2⟩) fuel li a w (Region.free_spec ho' hp.1.2) (by simpa using hp.1.1) hy (.inr hS.1) (fun _ => hS.2) hx
        obtain ⟨kg, hkg, ⟨hw, h⟩ | ⟨hw, h⟩⟩ := guardT_cases hf hkg h
        · cases hnl : notLoad o.op with
          | true =>
            obtain ⟨v, hv, hrun⟩ := opQ_run hT (opQ_free (T := fun _ => True) hnl h)
            refine take (T := fun _ => True) (v := v) (.inl fun _ => trivial) (.inl ⟨hw, fun w' hS' => ?_⟩) ?_
            · rw [eval_eq, hf.env]; exact hrun w' hS'
            · exact ih _ _ (by simp [planSize] at hfu; omega) hp.2 _ _ _ _ _ (hf.put (dok ho) v) (hkg.rm _ _) (.inr ⟨fresh_set hdi hS.1, hS.2⟩) hv
          | false =>
            obtain ⟨v, hv, hrun⟩ := opQ_run hT h
            refine take (T := S) (v := v) (.inr ⟨rfl, hnl⟩) (.inl ⟨hw, fun w' hS' => ?_⟩) ?_
            · rw [eval_eq, hf.env]; exact hrun w' hS'
            · exact ih _ _ (by simp [planSize] at hfu; omega) hp.2 _ _ _ _ _ (hf.put (dok ho) v) (hkg.rm _ _) (.inr ⟨fresh_set hdi hS.1, hS.2⟩) hv
        · refine take (T := fun _ => True) (v := undef) (.inl fun _ => trivial) (.inr ⟨hw, rfl⟩) ?_
          exact ih _ _ (by simp [planSize] at hfu; omega) hp.2 _ _ _ _ _ (hf.put (dok ho) _) (hkg.rm _ _) (.inr ⟨fresh_set hdi hS.1, hS.2⟩) h
    · exact h.elim
  | l i p ih =>
    intro li fuel hfu hp kg e ds w a hf hkg hS h
    obtain ⟨fuel, rfl⟩ : ∃ m, fuel = m + 1 := ⟨fuel - 1, by simp [planSize] at hfu; omega⟩
    simp only [planOk, Bool.and_eq_true, beq_iff_eq] at hp
    refine wpAnyX_all hp.1 (by simp) ?_
    intro j hj hjl
    rcases List.mem_singleton.1 hj with rfl
    rw [TD_l] at h
    exact loud hf hkg hjl (hS.imp_left fun h => by simpa [tailD] using h) (fun kg e ds w a hf hkg hS h => ih _ _ (by simp [planSize] at hfu; omega) hp.2 _ _ _ _ _ hf hkg hS h) h
  | ll i p j p' ih ih' =>
    intro li fuel hfu hp kg e ds w a hf hkg hS h
    obtain ⟨fuel, rfl⟩ : ∃ m, fuel = m + 1 := ⟨fuel - 1, by simp [planSize] at hfu; omega⟩
    simp only [planOk, Bool.and_eq_true, beq_iff_eq] at hp
    simp only [planSize] at hfu
    refine wpAnyX_all hp.1.1 (by simp) ?_
    intro k hk hkl
    rw [TD_ll] at h
    have hT' : tailD D (.ll i p j p') = true → (D i = true ∧ tailD D p = true) ∧ (D j = true ∧ tailD D p' = true) := fun h => by
      simp only [tailD, Bool.and_eq_true] at h
      exact ⟨⟨h.1.1.1, h.1.2⟩, h.1.1.2, h.2⟩
    rcases List.mem_cons.1 hk with rfl | hk
    · exact loud hf hkg hkl (hS.imp_left fun h => (hT' h).1) (fun kg e ds w a hf hkg hS h => ih _ _ (by omega) hp.1.2 _ _ _ _ _ hf hkg hS h) h.1
    · rcases List.mem_singleton.1 hk with rfl
      exact loud hf hkg hkl (hS.imp_left fun h => (hT' h).2) (fun kg e ds w a hf hkg hS h => ih' _ _ (by omega) hp.2 _ _ _ _ _ hf hkg hS h) h.2
  | lll i p j p' k p'' ih ih' ih'' =>
    intro li fuel hfu hp kg e ds w a hf hkg hS h
    obtain ⟨fuel, rfl⟩ : ∃ m, fuel = m + 1 := ⟨fuel - 1, by simp [planSize] at hfu; omega⟩
    simp only [planOk, Bool.and_eq_true, beq_iff_eq] at hp
    simp only [planSize] at hfu
    refine wpAnyX_all hp.1.1.1 (by simp) ?_
    intro m hm hml
    rw [TD_lll] at h
    have hT' : tailD D (.lll i p j p' k p'') = true → (D i = true ∧ tailD D p = true) ∧ (D j = true ∧ tailD D p' = true) ∧ (D k = true ∧ tailD D p'' = true) := fun h => by
      simp only [tailD, Bool.and_eq_true] at h
      exact ⟨⟨h.1.1.1.1.1, h.1.1.2⟩, ⟨h.1.1.1.1.2, h.1.2⟩, h.1.1.1.2, h.2⟩
    rcases List.mem_cons.1 hm with rfl | hm
    · exact loud hf hkg hml (hS.imp_left fun h => (hT' h).1) (fun kg e ds w a hf hkg hS h => ih _ _ (by omega) hp.1.1.2 _ _ _ _ _ hf hkg hS h) h.1
    · rcases List.mem_cons.1 hm with rfl | hm
      · exact loud hf hkg hml (hS.imp_left fun h => (hT' h).2.1) (fun kg e ds w a hf hkg hS h => ih' _ _ (by omega) hp.1.2 _ _ _ _ _ hf hkg hS h) h.2.1
      · rcases List.mem_singleton.1 hm with rfl
        exact loud hf hkg hml (hS.imp_left fun h => (hT' h).2.2) (fun kg e ds w a hf hkg hS h => ih'' _ _ (by omega) hp.2 _ _ _ _ _ hf hkg hS h) h.2.2
end
end RL
