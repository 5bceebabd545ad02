/- Loops within a round of a range over a function. Conditions: the table fits the program's types; no call is deferred in a round. -/
import Derived.Test.YtbdoinigeaaclaaGreatB22
set_option linter.all false
namespace RL
open Go
def calmL : Code → Bool
  | .loop c => calmL c
  | .seq a b => calmL a && calmL b
  | .cond _ a b => calmL a && calmL b
  | .block _ c => calmL c
  | .region _ ops false => ops.toList.all calmOp
  | .skip | .exit _ | .ret => true
  | _ => false
section
variable {P : Program} {tab : Tab} {F : Fence}
theorem TCLoop_sound (hT : TabOk P tab) (hF : Open F) {m n : Nat} : ∀ (c : Code) (Q : Post), codeOk n c = true → calmL c = true → ∀ (e : Env) (ds : List Deferred) (w : World) (a : Act), Fr n a e ds →
    TC P tab c Q e ds w → c.wpIn F m P (lift n Q) a w
  | .skip, Q, _, _, e, ds, w, a, hf, h => wpIn_skip ⟨hf.size, by rw [hf.env, hf.defers]; exact h⟩
  | .region i ops false, Q, hok, hc, e, ds, w, a, hf, h => TCIn_sound hT hF (.region i ops false) Q hok hc e ds w a hf h
  | .seq x y, Q, hok, hc, e, ds, w, a, hf, h => by
    simp only [codeOk, calmL, Bool.and_eq_true] at hok hc
    refine wpIn_seq (wpIn_lift (TCLoop_sound hT hF x _ hok.1 hc.1 e ds w a hf h) ?_)
    intro x' a' w' hx
    cases x' with
    | normal => exact TCLoop_sound hT hF y Q hok.2 hc.2 _ _ _ _ ⟨hx.1, rfl, rfl⟩ hx.2
    | _ => exact hx
  | .cond c x y, Q, hok, hcc, e, ds, w, a, hf, h => by
    simp only [codeOk, calmL, Bool.and_eq_true] at hok hcc
    rw [TC_cond] at h
    unfold condT at h
    cases hv : ev e c <;> simp only [hv] at h
    rename_i t
    have hc : a.eval c = .bool t := by rw [eval_eq, hf.env]; exact hv
    have h := CondT_elim h
    cases t
    · exact wpIn_cond_false hc (TCLoop_sound hT hF y Q hok.2 hcc.2 _ _ _ _ hf h)
    · exact wpIn_cond_true hc (TCLoop_sound hT hF x Q hok.1 hcc.1 _ _ _ _ hf h)
  | .block id c, Q, hok, hc, e, ds, w, a, hf, h => by
    refine wpIn_block (wpIn_lift (TCLoop_sound hT hF c _ (by simpa [codeOk] using hok) (by simpa [calmL] using hc) e ds w a hf h) ?_)
    intro x' a' w' hx
    cases x' with
    | exit id' =>
      simp only [lift, blockQ] at hx
      simp only [Exit.inBlock]
      by_cases hid : id' = id
      · subst hid
        rw [if_pos rfl]
        have : Nat.beq id' id' = true := by simp
        rw [this] at hx
        exact hx
      · rw [if_neg hid]
        rw [nbeq_ne hid] at hx
        exact hx
    | _ => exact hx
  | .exit id, Q, _, _, e, ds, w, a, hf, h => wpIn_exit ⟨hf.size, by rw [hf.env, hf.defers]; exact h⟩
  | .ret, Q, _, _, e, ds, w, a, hf, h => wpIn_ret ⟨hf.size, by rw [hf.env, hf.defers]; exact h⟩
  | .loop c, Q, hok, hc, e, ds, w, a, hf, h => by
    obtain ⟨⟨I, μ, h1, h2⟩⟩ := h
    refine wpIn_loop (fun a w => a.tmps.size = n ∧ I (envOf a) a.defers w) (fun a w => μ (envOf a) w) ⟨hf.size, by rw [hf.env, hf.defers]; exact h1⟩ ?_
    intro a w ⟨hs, hI⟩
    refine wpIn_lift (TCLoop_sound hT hF c _ (by simpa [codeOk] using hok) (by simpa [calmL] using hc) _ _ _ a ⟨hs, rfl, rfl⟩ (h2 _ _ _ hI)) ?_
    intro x' a' w' hx
    cases x' with
    | normal => exact ⟨⟨hx.1, hx.2.1⟩, hx.2.2⟩
    | _ => exact hx
end
section
variable {P : Program} {tab : Tab}
theorem YldO.ofL (hT : TabOk P tab) {l : Nat} {r : Loop} {args : List Value} {w : World} {K : Value → World → Prop} {n : Nat} {e : Env} (hl : w.heap[l]? = some (.loop r)) (hs : r.state = .ready) (hn : args.length = r.params.size)
    (hsz : (roundTmps r args).size = n) (he : envOf ⟨roundTmps r args, []⟩ = e) (h1 : codeOk n r.assign = true) (h2 : codeOk n r.body = true) (c1 : calmC r.assign = true) (c2 : calmL r.body = true)
    (h : TC P tab r.assign (fun x e ds w1 => x = .normal ∧ w1.heap[l]? = some (.loop r) ∧ TC P tab r.body (rpost l K) e ds (w1.putObj l (.loop { r with state := .busy }))) e [] w) : YldO P l args w K := by
  refine ⟨r, hl, hn, fun m => ?_⟩
  refine roundIn_of_wpIn (F := Fence.wide) trivial ?_
  refine Go.wpIn_mono (TCIn_sound hT (open_round l) (m := m) r.assign _ h1 c1 e [] w ⟨roundTmps r args, []⟩ ⟨hsz, he, rfl⟩ h) ?_
  intro x a w1 hx
  cases x with
  | normal =>
    obtain ⟨hz, _, hl1, hb⟩ := hx
    refine ⟨_, run_beginRound hl1 hs, ?_⟩
    refine Go.wpIn_mono (TCLoop_sound hT (open_round l) (m := m) r.body _ h2 c2 _ _ _ a ⟨hz, rfl, rfl⟩ hb) ?_
    intro y a2 w2 hy
    cases y with
    | normal =>
      obtain ⟨_, r2, hr2, hK⟩ := hy
      exact ⟨_, _, run_endRound none hr2, _, rfl, hK⟩
    | ret =>
      obtain ⟨_, r2, hr2, hK⟩ := hy
      exact ⟨_, _, run_endRound (some .ret) hr2, _, rfl, hK⟩
    | exit id =>
      obtain ⟨_, r2, hr2, hK⟩ := hy
      exact ⟨_, _, run_endRound (some (.exit id)) hr2, _, rfl, hK⟩
    | _ => exact hy.elim
  | ret => exact absurd hx.2.1 (by intro h; cases h)
  | exit id => exact absurd hx.2.1 (by intro h; cases h)
  | _ => exact hx.elim
theorem wpListIn_opF (hT : TabOk P tab) {F : Fence} (hF : Open F) {m n : Nat} {ops : Array Oper} {Q : Exit → Act → World → Prop} {o : Oper} {rest : List Oper} {a : Act} {e : Env} {ds : List Deferred} {w : World} (hf : Fr n a e ds) (hd : dstOk n o = true) (hg : o.guard = none) (hc : calmOp o = true)
    (h : opT P tab o e w fun v w' => ∀ a', Fr n a' (upo e o.dst v) ds → wpListIn F m P ops Q rest a' w') : wpListIn F m P ops Q (o :: rest) a w :=
  wpListIn_op hT hF hf.env hg hc (opT_mono (fun v w' hK => hK _ (hf.put hd v)) h)
theorem wpListIn_yieldF {F : Fence} (hF : Open F) (hF2 : F = Fence.wide) {m n : Nat} {ops : Array Oper} {Q : Exit → Act → World → Prop} {d : Option Tmp} {f x : Operand} {ts : Array TypeId} {ty : TypeId} {pos : String} {af : Array Edge} {rest : List Oper} {a : Act} {e : Env} {ds : List Deferred} {w : World} {l : Nat} {y : Value}
    (hf : Fr n a e ds) (hd : dstOk n ⟨d, .call ⟨.value f, #[x], ts⟩, ty, pos, af, none⟩ = true) (hfv : ev e f = yieldV l) (hx : ev e x = y) (h : YldO P l [y] w fun v w' => ∀ a', Fr n a' (upo e d v) ds → wpListIn F m P ops Q rest a' w') : wpListIn F m P ops Q (⟨d, .call ⟨.value f, #[x], ts⟩, ty, pos, af, none⟩ :: rest) a w := by
  refine wpListIn_yield hF hF2 (l := l) (by rw [eval_eq, hf.env]; exact hfv) ?_
  have e1 : (#[x] : Array Operand).toList.map a.eval = [y] := by
    show [a.eval x] = [y]
    rw [eval_eq, hf.env, hx]
  rw [e1]
  exact h.mono fun v w' hK => hK _ (hf.put hd v)
end
/-- 'x[i:j]'. -/
theorem Sl.midO {h : Hp} {sz i j : Nat} {v : Value} {rows : List (List Value)} {kk kk' : IntKind} (hs : Sl h sz v rows) (hij : i ≤ j) (hj : j ≤ rows.length) {K : Value → Prop} (k : ∀ v', Sl h sz v' ((rows.take j).drop i) → K v') :
    SlcO sz v (some (.int kk (i : Int))) (some (.int kk' (j : Int))) none K := by
  obtain ⟨⟨a, len, cap, l, hh, m, e1, e2, e3, e4, e5, ⟨k6, e6⟩, e7, e8⟩⟩ := Sl.takeO (kk := .i64) hs hj (K := fun v' => Sl h sz v' (rows.take j)) (fun _ h => h)
  have e5 : m = cap := e5
  have e7 : l = 0 := e7
  injection e6 with _ e6
  have e6 : hh = j := by omega
  subst e5 e7 e6
  have hln : (rows.take hh).length = hh := by rw [List.length_take]; omega
  obtain ⟨⟨a2, len2, cap2, l2, hh2, m2, f1, f2, f3, f4, f5, f6, ⟨k7, f7⟩, f8⟩⟩ := Sl.dropO (kk := .i64) e8 (n := i) (by omega) (K := fun v' => Sl h sz v' ((rows.take hh).drop i)) (fun _ h => h)
  have f5 : m2 = cap2 := f5
  have f6 : hh2 = len2 := f6.1
  injection f7 with _ f7
  have f7 : l2 = i := by omega
  subst f5 f6 f7
  have fa : (if m = 0 then a else a.map (·.add (0 * sz))) = a := by rw [Nat.zero_mul, map_add_zero]; simp
  rw [fa] at f1
  injection f1 with g1 g2 g3
  have g2 : hh - 0 = hh2 := g2
  have g3 : m - 0 = m2 := g3
  rw [Nat.sub_zero] at g2 g3
  subst g1 g2 g3
  exact ⟨⟨a, len, m, l2, hh, m, e1, hij, e3, Nat.le_refl _, rfl, ⟨kk', rfl⟩, ⟨kk, rfl⟩, k _ f8⟩⟩
end RL
