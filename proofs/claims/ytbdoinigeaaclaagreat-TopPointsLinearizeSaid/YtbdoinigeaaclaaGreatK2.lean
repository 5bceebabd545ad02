/- The transformer itself, operation by operation, region by region, code by code. Conditions: none; nothing is proved here but small facts on the words. -/
import Derived.Test.YtbdoinigeaaclaaGreatK1
set_option linter.all false
namespace RL
open Go

/-! ### What single operations owe -/
/-- An integer result of kind 'k'. -/
inductive ArO (k : IntKind) (z : Int) (K : Value → Prop) : Prop
  | mk (h : K (.int k (k.wrap z)))
inductive DivO (k : IntKind) (op : BinOp) (a b : Int) (K : Value → Prop) : Prop
  | mk (h : b ≠ 0 ∧ match op with
    | .quo => K (.int k (k.wrap (a.tdiv b)))
    | .rem => K (.int k (a.tmod b))
    | _ => False)
inductive ShO (k : IntKind) (op : BinOp) (a b : Int) (K : Value → Prop) : Prop
  | mk (h : 0 ≤ b ∧ match op with
    | .shl => K (.int k (k.wrap (a * 2 ^ (min b.toNat k.bits))))
    | .shr => K (.int k (a.fdiv (2 ^ (min b.toNat k.bits))))
    | _ => False)
/-- Whatever yields one value in every world. -/
inductive PurO (P : Program) (o : Oper) (e : Env) (K : Value → Prop) : Prop
  | mk (h : ∃ v, (∀ w, (execOp (ev e) o).run P w = .ok (.value v) w) ∧ K v)
/-- Whatever runs to its end. -/
inductive RunO (P : Program) (o : Oper) (e : Env) (w : World) (K : Value → World → Prop) : Prop
  | mk (h : ∃ v w', ((execOp (ev e) o).run P w = .ok (.value v) w' ∨ (execOp (ev e) o).run P w = .ok .skip w' ∧ v = undef) ∧ K v w')
inductive IdxO (sz : Nat) (x i : Value) (K : Value → Prop) : Prop
  | mk (h : ∃ b o len cap k n, x = .slice (some ⟨b, o, none⟩) len cap ∧ i = .int k n ∧ 0 ≤ n ∧ n < len ∧ K (.pointer (some ⟨b, o + n.toNat * sz, none⟩)))
/-- Indexing an array's variable. -/
inductive IdaO (len sz : Nat) (x i : Value) (K : Value → Prop) : Prop
  | mk (h : ∃ b o k n, x = .pointer (some ⟨b, o, none⟩) ∧ i = .int k n ∧ 0 ≤ n ∧ n < len ∧ K (.pointer (some ⟨b, o + n.toNat * sz, none⟩)))
/-- 'x[lo:hi:mx]' of a slice. -/
inductive SlcO (sz : Nat) (x : Value) (lo hi mx : Option Value) (K : Value → Prop) : Prop
  | mk (h : ∃ (a : Option Addr) (len cap : Nat) (l h m : Nat), x = .slice a len cap ∧ l ≤ h ∧ h ≤ m ∧ m ≤ cap ∧
    (match mx with | some v => ∃ k, v = .int k m | none => m = cap) ∧
    (match hi with | some v => ∃ k, v = .int k h | none => h = len ∧ mx = none) ∧
    (match lo with | some v => ∃ k, v = .int k l | none => l = 0) ∧
    K (.slice (if m = l then a else a.map (·.add (l * sz))) (h - l) (m - l)))
def binT (P : Program) (tab : Tab) (o : Oper) (e : Env) (op : BinOp) (t : TypeId) (x y : Value) (K : Value → Prop) : Prop :=
  match x, y with
  | .int k a, .int k' b =>
    match decide (k = k') with
    | true => match op with
      | .add => ArO k (a + b) K
      | .sub => ArO k (a - b) K
      | .mul => ArO k (a * b) K
      | .eql => K (.bool (decide (a = b)))
      | .neq => K (.bool (decide (a ≠ b)))
      | .lss => K (.bool (decide (a < b)))
      | .leq => K (.bool (decide (a ≤ b)))
      | .gtr => K (.bool (decide (b < a)))
      | .geq => K (.bool (decide (b ≤ a)))
      | .quo => DivO k .quo a b K
      | .rem => DivO k .rem a b K
      | .shl => ShO k .shl a b K
      | .shr => ShO k .shr a b K
      | _ => PurO P o e K
    | false => PurO P o e K
  | .bool a, .bool b =>
    match tab t with
    | some i => match i.k with
      | .bool => match op with
        | .eql => K (.bool (a == b))
        | .neq => K (.bool (!(a == b)))
        | _ => False
      | _ => False
    | none => False
  | .slice a _ _, .slice none _ _ =>
    match tab t with
    | some i => match i.k with
      | .slice _ => match op with
        | .eql => K (.bool a.isNone)
        | .neq => K (.bool (!a.isNone))
        | _ => False
      | _ => False
    | none => False
  | .pointer a, .pointer none =>
    match tab t with
    | some i => match i.k with
      | .ptr _ => match op with
        | .eql => K (.bool a.isNone)
        | .neq => K (.bool (!a.isNone))
        | _ => False
      | _ => False
    | none => False
  | _, _ => PurO P o e K
/-- A row of values laid into a list. -/
def setR : List Value → Nat → List Value → List Value
  | l, _, [] => l
  | [], _, _ => []
  | _ :: l, 0, v :: vs => v :: setR l 0 vs
  | x :: l, o + 1, v :: vs => x :: setR l o (v :: vs)
def fillL (place : Nat → Option (Nat × Nat)) (cells : List Value) : List (Nat × Value) → Option (List Value)
  | [] => some cells
  | (i, v) :: rest =>
    match place i with
    | none => none
    | some (off, size) =>
      bif Nat.beq v.cells.toList.length size && Nat.ble (off + size) cells.length then fillL place (setR cells off v.cells.toList) rest else none
def repL : Nat → List Value → List Value
  | 0, _ => []
  | n + 1, z => z ++ repL n z
/-- The offset and the size of a struct's field. -/
def placeOf (tab : Tab) (fs : List (Nat × TypeId)) (i : Nat) : Option (Nat × Nat) :=
  match nth fs i with
  | some (off, t) => match tab t with
    | some j => some (off, j.size)
    | none => none
  | none => none
def placesOf (tab : Tab) : List (Nat × TypeId) → Option (List (Nat × Nat))
  | [] => some []
  | (off, t) :: r => match tab t, placesOf tab r with
    | some j, some l => some ((off, j.size) :: l)
    | _, _ => none
def pureOp : Op → Bool
  | .alloc _ | .box _ _ | .load _ _ | .store _ _ _ | .buildSlice _ _ _ | .makeSlice _ _ _ | .insert _ _ _ _ | .ready _ | .waits _ | .makeMap _ _ | .makeChan _ _
  | .lookup _ _ _ _ | .mapUpdate _ _ _ _ | .mapEntry _ _ _ | .entryStore _ _ _ _ | .range _ _ | .next _ _ | .entry _ | .typeAssert _ _ _ _
  | .go _ | .defer _ | .panic _ | .send _ _ | .recv _ _ _ | .select _ _ => false
  | .call c => match c.callee with
    | .builtin .len | .builtin .cap | .builtin .min | .builtin .max => true
    | _ => false
  | _ => true
def pureT (P : Program) (tab : Tab) (o : Oper) (e : Env) (K : Value → Prop) : Prop :=
  match o.op with
  | .move x | .assign x => K (ev e x)
  | .pick c a b => match ev e c with
    | .bool t => K (bif t then ev e a else ev e b)
    | _ => False
  | .binOp op t x y _ => binT P tab o e op t (ev e x) (ev e y) K
  | .unOp op _ x => match op, ev e x with
    | .not, .bool b => K (.bool (!b))
    | .neg, .int k n => ArO k (0 - n) K
    | _, _ => PurO P o e K
  | .convert src dst x => match tab src, tab dst, ev e x with
    | some _, some i, .int _ n => match i.k with
      | .int k => ArO k n K
      | _ => PurO P o e K
    | _, _, _ => PurO P o e K
  | .makeFunc fn first captured => K (.func fn (first.toList.map (ev e)).toArray (captured.toList.map (ev e)).toArray)
  | .slice t x lo hi mx => match tab t with
    | some i => match i.k with
      | .slice el => match tab el with
        | some j => SlcO j.size (ev e x) (lo.map (ev e)) (hi.map (ev e)) (mx.map (ev e)) K
        | none => False
      | _ => PurO P o e K
    | none => False
  | .fieldAddr s x f => match tab s with
    | some i => match i.k with
      | .struct fs => match placeOf tab fs f with
        | some (off, sz) => match Nat.beq sz 0 with
          | true => False
          | false => match ev e x with
            | .pointer (some ⟨b, o, none⟩) => K (.pointer (some ⟨b, o + off, none⟩))
            | _ => False
        | none => False
      | _ => False
    | none => False
  | .field s x f => match tab s with
    | some i => match i.k with
      | .struct fs => match nth fs f with
        | some (off, ft) => match tab ft with
          | some j => match ev e x with
            | .agg cs => match j.agg with
              | true => K (.agg ((cs.toList.drop off).take j.size).toArray)
              | false => match nth cs.toList off with
                | some v => K v
                | none => False
            | _ => False
          | none => False
        | none => False
      | _ => False
    | none => False
  | .indexAddr t x ix => match tab t with
    | some i => match i.k with
      | .slice el => match tab el with
        | some j => IdxO j.size (ev e x) (ev e ix) K
        | none => False
      | .arr n el => match tab el with
        | some j => IdaO n j.size (ev e x) (ev e ix) K
        | none => False
      | _ => PurO P o e K
    | none => False
  | .extract x i => match ev e x with
    | .tuple vs => match nth vs.toList i with
      | some v => K v
      | none => False
    | _ => False
  | .build t parts => match tab t with
    | some i => match i.k with
      | .struct fs => match placesOf tab fs with
        | some ps => match fillL (nth ps) i.zero.cells.toList (parts.toList.map fun p => (p.1, ev e p.2)) with
          | some cs => K (.agg cs.toArray)
          | none => False
        | none => False
      | .arr _ el => match tab el with
        | some j => match fillL (fun i => some (i * j.size, j.size)) i.zero.cells.toList (parts.toList.map fun p => (p.1, ev e p.2)) with
          | some cs => K (.agg cs.toArray)
          | none => False
        | none => False
      | _ => False
    | none => False
  | .nilCheck x => match ev e x with
    | .pointer (some a) => K (.pointer (some a))
    | _ => PurO P o e K
  | .call c => match c.callee with
    | .builtin .len => match nth c.argTypes.toList 0, nth c.args.toList 0 with
      | some t, some x => match tab t with
        | some i => match i.k, ev e x with
          | .slice _, .slice _ n _ => K (.int .i64 n)
          | _, _ => PurO P o e K
        | none => PurO P o e K
      | _, _ => False
    | .builtin .cap => match nth c.argTypes.toList 0, nth c.args.toList 0 with
      | some t, some x => match tab t with
        | some i => match i.k, ev e x with
          | .slice _, .slice _ _ n => K (.int .i64 n)
          | _, _ => PurO P o e K
        | none => PurO P o e K
      | _, _ => False
    | _ => PurO P o e K
  | _ => PurO P o e K

/-! ### Operations that touch the world -/
inductive LdO (agg : Bool) (n : Nat) (w : World) (a : Value) (K : Value → Prop) : Prop
  | mk (h : ∃ v, LoadsV agg n w a v ∧ K v)
/-- A load in whatever world meets S. -/
inductive LdQ (S : World → Prop) (agg : Bool) (n : Nat) (a : Value) (K : Value → Prop) : Prop
  | mk (h : ∃ v, (∀ w, S w → LoadsV agg n w a v) ∧ K v)
inductive AllocO (w : World) (o : Obj) (K : Nat → World → Prop) : Prop
  | mk (h : ∀ b w', b = w.heap.size → w' = w.alloc o → K b w')
inductive StO (n : Nat) (w : World) (a v : Value) (K : World → Prop) : Prop
  | mk (h : ∃ b o, a = .pointer (some ⟨b, o, none⟩) ∧ v.cells.toList.length = n ∧ oneCells v.cells.toList = true ∧ Writable w b o n ∧ ∀ w', w' = World.put w b o v.cells.toList → K w')
/-- A call of a Go function that returns. -/
def retK (P : Program) (K : Value → World → Prop) (r : Result Next) : Prop := match r with
  | .ok (.enter g as) w' => Calls P g as w' fun x w'' => ∃ v, x = .returned v ∧ K v w''
  | .ok (.value v) w' => K v w'
  | _ => False
inductive Ret (P : Program) (f : FuncId) (args : List Value) (w : World) (K : Value → World → Prop) : Prop
  | mk (h : retK P K ((callFunc f args.toArray).run P w))
/-- 'make([]T, n, c)'. -/
inductive MkO (w : World) (el : TypeId) (j : TI) (l c : Value) (K : Value → World → Prop) : Prop
  | mk (h : ∃ (n m : Nat) (k k' : IntKind), l = .int k n ∧ c = .int k' m ∧ n ≤ m ∧ m < 9223372036854775808 ∧ j.bytes * m ≤ 281474976710656 ∧
    AllocO w (.cells (repL m j.zero.cells.toList).toArray el) fun b w' => K (.slice (some ⟨b, 0, none⟩) n m) w')
inductive InvO (P : Program) (recv : Value) (name : String) (args : List Value) (w : World) (K : Value → World → Prop) : Prop
  | mk (h : retK P K ((callMethod recv name args.toArray).run P w))
def byB (b : Bool) (p q : Prop) : Prop := match b with
  | true => p
  | false => q
def opT (P : Program) (tab : Tab) (o : Oper) (e : Env) (w : World) (K : Value → World → Prop) : Prop :=
  match o.op with
  | .alloc t => match tab t with
    | some i => AllocO w (.cells i.zero.cells t) fun b w' => K (.pointer (some ⟨b, 0, none⟩)) w'
    | none => False
  | .box t x => AllocO w (.cells (ev e x).cells t) fun b w' => K (.pointer (some ⟨b, 0, none⟩)) w'
  | .load t x => match tab t with
    | some i => LdO i.agg i.size w (ev e x) fun v => K v w
    | none => False
  | .store t a x => match tab t with
    | some i => StO i.size w (ev e a) (ev e x) fun w' => K undef w'
    | none => False
  | .buildSlice t len parts => match tab t with
    | some i => match i.k with
      | .slice el => match tab el with
        | some j => match Nat.ble (len * j.size) 16777216 with
          | true => match fillL (fun i => some (i * j.size, j.size)) (repL len j.zero.cells.toList) (parts.toList.map fun p => (p.1, ev e p.2)) with
            | some cs => AllocO w (.cells cs.toArray el) fun b w' => K (.slice (some ⟨b, 0, none⟩) len len) w'
            | none => False
          | false => False
        | none => False
      | _ => False
    | none => False
  | .makeSlice t l c => match tab t with
    | some i => match i.k with
      | .slice el => match tab el with
        | some j => MkO w el j (ev e l) (ev e c) K
        | none => False
      | _ => False
    | none => False
  | .call c => match c.callee with
    | .value f => match ev e f with
      | .func (.func g) first captured => Ret P g (first.toList ++ c.args.toList.map (ev e) ++ captured.toList) w K
      | _ => False
    | .invoke recv name => InvO P (ev e recv) name (c.args.toList.map (ev e)) w K
    | .builtin _ => byB (pureOp o.op) (pureT P tab o e fun v => K v w) (RunO P o e w K)
  | _ => byB (pureOp o.op) (pureT P tab o e fun v => K v w) (RunO P o e w K)
/-- A quiet operation in a region that draws: it yields in whatever world meets S, and turns nothing. -/
def opQ (P : Program) (tab : Tab) (S : World → Prop) (o : Oper) (e : Env) (K : Value → Prop) : Prop :=
  match o.op with
  | .load t x => match tab t with
    | some i => LdQ S i.agg i.size (ev e x) K
    | none => False
  | _ => byB (pureOp o.op) (pureT P tab o e K) False

/-! ### Regions and code -/
/-- A test: the case is the prover's to part. -/
inductive CondT (t : Bool) (f : Bool → Prop) : Prop
  | mk (h : f t)
abbrev Post := Exit → Env → List Deferred → World → Prop
/-- The tests that are decided: slots and what stands in them. -/
abbrev Kg := List (Nat × Bool)
def kgAt : Kg → Nat → Option Bool
  | [], _ => none
  | (k, u) :: r, d => bif Nat.beq k d then some u else kgAt r d
def kgRm (o : Option Nat) (kg : Kg) : Kg := match kg with
  | [] => []
  | (k, u) :: r => match o with
    | some d => bif Nat.beq k d then kgRm o r else (k, u) :: kgRm o r
    | none => (k, u) :: r
def guardT (ops : List Oper) (kg : Kg) (g : Option (Nat × Bool)) (e : Env) (go skip : Kg → Env → Prop) : Prop :=
  match g with
  | none => go kg e
  | some (j, want) => match nth ops j with
    | some oj => match oj.dst with
      | some d => match kgAt kg d with
        | some u => match u, want with
          | true, true => go kg e
          | false, false => go kg e
          | true, false => skip kg e
          | false, true => skip kg e
        | none => match e d with
          | .bool t => CondT t fun u => match u, want with
            | true, true => go ((d, true) :: kg) (upd e d (.bool true))
            | false, false => go ((d, false) :: kg) (upd e d (.bool false))
            | true, false => skip ((d, true) :: kg) (upd e d (.bool true))
            | false, true => skip ((d, false) :: kg) (upd e d (.bool false))
          | .tuple _ => skip kg e
          | _ => False
      | none => False
    | none => False
/-- One operation ahead of what follows ('ih'). -/
def stepL (P : Program) (tab : Tab) (ops : List Oper) (o : Oper) (ih : Kg → (Env → List Deferred → World → Prop) → Env → List Deferred → World → Prop) (kg : Kg) (K : Env → List Deferred → World → Prop) (e : Env) (ds : List Deferred) (w : World) : Prop :=
  guardT ops kg o.guard e
    (fun kg e => match o.op with
      | .defer c => match c.callee with
        | .value f => match ev e f with
          | .func fn first captured => ih (kgRm o.dst kg) K (upo e o.dst undef) ({ target := .fn fn captured, args := (first.toList ++ c.args.toList.map (ev e)).toArray } :: ds) w
          | _ => False
        | _ => False
      | _ => opT P tab o e w fun v w' => ih (kgRm o.dst kg) K (upo e o.dst v) ds w')
    (fun kg e => ih (kgRm o.dst kg) K (upo e o.dst undef) ds w)
noncomputable def TL (P : Program) (tab : Tab) (ops l : List Oper) : Kg → (Env → List Deferred → World → Prop) → Env → List Deferred → World → Prop :=
  List.rec (motive := fun _ => Kg → (Env → List Deferred → World → Prop) → Env → List Deferred → World → Prop) (fun _ K e ds w => K e ds w) (fun o _ ih => stepL P tab ops o ih) l
theorem TL_nil {P : Program} {tab : Tab} {ops : List Oper} {kg : Kg} {K : Env → List Deferred → World → Prop} {e : Env} {ds : List Deferred} {w : World} : TL P tab ops [] kg K e ds w = K e ds w := rfl
theorem TL_cons {P : Program} {tab : Tab} {ops : List Oper} {o : Oper} {rest : List Oper} {kg : Kg} {K : Env → List Deferred → World → Prop} {e : Env} {ds : List Deferred} {w : World} :
    TL P tab ops (o :: rest) kg K e ds w = stepL P tab ops o (TL P tab ops rest) kg K e ds w := rfl
inductive Plan where
  | nil
  | q (i : Nat) (p : Plan)
  | l (i : Nat) (p : Plan)
  | ll (i : Nat) (p : Plan) (j : Nat) (p' : Plan)
  | lll (i : Nat) (p : Plan) (j : Nat) (p' : Plan) (k : Nat) (p'' : Plan)
/-- In short: a number below 1000 is quiet, from 1000 on loud. -/
def pl : List Nat → Plan → Plan
  | [], p => p
  | i :: r, p => match Nat.ble 1000 i with
    | true => .l (i - 1000) (pl r p)
    | false => .q i (pl r p)
abbrev Cont := Kg → (Env → List Deferred → World → Prop) → Env → List Deferred → World → Prop
def byD (b : Bool) (x y : Prop) : Prop := match b with
  | true => x
  | false => y
theorem byD_false {x y : Prop} (h : byD false x y) : y := h
/-- Is what is left all loud, and none of it ahead of a quiet operation? -/
def tailD (D : Nat → Bool) : Plan → Bool
  | .nil => true
  | .q _ _ => false
  | .l i p => D i && tailD D p
  | .ll i p j p' => D i && D j && tailD D p && tailD D p'
  | .lll i p j p' k p'' => D i && D j && D k && tailD D p && tailD D p' && tailD D p''
def stepQ (P : Program) (tab : Tab) (ops : List Oper) (S : World → Prop) (D : Nat → Bool) (i : Nat) (ih : Cont) (kg : Kg) (K : Env → List Deferred → World → Prop) (e : Env) (ds : List Deferred) (w : World) : Prop :=
  match nth ops i with
  | some o => byD (D i) False (guardT ops kg o.guard e
    (fun kg e => opQ P tab S o e fun v => ih (kgRm o.dst kg) K (upo e o.dst v) ds w)
    (fun kg e => ih (kgRm o.dst kg) K (upo e o.dst undef) ds w))
  | none => False
def stepD (P : Program) (tab : Tab) (ops : List Oper) (S : World → Prop) (D : Nat → Bool) (i : Nat) (tl : Bool) (ih : Cont) (kg : Kg) (K : Env → List Deferred → World → Prop) (e : Env) (ds : List Deferred) (w : World) : Prop :=
  match nth ops i with
  | some o => guardT ops kg o.guard e
    (fun kg e => opT P tab o e w fun v w' => byD (D i) (tl = true) (S w') ∧ ih (kgRm o.dst kg) K (upo e o.dst v) ds w')
    (fun kg e => byD (D i) (tl = true ∧ ih (kgRm o.dst kg) K (upo e o.dst undef) ds w) (ih (kgRm o.dst kg) K (upo e o.dst undef) ds w))
  | none => False
noncomputable def TD (P : Program) (tab : Tab) (ops : List Oper) (S : World → Prop) (D : Nat → Bool) (p : Plan) : Cont :=
  Plan.rec (motive := fun _ => Cont) (fun _ K e ds w => K e ds w) (fun i _ ih => stepQ P tab ops S D i ih) (fun i p ih => stepD P tab ops S D i (tailD D p) ih)
    (fun i p j p' ih ih' kg K e ds w => stepD P tab ops S D i (tailD D p) ih kg K e ds w ∧ stepD P tab ops S D j (tailD D p') ih' kg K e ds w)
    (fun i p j p' k p'' ih ih' ih'' kg K e ds w => stepD P tab ops S D i (tailD D p) ih kg K e ds w ∧ stepD P tab ops S D j (tailD D p') ih' kg K e ds w ∧ stepD P tab ops S D k (tailD D p'') ih'' kg K e ds w) p
section
variable {P : Program} {tab : Tab} {ops : List Oper} {S : World → Prop} {D : Nat → Bool} {kg : Kg} {K : Env → List Deferred → World → Prop} {e : Env} {ds : List Deferred} {w : World} {i j k : Nat} {p p' p'' : Plan}
theorem TD_nil : TD P tab ops S D .nil kg K e ds w = K e ds w := rfl
theorem TD_q : TD P tab ops S D (.q i p) kg K e ds w = stepQ P tab ops S D i (TD P tab ops S D p) kg K e ds w := rfl
theorem TD_l : TD P tab ops S D (.l i p) kg K e ds w = stepD P tab ops S D i (tailD D p) (TD P tab ops S D p) kg K e ds w := rfl
theorem TD_ll : TD P tab ops S D (.ll i p j p') kg K e ds w = (stepD P tab ops S D i (tailD D p) (TD P tab ops S D p) kg K e ds w ∧ stepD P tab ops S D j (tailD D p') (TD P tab ops S D p') kg K e ds w) := rfl
theorem TD_lll : TD P tab ops S D (.lll i p j p' k p'') kg K e ds w = (stepD P tab ops S D i (tailD D p) (TD P tab ops S D p) kg K e ds w ∧ stepD P tab ops S D j (tailD D p') (TD P tab ops S D p') kg K e ds w ∧ stepD P tab ops S D k (tailD D p'') (TD P tab ops S D p'') kg K e ds w) := rfl
end
def notLoad : Op → Bool
  | .load _ _ => false
  | _ => true
/-- The operations of D wait for all the others that read. -/
def closeOk (ops : Array Oper) (D : Nat → Bool) : Bool :=
  (List.range ops.size).all fun j => !D j || ((List.range ops.size).all fun i => D i || (match ops[i]?, ops[j]? with
    | some oi, some oj => notLoad oi.op || oj.after.any fun e => Region.binds .any e && e.on == i
    | _, _ => false))
def planOk (ops : Array Oper) : Plan → Array Bool → Bool
  | .nil, li => (Region.ready .any ops li).isEmpty
  | .q i p, li => (Region.ready .any ops li).contains i && Region.free .any ops li i && planOk ops p (li.setIfInBounds i true)
  | .l i p, li => Region.ready .any ops li == [i] && planOk ops p (li.setIfInBounds i true)
  | .ll i p j p', li => Region.ready .any ops li == [i, j] && planOk ops p (li.setIfInBounds i true) && planOk ops p' (li.setIfInBounds j true)
  | .lll i p j p' k p'', li => Region.ready .any ops li == [i, j, k] && planOk ops p (li.setIfInBounds i true) && planOk ops p' (li.setIfInBounds j true) && planOk ops p'' (li.setIfInBounds k true)
def planSize : Plan → Nat
  | .nil => 0
  | .q _ p | .l _ p => planSize p + 1
  | .ll _ p _ p' => max (planSize p) (planSize p') + 1
  | .lll _ p _ p' _ p'' => max (planSize p) (max (planSize p') (planSize p'')) + 1
def planAll (ops : Array Oper) (p : Plan) : Bool := Region.noSelect ops && Nat.ble (planSize p) ops.size && planOk ops p (Array.replicate ops.size false)
/-- A region that draws its order. -/
inductive DrawO (P : Program) (tab : Tab) (ops : Array Oper) (K : Env → List Deferred → World → Prop) (e : Env) (ds : List Deferred) (w : World) : Prop
  | mk (h : ∃ (S : World → Prop) (D : Nat → Bool) (p : Plan), closeOk ops D = true ∧ planAll ops p = true ∧ S w.drew ∧ TD P tab ops.toList S D p [] K e ds w.drew)
inductive LoopO (P : Program) (tab : Tab) (c0 : Code) (body : Post → Env → List Deferred → World → Prop) (Q : Post) (e : Env) (ds : List Deferred) (w : World) : Prop
  | mk (h : ∃ (I : Env → List Deferred → World → Prop) (μ : Env → World → Nat), I e ds w ∧
    ∀ e ds w, I e ds w → body (fun x e' ds' w' => match x with
      | .normal => I e' ds' w' ∧ μ e' w' < μ e w
      | x => Q x e' ds' w') e ds w)
def seqQ (K : Env → List Deferred → World → Prop) (Q : Post) : Post := fun x => match x with
  | .normal => K
  | x => Q x
def blockQ (id : Nat) (Q : Post) : Post := fun x => match x with
  | .exit id' => match Nat.beq id' id with
    | true => Q .normal
    | false => Q (.exit id')
  | x => Q x
abbrev TCT := Post → Env → List Deferred → World → Prop
def regT (P : Program) (tab : Tab) (ops : Array Oper) (draw : Bool) : TCT := fun Q e ds w => match draw with
  | false => TL P tab ops.toList ops.toList [] (Q .normal) e ds w
  | true => DrawO P tab ops (Q .normal) e ds w
def condT (c : Operand) (a b : TCT) : TCT := fun Q e ds w => match ev e c with
  | .bool t => CondT t fun u => match u with
    | true => a Q e ds w
    | false => b Q e ds w
  | _ => False
/-- The given post of an ending, over frames as functions. -/
def lift (n : Nat) (Q : Post) (x : Exit) (a : Act) (w : World) : Prop :=
  match x with
  | .panic _ | .outgrown | .goto _ => False
  | x => a.tmps.size = n ∧ Q x (envOf a) a.defers w
/-- The slots that a code writes lie below 'n'. -/
def dstOk (n : Nat) (o : Oper) : Bool := match o.dst with
  | some d => Nat.blt d n
  | none => true
def codeOk (n : Nat) : Code → Bool
  | .region _ ops _ => ops.toList.all (dstOk n)
  | .seq a b => codeOk n a && codeOk n b
  | .cond _ a b => codeOk n a && codeOk n b
  | .block _ c => codeOk n c
  | .loop c => codeOk n c
  | .scope c => codeOk n c
  | .rangeFunc _ _ a c => codeOk n a && codeOk n c
  | _ => true
/-- A range over a function: what it leaves, said of the machine itself. -/
inductive RangeO (P : Program) (g : Operand) (ps : Array Tmp) (assign body : Code) (Q : Post) (e : Env) (ds : List Deferred) (w : World) : Prop
  | mk (h : ∀ (n : Nat) (a : Act), codeOk n assign = true → codeOk n body = true → a.tmps.size = n → envOf a = e → a.defers = ds → (Code.rangeFunc g ps assign body).wp P (lift n Q) a w)
noncomputable def TC (P : Program) (tab : Tab) (c : Code) : TCT :=
  Code.rec (motive := fun _ => TCT)
    (fun Q e ds w => Q .normal e ds w)
    (fun _ ops draw => regT P tab ops draw)
    (fun _ _ a b Q e ds w => a (seqQ (b Q) Q) e ds w)
    (fun c _ _ a b => condT c a b)
    (fun id _ c Q e ds w => c (blockQ id Q) e ds w)
    (fun c0 c Q e ds w => LoopO P tab c0 c Q e ds w)
    (fun g ps a c _ _ Q e ds w => RangeO P g ps a c Q e ds w)
    (fun id Q e ds w => Q (.exit id) e ds w)
    (fun _ c Q e ds w => c Q e ds w)
    (fun _ Q e ds w => Q .normal e ds w)
    (fun _ _ _ _ _ => False)
    (fun Q e ds w => Q .ret e ds w)
    (fun _ _ _ _ _ => False) c
section
variable {P : Program} {tab : Tab} {Q : Post} {e : Env} {ds : List Deferred} {w : World}
theorem TC_skip : TC P tab .skip Q e ds w = Q .normal e ds w := rfl
theorem TC_reg {i : Nat} {ops : Array Oper} : TC P tab (.region i ops false) Q e ds w = TL P tab ops.toList ops.toList [] (Q .normal) e ds w := rfl
theorem TC_draw {i : Nat} {ops : Array Oper} : TC P tab (.region i ops true) Q e ds w = DrawO P tab ops (Q .normal) e ds w := rfl
theorem TC_seq {a b : Code} : TC P tab (.seq a b) Q e ds w = TC P tab a (seqQ (TC P tab b Q) Q) e ds w := rfl
theorem TC_cond {c : Operand} {a b : Code} : TC P tab (.cond c a b) Q e ds w = condT c (TC P tab a) (TC P tab b) Q e ds w := rfl
theorem TC_block {id : Nat} {c : Code} : TC P tab (.block id c) Q e ds w = TC P tab c (blockQ id Q) e ds w := rfl
theorem TC_exit {id : Nat} : TC P tab (.exit id) Q e ds w = Q (.exit id) e ds w := rfl
theorem TC_ret : TC P tab .ret Q e ds w = Q .ret e ds w := rfl
theorem TC_scope {c : Code} : TC P tab (.scope c) Q e ds w = TC P tab c Q e ds w := rfl
theorem TC_label {l : Nat} : TC P tab (.label l) Q e ds w = Q .normal e ds w := rfl
theorem TC_loop {c : Code} : TC P tab (.loop c) Q e ds w = LoopO P tab c (TC P tab c) Q e ds w := rfl
end
end RL
