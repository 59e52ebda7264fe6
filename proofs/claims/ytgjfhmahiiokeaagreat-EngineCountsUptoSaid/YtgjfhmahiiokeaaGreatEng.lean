import Derived.Tactics
import Derived.OrdersHeld
import Derived.ScopeJumps
set_option linter.unusedVariables false
set_option linter.unusedSimpArgs false
namespace Go.Sx
open Go

/-! ### Environments -/
abbrev Env := Nat → Option Value

def Env.ev (ρ : Env) : Operand → Option Value
  | .tmp t => ρ t
  | .const v => some v
  | .global g => some (.pointer (some ⟨g, 0, none⟩))
  | .func f => some (.func (.func f) #[] #[])

def Env.set (ρ : Env) (d : Nat) (v : Option Value) : Env := fun j => bif Nat.beq j d then v else ρ j

def Env.put (ρ : Env) (d : Option Nat) (v : Option Value) : Env :=
  match d with
  | none => ρ
  | some d => ρ.set d v

def Env.D (ρ : Env) (x : Operand) : Value := (ρ.ev x).getD undef

def known (ρ : Env) : List Operand → Bool
  | [] => true
  | x :: xs => match ρ.ev x with
    | some _ => known ρ xs
    | none => false

/-- What the environment knows is what the frame holds. -/
structure Agree (n : Nat) (ρ : Env) (a : Act) : Prop where
  size : a.tmps.size = n
  nodef : a.defers = []
  val : ∀ j v, ρ j = some v → a.tmps[j]? = some v

/-! ### The words of a printed program -/
/-- Run an operation that leaves a value. -/
def RUN (P : Program) (s : Sem Value) (w : World) (K : Value → World → Prop) : Prop :=
  match s.run P w with
  | .ok v w' => K v w'
  | _ => False

/-- An operation that looks at no memory. -/
def PURE (P : Program) (s : Sem Value) (K : Value → Prop) : Prop :=
  ∃ v, (∀ w, s.run P w = .ok v w) ∧ K v

def RUNU (P : Program) (s : Sem Unit) (w : World) (K : World → Prop) : Prop :=
  match s.run P w with
  | .ok _ w' => K w'
  | _ => False

/-- A quiet operation in a region that draws: it leaves the same value in each world that meets S. -/
def READ (P : Program) (S : World → Prop) (s : Sem Value) (w : World) (K : Value → Prop) : Prop :=
  ∃ v, s.run P w = .ok v w ∧ (∀ w', S w' → s.run P w' = .ok v w') ∧ K v

def COND (v : Value) (X Y : Prop) : Prop :=
  (v = .bool true ∧ X) ∨ (v = .bool false ∧ Y)

def callable (P : Program) (f : FuncId) : Bool :=
  match P.funcs[f]? with
  | some fn => !(fn.name == "runtime.NumGoroutine") && fn.body.isSome
  | none => false

def CALL (P : Program) (f : FuncId) (args : List Value) (w : World) (E : List PanicEntry → World → Prop) (K : Value → World → Prop) : Prop :=
  callable P f = true ∧ Calls P f args.toArray w fun
    | .returned v, w' => K v w'
    | .panicked c, w' => E c w'
    | .outgrown, _ => False

def CALLV (P : Program) (v : Value) (args : List Value) (w : World) (E : List PanicEntry → World → Prop) (K : Value → World → Prop) : Prop :=
  ∃ f first captured, v = .func (.func f) first captured ∧ CALL P f (first.toList ++ args ++ captured.toList) w E K

/-- A method of an interface's value. -/
def CALLI (P : Program) (v : Value) (m : String) (args : List Value) (w : World) (E : List PanicEntry → World → Prop) (K : Value → World → Prop) : Prop :=
  ∃ t x f rcv, v = .iface t x ∧ (method (P.types.size + Made.depth) t x m).run P w = .ok (f, rcv) w ∧ CALL P f (rcv :: args) w E K

def PANIC (v : Value) (w : World) (E : List PanicEntry → World → Prop) : Prop :=
  match v with
  | .iface t x => E [{ v := .iface t x, recovered := false }] w
  | _ => False

def LOOP0 (B : World → (World → Prop) → Prop) (w : World) : Prop :=
  ∃ (I : World → Prop) (μ : World → Nat), I w ∧ ∀ w, I w → B w (fun w' => I w' ∧ μ w' < μ w)
def LOOP1 (B : Value → World → (Value → World → Prop) → Prop) (x : Value) (w : World) : Prop :=
  ∃ (I : Value → World → Prop) (μ : Value → World → Nat), I x w ∧ ∀ x w, I x w → B x w (fun x' w' => I x' w' ∧ μ x' w' < μ x w)
def LOOP2 (B : Value → Value → World → (Value → Value → World → Prop) → Prop) (x y : Value) (w : World) : Prop :=
  ∃ (I : Value → Value → World → Prop) (μ : Value → Value → World → Nat), I x y w ∧ ∀ x y w, I x y w → B x y w (fun x' y' w' => I x' y' w' ∧ μ x' y' w' < μ x y w)
def LOOP3 (B : Value → Value → Value → World → (Value → Value → Value → World → Prop) → Prop) (x y z : Value) (w : World) : Prop :=
  ∃ (I : Value → Value → Value → World → Prop) (μ : Value → Value → Value → World → Nat), I x y z w ∧ ∀ x y z w, I x y z w → B x y z w (fun x' y' z' w' => I x' y' z' w' ∧ μ x' y' z' w' < μ x y z w)
def LOOP4 (B : Value → Value → Value → Value → World → (Value → Value → Value → Value → World → Prop) → Prop) (x y z u : Value) (w : World) : Prop :=
  ∃ (I : Value → Value → Value → Value → World → Prop) (μ : Value → Value → Value → Value → World → Nat), I x y z u w ∧ ∀ x y z u w, I x y z u w → B x y z u w (fun x' y' z' u' w' => I x' y' z' u' w' ∧ μ x' y' z' u' w' < μ x y z u w)
def LOOP5 (B : Value → Value → Value → Value → Value → World → (Value → Value → Value → Value → Value → World → Prop) → Prop) (x y z u t : Value) (w : World) : Prop :=
  ∃ (I : Value → Value → Value → Value → Value → World → Prop) (μ : Value → Value → Value → Value → Value → World → Nat), I x y z u t w ∧ ∀ x y z u t w, I x y z u t w → B x y z u t w (fun x' y' z' u' t' w' => I x' y' z' u' t' w' ∧ μ x' y' z' u' t' w' < μ x y z u t w)

def JOIN0 (A : (World → Prop) → Prop) (B : World → Prop) : Prop := ∃ J : World → Prop, A J ∧ ∀ w, J w → B w
def JOIN1 (A : (Value → World → Prop) → Prop) (B : Value → World → Prop) : Prop := ∃ J : Value → World → Prop, A J ∧ ∀ x w, J x w → B x w
def JOIN2 (A : (Value → Value → World → Prop) → Prop) (B : Value → Value → World → Prop) : Prop := ∃ J : Value → Value → World → Prop, A J ∧ ∀ x y w, J x y w → B x y w
def JOIN3 (A : (Value → Value → Value → World → Prop) → Prop) (B : Value → Value → Value → World → Prop) : Prop := ∃ J : Value → Value → Value → World → Prop, A J ∧ ∀ x y z w, J x y z w → B x y z w

def LOADRES (P : Program) (t : TypeId) (v : Value) (w : World) (K : Value → Prop) : Prop :=
  ∃ x, (do loadVar t (← asAddr v) : Sem Value).run P w = .ok x w ∧ K x

/-! ### Operations -/
def NILS (x : Value) : Sem Value :=
  match x with
  | .pointer (some a) => pure (.pointer (some a))
  | .func (.func f) first captured => pure (.func (.func f) first captured)
  | .iface t v => pure (.iface t v)
  | _ => stuck ""
def PICKS (c a b : Value) : Sem Value := do pure (if ← asBool c then a else b)
def BINS (op : BinOp) (t : TypeId) (x y : Operand) (a b : Value) : Sem Value := do eqGuard op t x y a b; binOp op t a b

/-- An operation that leaves a value, its operands laid in. -/
def opV (ρ : Env) (o : Oper) : Option (Sem Value) :=
  match o.op with
  | .pick c a b => some (PICKS (ρ.D c) (ρ.D a) (ρ.D b))
  | .alloc e => some (Instr.alloc e true (.tuple #[]))
  | .box e x => some (Instr.box e (ρ.D x))
  | .build t ps => some (Instr.build t (ps.toList.map fun p => (p.1, ρ.D p.2)).toArray)
  | .buildSlice t n ps => some (Instr.buildSlice t n (ps.toList.map fun p => (p.1, ρ.D p.2)).toArray)
  | .load t a => some (Instr.loadAt t (ρ.D a))
  | .nilCheck x => some (NILS (ρ.D x))
  | .binOp op t x y _ => some (BINS op t x y (ρ.D x) (ρ.D y))
  | .unOp op _ x => some (Op.unary op (ρ.D x))
  | .convert s d x => some (convert s d (ρ.D x))
  | .makeInterface t x => some (Instr.makeInterface t (ρ.D x))
  | .makeFunc fn first captured => some (Instr.makeFunc fn (first.toList.map ρ.D).toArray (captured.toList.map ρ.D).toArray)
  | .makeMap t none => some (Instr.makeMap t none)
  | .makeSlice t l c => some (Instr.makeSlice t (ρ.D l) (ρ.D c))
  | .slice t x lo hi mx => some (Instr.sliceAt t (ρ.D x) (lo.map ρ.D) (hi.map ρ.D) (mx.map ρ.D))
  | .fieldAddr s x f => some (Instr.fieldAt s (ρ.D x) f)
  | .field t x f => some (Instr.field t (ρ.D x) f)
  | .indexAddr t x i => some (Instr.indexAt t (ρ.D x) (ρ.D i))
  | .index t x i => some (Instr.index t (ρ.D x) (ρ.D i))
  | .lookup t x i ok => some (Instr.lookup t (ρ.D x) (ρ.D i) ok)
  | .extract t i => some (Instr.extract (ρ.D t) i)
  | .typeAssert x t u ok => some (Instr.typeAssert (ρ.D x) t u ok)
  | .range t x => some (Instr.range t (ρ.D x))
  | .next it s => some (Instr.next (ρ.D it) s o.type)
  | .call { callee := .builtin b, args, argTypes } =>
    match b with
    | .append => some (Builtin.append_ argTypes o.type (args.toList.map ρ.D).toArray)
    | .cap => some (Builtin.cap_ argTypes o.type (args.toList.map ρ.D).toArray)
    | .copy => some (Builtin.copy_ argTypes o.type (args.toList.map ρ.D).toArray)
    | .len => some (Builtin.len_ argTypes o.type (args.toList.map ρ.D).toArray)
    | .max => some (Builtin.max_ argTypes o.type (args.toList.map ρ.D).toArray)
    | .min => some (Builtin.min_ argTypes o.type (args.toList.map ρ.D).toArray)
    | _ => none
  | _ => none

/-- An operation that leaves none. -/
def opU (ρ : Env) (o : Oper) : Option (Sem Unit) :=
  match o.op with
  | .store t a x => some (Instr.storeAt t (ρ.D a) (ρ.D x))
  | .mapUpdate t m k x => some (Instr.mapUpdate t (ρ.D m) (ρ.D k) (ρ.D x))
  | .insert t m k x => some (Instr.mapUpdate t (ρ.D m) (ρ.D k) (ρ.D x))
  | _ => none

/-- What an operation asks of memory: 0: nothing; 1: it reads; 2: it may write or make some. -/
def asks (P : Program) (o : Oper) : Nat :=
  match o.op with
  | .move _ | .assign _ | .pick .. | .build .. | .nilCheck _ | .binOp .. | .unOp .. | .makeInterface .. | .makeFunc ..
  | .slice .. | .fieldAddr .. | .field .. | .indexAddr .. | .index .. | .extract .. | .typeAssert .. => 0
  | .convert _ d _ => match P.underlying d with
    | some (.int _) => 0
    | some .string => 1
    | _ => 2
  | .load .. | .lookup .. => 1
  | .call { callee := .builtin b, .. } => match b with | .len | .cap | .max | .min => 0 | _ => 2
  | _ => 2

def waits (ops : Array Oper) (j i : Nat) : Bool :=
  match ops[j]? with
  | some o => o.after.any fun e => Region.binds .any e && e.on == i
  | none => false

def depsOf (ops : Array Oper) (j : Nat) : List Nat :=
  match ops[j]? with
  | some o => o.after.toList.filterMap fun e => bif Region.binds .any e then some e.on else none
  | none => []

/-- What must come up ahead of some, and they. -/
def clo (ops : Array Oper) : Nat → List Nat → List Nat
  | 0, s => s
  | f + 1, s => clo ops f ((s ++ s.flatMap (depsOf ops)).eraseDups)

/-- An operation behind which nothing is read any more, in whatever order. -/
def tailOf (P : Program) (ops : Array Oper) : Nat :=
  match (List.range ops.size).find? (fun e => (match ops[e]? with | some o => asks P o == 2 | none => false) &&
    (List.range ops.size).all fun r => (match ops[r]? with | some o => !(asks P o == 1) | none => true) || (clo ops 8 [e]).elem r) with
  | some e => e
  | none => ops.size

def dstOk (n : Nat) : Option Nat → Bool
  | none => true
  | some d => Nat.ble (d + 1) n

/-- One operation. -/
def stepX (P : Program) (n : Nat) (o : Oper) (ρ : Env) (E : List PanicEntry → World → Prop) (w : World) (K : Env → World → Prop) : Prop :=
  match dstOk n o.dst with
  | false => False
  | true =>
  match o.op with
  | .move x => K (ρ.put o.dst (ρ.ev x)) w
  | .assign x => K (ρ.put o.dst (ρ.ev x)) w
  | .call { callee := .value (.func f), args, argTypes := _ } =>
    match known ρ args.toList with
    | false => False
    | true => CALL P f (args.toList.map ρ.D) w E fun v w => K (ρ.put o.dst (some v)) w
  | .call { callee := .value x, args, argTypes := _ } =>
    match known ρ (x :: args.toList) with
    | false => False
    | true => CALLV P (ρ.D x) (args.toList.map ρ.D) w E fun v w => K (ρ.put o.dst (some v)) w
  | .call { callee := .invoke x m, args, argTypes := _ } =>
    match known ρ (x :: args.toList) with
    | false => False
    | true => CALLI P (ρ.D x) m (args.toList.map ρ.D) w E fun v w => K (ρ.put o.dst (some v)) w
  | .panic x =>
    match known ρ [x] with
    | false => False
    | true => PANIC (ρ.D x) w E
  | _ =>
    match known ρ o.op.operands.toList with
    | false => False
    | true =>
      match opV ρ o with
      | some s => match asks P o with
        | 0 => PURE P s fun v => K (ρ.put o.dst (some v)) w
        | _ => RUN P s w fun v w => K (ρ.put o.dst (some v)) w
      | none => match opU ρ o with
        | some s => RUNU P s w fun w => K (ρ.put o.dst (some undef)) w
        | none => False

/-- A quiet operation in a region that draws. -/
def stepQ (P : Program) (n : Nat) (o : Oper) (ρ : Env) (S : World → Prop) (w : World) (K : Env → Prop) : Prop :=
  match dstOk n o.dst with
  | false => False
  | true =>
  match o.op with
  | .move x => K (ρ.put o.dst (ρ.ev x))
  | .assign x => K (ρ.put o.dst (ρ.ev x))
  | _ =>
    match known ρ o.op.operands.toList with
    | false => False
    | true =>
      match opV ρ o with
      | some s => match asks P o with
        | 0 => PURE P s fun v => K (ρ.put o.dst (some v))
        | 1 => READ P S s w fun v => K (ρ.put o.dst (some v))
        | _ => False
      | none => False

/-- A guarded operation: 'go true' where it is wanted. -/
def guardX (ops : Array Oper) (o : Oper) (dec : List Nat) (ρ : Env) (go : Bool → List Nat → Env → Prop) : Prop :=
  match o.guard with
  | none => go true dec ρ
  | some (j, want) =>
    match (ops[j]?).bind (·.dst) with
    | none => False
    | some t =>
      match dec.elem j with
      | true => match ρ t with
        | some (.bool b) => go (b == want) dec ρ
        | some (.tuple _) => go false dec ρ
        | _ => False
      | false => match ρ t with
        | some v => COND v (go want (j :: dec) (ρ.set t (some (.bool true)))) (go (!want) (j :: dec) (ρ.set t (some (.bool false))))
        | none => False

/-- Is a slot's bool known: was it asked for by a guard, or taken from one that was? -/
def decd (ops : Array Oper) : List Nat → Nat → Bool
  | [], _ => false
  | j :: l, t => match ops[j]? with
    | some o => match o.dst with
      | some d => bif Nat.beq d t then true else decd ops l t
      | none => decd ops l t
    | none => decd ops l t
/-- What a pick takes, where that is known. -/
def pickX (ops : Array Oper) (dec : List Nat) (ρ : Env) (o : Oper) : Option Operand :=
  match o.op with
  | .pick (.tmp t) a b => match decd ops dec t with
    | true => match ρ t with
      | some (.bool true) => some a
      | some (.bool false) => some b
      | _ => none
    | false => none
  | _ => none
def easy (ops : Array Oper) (dec : List Nat) (ρ : Env) (o : Oper) : Oper :=
  match pickX ops dec ρ o with
  | some x => { o with op := .move x }
  | none => o
def litX (ops : Array Oper) (dec : List Nat) : Operand → Bool
  | .const (.bool _) => true
  | .tmp t => decd ops dec t
  | _ => false
def moved (o : Oper) : Option Operand :=
  match o.op with
  | .move x => some x
  | .assign x => some x
  | _ => none
def eased (ops : Array Oper) (dec : List Nat) (ρ : Env) (o : Oper) (i : Nat) : List Nat :=
  match moved (easy ops dec ρ o) with
  | some x => match litX ops dec x with
    | true => i :: dec
    | false => dec
  | none => dec

/-- A region in the text's order. -/
def compR (P : Program) (n : Nat) (ops : Array Oper) (E : List PanicEntry → World → Prop) (Q : Env → World → Prop) : Nat → List Oper → List Nat → Env → World → Prop
  | _, [], _, ρ, w => Q ρ w
  | i, o :: l, dec, ρ, w => guardX ops o dec ρ fun go dec ρ =>
    match go with
    | true => stepX P n (easy ops dec ρ o) ρ E w fun ρ' w => compR P n ops E Q (i + 1) l (eased ops dec ρ o i) ρ' w
    | false => match dstOk n o.dst with
      | true => compR P n ops E Q (i + 1) l (i :: dec) (ρ.put o.dst (some undef)) w
      | false => False

def allP (i : Nat) (l : List Nat) (g : Nat → Prop) : Prop :=
  match l with
  | [] => g i
  | j :: l => g i ∧ allP j l g

/-- What is known of the worlds to come, from here on: no less than before. -/
def KEEPS (S : World → Prop) (w : World) (B : (World → Prop) → Prop) : Prop := ∃ S' : World → Prop, (∀ w, S' w → S w) ∧ S' w ∧ B S'
theorem KEEP {S : World → Prop} {w : World} {B : (World → Prop) → Prop} (h : S w) (k : B S) : KEEPS S w B := ⟨S, fun _ h => h, h, k⟩

/-- S is to be shown anew, unless nothing is read any more. -/
def keeps (listed : Array Bool) (tl : Nat) (S : World → Prop) (w : World) (X : (World → Prop) → Prop) : Prop :=
  match listed.getD tl false with
  | true => X S
  | false => KEEPS S w X

/-- A region that draws: what is quiet first; behind each other operation S is shown anew. -/
def compD (P : Program) (n : Nat) (ops : Array Oper) (E : List PanicEntry → World → Prop) (Q : Env → World → Prop) (tl : Nat) : Nat → Array Bool → (World → Prop) → List Nat → Env → World → Prop
  | 0, listed, _, _, ρ, w => match Region.ready .any ops listed with
    | [] => Q ρ w
    | _ :: _ => False
  | f + 1, listed, S, dec, ρ, w =>
    match Region.ready .any ops listed with
    | [] => Q ρ w
    | i₀ :: rs =>
      match (i₀ :: rs).find? (fun i => (match ops[i]? with | some o => Nat.ble (asks P o) 1 | none => false) && Region.free .any ops listed i) with
      | some i => match ops[i]? with
        | none => False
        | some o => guardX ops o dec ρ fun go dec ρ =>
          match go with
          | true => stepQ P n (easy ops dec ρ o) ρ S w fun ρ' => compD P n ops E Q tl f (listed.setIfInBounds i true) S (eased ops dec ρ o i) ρ' w
          | false => match dstOk n o.dst with
            | true => compD P n ops E Q tl f (listed.setIfInBounds i true) S (i :: dec) (ρ.put o.dst (some undef)) w
            | false => False
      | none => allP i₀ rs fun i => match ops[i]? with
          | none => False
          | some o => guardX ops o dec ρ fun go dec ρ =>
            match go with
            | true => stepX P n o ρ E w fun ρ w => keeps (listed.setIfInBounds i true) tl S w fun S => compD P n ops E Q tl f (listed.setIfInBounds i true) S dec ρ w
            | false => match dstOk n o.dst with
              | true => compD P n ops E Q tl f (listed.setIfInBounds i true) S (i :: dec) (ρ.put o.dst (some undef)) w
              | false => False

/-- The worlds with the memory of one. -/
def SAME (w w' : World) : Prop := w'.heap = w.heap

/-- Is S shown anew nowhere? -/
def calm (P : Program) (ops : Array Oper) : Bool :=
  (List.range ops.size).all fun i => match ops[i]? with
    | some o => Nat.ble (asks P o) 1 || Nat.beq i (tailOf P ops) || (clo ops 8 [i]).elem (tailOf P ops)
    | none => true

def DRAWQ (w : World) (B : (World → Prop) → World → Prop) : Prop := B (SAME w) w.drew
def DRAW (w : World) (B : (World → Prop) → World → Prop) : Prop := ∃ S : World → Prop, S w.drew ∧ B S w.drew

/-! ### Code -/
def dstsOps : List Oper → List Nat
  | [] => []
  | o :: l => match o.dst with
    | some d => d :: dstsOps l
    | none => dstsOps l

/-- The slots that code writes. -/
def dsts : Code → List Nat
  | .region _ ops _ => dstsOps ops.toList ++ (ops.toList.filterMap fun o => o.guard.bind fun g => (ops[g.1]?).bind (·.dst))
  | .seq a b => dsts a ++ dsts b
  | .cond _ a b => dsts a ++ dsts b
  | .block _ c => dsts c
  | .loop c => dsts c
  | .scope c => dsts c
  | _ => []

/-- The number of the first region: a loop's name. -/
def headNo : Code → Nat
  | .region i _ _ => i
  | .seq a _ => headNo a
  | .block _ c => headNo c
  | .loop c => headNo c
  | .scope c => headNo c
  | .cond _ a b => match Nat.beq (headNo a) 999 with
    | true => headNo b
    | false => headNo a
  | .label l => 1000 + l
  | _ => 999

def Env.forget (ρ : Env) (l : List Nat) : Env := fun j => match l.elem j with
  | true => none
  | false => ρ j

def AnnList := List (Nat × List Nat)
def liveAt (an : List (Nat × List Nat)) (k : Nat) : List Nat :=
  match an with
  | [] => []
  | (i, l) :: r => bif Nat.beq i k then l else liveAt r k

def joinAt (an : List (Nat × List Nat)) (k : Nat) : Option (List Nat) :=
  match an with
  | [] => none
  | (i, l) :: r => bif Nat.beq i k then some l else joinAt r k

/-- Ways that meet: what is known behind them. -/
def joinX (live : List Nat) (ρm : Env) (first : (Env → World → Prop) → Prop) (rest : Env → World → Prop) : Prop :=
  match live with
  | [] => JOIN0 (fun J => first fun _ w => J w) (fun w => rest ρm w)
  | [a] => JOIN1 (fun J => first fun ρ w => match ρ a with
      | some x => J x w
      | none => False) (fun x w => rest (ρm.set a (some x)) w)
  | [a, b] => JOIN2 (fun J => first fun ρ w => match ρ a, ρ b with
      | some x, some y => J x y w
      | _, _ => False) (fun x y w => rest ((ρm.set a (some x)).set b (some y)) w)
  | [a, b, c] => JOIN3 (fun J => first fun ρ w => match ρ a, ρ b, ρ c with
      | some x, some y, some z => J x y z w
      | _, _, _ => False) (fun x y z w => rest (((ρm.set a (some x)).set b (some y)).set c (some z)) w)
  | _ => False

def joinKey (x y : Code) : Nat := 10000 + 1000 * headNo x + headNo y

def allIn : List Nat → List Nat → Bool
  | [], _ => true
  | a :: l, ms => match ms.elem a && !(l.elem a) with
    | true => allIn l ms
    | false => false

/-- A loop whose head knows the slots 'live'. 'body': what a round does, with what comes behind it. -/
def loopX (live : List Nat) (ρ ρm : Env) (w : World) (body : Env → World → (Env → World → Prop) → Prop) : Prop :=
  match live with
  | [] => LOOP0 (fun w next => body ρm w fun _ w => next w) w
  | [a] => match ρ a with
    | some x => LOOP1 (fun x w next => body (ρm.set a (some x)) w fun ρ w => match ρ a with
      | some x => next x w
      | none => False) x w
    | none => False
  | [a, b] => match ρ a, ρ b with
    | some x, some y => LOOP2 (fun x y w next => body ((ρm.set a (some x)).set b (some y)) w fun ρ w => match ρ a, ρ b with
      | some x, some y => next x y w
      | _, _ => False) x y w
    | _, _ => False
  | [a, b, c] => match ρ a, ρ b, ρ c with
    | some x, some y, some z => LOOP3 (fun x y z w next => body (((ρm.set a (some x)).set b (some y)).set c (some z)) w fun ρ w => match ρ a, ρ b, ρ c with
      | some x, some y, some z => next x y z w
      | _, _, _ => False) x y z w
    | _, _, _ => False
  | [a, b, c, d] => match ρ a, ρ b, ρ c, ρ d with
    | some x, some y, some z, some u => LOOP4 (fun x y z u w next => body ((((ρm.set a (some x)).set b (some y)).set c (some z)).set d (some u)) w fun ρ w => match ρ a, ρ b, ρ c, ρ d with
      | some x, some y, some z, some u => next x y z u w
      | _, _, _, _ => False) x y z u w
    | _, _, _, _ => False
  | [a, b, c, d, e] => match ρ a, ρ b, ρ c, ρ d, ρ e with
    | some x, some y, some z, some u, some t => LOOP5 (fun x y z u t w next => body (((((ρm.set a (some x)).set b (some y)).set c (some z)).set d (some u)).set e (some t)) w fun ρ w => match ρ a, ρ b, ρ c, ρ d, ρ e with
      | some x, some y, some z, some u, some t => next x y z u t w
      | _, _, _, _, _ => False) x y z u t w
    | _, _, _, _, _ => False
  | _ => False

def hasGoto : Code → Nat → Bool
  | .seq a b, l => hasGoto a l || hasGoto b l
  | .cond _ a b, l => hasGoto a l || hasGoto b l
  | .block _ c, l => hasGoto c l
  | .loop c, l => hasGoto c l
  | .scope c, l => hasGoto c l
  | .goto l', l => Nat.beq l' l
  | _, _ => false

/-- The label of a scope that is a loop's head. -/
def spineLab : Code → Option Nat
  | .seq x y => match x with
    | .label l => match hasGoto y l with
      | true => some l
      | false => spineLab y
    | _ => spineLab y
  | _ => none

def labs : Code → List Nat
  | .seq a b => labs a ++ labs b
  | .label l => [l]
  | _ => []

def clearLab (x y : Code) : Bool :=
  match spineLab y with
  | none => true
  | some l => !(labs x).elem l

/-- Code. 'sc': it is the body of a scope, whose label is a loop's head. -/
def comp (P : Program) (n : Nat) (an : List (Nat × List Nat)) (E : List PanicEntry → World → Prop) : Bool → Code → (Exit → Env → World → Prop) → Env → World → Prop
  | _, .skip, Q, ρ, w => Q .normal ρ w
  | _, .label _, Q, ρ, w => Q .normal ρ w
  | _, .exit id, Q, ρ, w => Q (.exit id) ρ w
  | _, .goto l, Q, ρ, w => Q (.goto l) ρ w
  | _, .ret, Q, ρ, w => Q .ret ρ w
  | _, .region _ ops draw, Q, ρ, w =>
    match draw with
    | false => compR P n ops E (Q .normal) 0 ops.toList [] ρ w
    | true => match P.follows .mixedOrders && Region.noSelect ops with
      | true => match calm P ops with
        | true => DRAWQ w fun S w => compD P n ops E (Q .normal) (tailOf P ops) ops.size (Array.replicate ops.size false) S [] ρ w
        | false => DRAW w fun S w => compD P n ops E (Q .normal) (tailOf P ops) ops.size (Array.replicate ops.size false) S [] ρ w
      | false => False
  | sc, .seq x y, Q, ρ, w =>
    match sc with
    | false => match joinAt an (joinKey x y) with
      | none => comp P n an E false x (fun e ρ w => match e with
        | .normal => comp P n an E false y Q ρ w
        | e => Q e ρ w) ρ w
      | some live => match allIn live (dsts x) with
        | false => False
        | true => joinX live (ρ.forget (dsts x)) (fun K => comp P n an E false x (fun e ρ w => match e with
          | .normal => K ρ w
          | e => Q e ρ w) ρ w) (fun ρ w => comp P n an E false y Q ρ w)
    | true => match (match x with | .label l => hasGoto y l | _ => false) with
      | true => match allIn (liveAt an (headNo x)) (dsts y) with
        | false => False
        | true => loopX (liveAt an (headNo x)) ρ (ρ.forget (dsts y)) w fun ρ w next =>
          comp P n an E false y (fun e ρ w => match e with
            | .goto l' => match Nat.beq (1000 + l') (headNo x) with
              | true => next ρ w
              | false => False
            | e => Q e ρ w) ρ w
      | false => match clearLab x y with
        | false => False
        | true => match joinAt an (joinKey x y) with
          | none => comp P n an E false x (fun e ρ w => match e with
            | .normal => comp P n an E true y Q ρ w
            | e => Q e ρ w) ρ w
          | some live => match allIn live (dsts x) with
            | false => False
            | true => joinX live (ρ.forget (dsts x)) (fun K => comp P n an E false x (fun e ρ w => match e with
              | .normal => K ρ w
              | e => Q e ρ w) ρ w) (fun ρ w => comp P n an E true y Q ρ w)
  | _, .cond c x y, Q, ρ, w =>
    match ρ.ev c with
    | some v => COND v (comp P n an E false x Q ρ w) (comp P n an E false y Q ρ w)
    | none => False
  | _, .block id c, Q, ρ, w => comp P n an E false c (fun e ρ w => match e with
    | .exit id' => match Nat.beq id' id with
      | true => Q .normal ρ w
      | false => Q (.exit id') ρ w
    | e => Q e ρ w) ρ w
  | _, .loop c, Q, ρ, w => match allIn (liveAt an (headNo c)) (dsts c) with
    | false => False
    | true => loopX (liveAt an (headNo c)) ρ (ρ.forget (dsts c)) w fun ρ w next =>
      comp P n an E false c (fun e ρ w => match e with
        | .normal => next ρ w
        | e => Q e ρ w) ρ w
  | _, .scope c, Q, ρ, w => comp P n an E true c (fun e ρ w => match e with
    | .goto _ => False
    | e => Q e ρ w) ρ w
  | _, _, _, _, _ => False

/-! ### The end -/
def RES (P : Program) (rs : List ResultVar) (ρ : Env) (w : World) (K : Value → Prop) : Prop :=
  match rs with
  | [] => K (.tuple #[])
  | [.tmp a] => match ρ a with
    | some v => K v
    | none => False
  | [.cell a t] => match ρ a with
    | some v => LOADRES P t v w K
    | none => False
  | [.tmp a, .tmp b] => match ρ a, ρ b with
    | some v, some u => K (.tuple #[v, u])
    | _, _ => False
  | [.tmp a, .tmp b, .tmp c] => match ρ a, ρ b, ρ c with
    | some v, some u, some t => K (.tuple #[v, u, t])
    | _, _, _ => False
  | _ => False

def bodyQ (P : Program) (rs : List ResultVar) (R : Ending → World → Prop) (e : Exit) (ρ : Env) (w : World) : Prop :=
  match e with
  | .normal => RES P rs ρ w fun v => R (.returned v) w
  | .ret => RES P rs ρ w fun v => R (.returned v) w
  | _ => False

def argEnv : Nat → List Value → Env
  | _, [] => fun _ => none
  | i, v :: vs => (argEnv (i + 1) vs).set i (some v)

end Go.Sx
namespace Go.Sx
open Go

/-! ### Soundness -/
theorem Agree.set {n : Nat} {ρ : Env} {a : Act} (h : Agree n ρ a) {d : Nat} {v : Value} (hd : d < n) : Agree n (ρ.set d (some v)) (a.put (some d) v) := by
  refine ⟨by simp [Act.put, h.size], h.nodef, fun j u hj => ?_⟩
  unfold Env.set at hj
  by_cases e : j = d
  · subst e
    simp at hj
    subst hj
    simp [Act.put, h.size, hd]
  · have : Nat.beq j d = false := by
      cases hb : Nat.beq j d with
      | false => rfl
      | true => exact absurd (Nat.eq_of_beq_eq_true hb) e
    simp [this] at hj
    simp only [Act.put]
    rw [Array.getElem?_setIfInBounds_ne (Ne.symm e)]
    exact h.val j u hj

theorem Agree.unset {n : Nat} {ρ : Env} {a : Act} (h : Agree n ρ a) (d : Nat) (v : Value) : Agree n (ρ.set d none) (a.put (some d) v) := by
  refine ⟨by simp [Act.put, h.size], h.nodef, fun j u hj => ?_⟩
  unfold Env.set at hj
  by_cases e : j = d
  · subst e
    simp at hj
  · have : Nat.beq j d = false := by
      cases hb : Nat.beq j d with
      | false => rfl
      | true => exact absurd (Nat.eq_of_beq_eq_true hb) e
    simp [this] at hj
    simp only [Act.put]
    rw [Array.getElem?_setIfInBounds_ne (Ne.symm e)]
    exact h.val j u hj

theorem dstOk_lt {n d : Nat} (h : dstOk n (some d) = true) : d < n := by
  exact Nat.lt_of_succ_le (Nat.le_of_ble_eq_true h)

theorem Agree.put {n : Nat} {ρ : Env} {a : Act} (h : Agree n ρ a) {d : Option Nat} (hd : dstOk n d = true) (v : Value) : Agree n (ρ.put d (some v)) (a.put d v) := by
  cases d with
  | none => exact h
  | some d => exact h.set (dstOk_lt hd)

theorem Agree.ev {n : Nat} {ρ : Env} {a : Act} (h : Agree n ρ a) {x : Operand} {v : Value} (hx : ρ.ev x = some v) : a.eval x = v := by
  cases x with
  | tmp t =>
    have := h.val t v hx
    simp [Act.eval, Array.getD_eq_getD_getElem?, this]
  | const u => simpa [Env.ev, Act.eval] using hx
  | global g => simpa [Env.ev, Act.eval] using hx
  | func f => simpa [Env.ev, Act.eval] using hx

/-- A move of what may be unknown. -/
theorem Agree.move {n : Nat} {ρ : Env} {a : Act} (h : Agree n ρ a) {d : Option Nat} (hd : dstOk n d = true) (x : Operand) : Agree n (ρ.put d (ρ.ev x)) (a.put d (a.eval x)) := by
  cases hx : ρ.ev x with
  | some v => rw [h.ev hx]; exact h.put hd v
  | none =>
    cases d with
    | none => exact h
    | some d => exact h.unset d _

theorem known_all {ρ : Env} : ∀ {l : List Operand}, known ρ l = true → ∀ x ∈ l, ∃ v, ρ.ev x = some v
  | [], _, x, hx => by cases hx
  | y :: l, h, x, hx => by
    unfold known at h
    split at h
    · rename_i v hv
      rcases List.mem_cons.1 hx with rfl | hx
      · exact ⟨v, hv⟩
      · exact known_all h x hx
    · cases h

theorem Agree.evals {n : Nat} {ρ : Env} {a : Act} (h : Agree n ρ a) {l : List Operand} (hk : known ρ l = true) : ∀ x ∈ l, a.eval x = ρ.D x := by
  intro x hx
  obtain ⟨v, hv⟩ := known_all hk x hx
  rw [h.ev hv]
  simp [Env.D, hv]

theorem arr_map {α β : Type} (xs : Array α) (f : α → β) : xs.map f = (xs.toList.map f).toArray := by
  apply Array.ext'
  simp

theorem run_bind {α β : Type} (P : Program) (s : Sem α) (f : α → Sem β) (w : World) : (s.bind f).run P w = match s.run P w with
    | .ok v w' => (f v).run P w'
    | .halt h w' => .halt h w' := by
  induction s generalizing w with
  | pure a => simp [Sem.bind, Sem.run]
  | load m a k ih =>
    simp only [Sem.bind, Sem.run]
    split
    · exact ih _ _
    · split
      · exact ih _ _
      · rfl
  | store m a v k ih =>
    cases v <;> simp only [Sem.bind, Sem.run] <;> first
      | rfl
      | (split
         · split
           · rfl
           · exact ih _
         · split
           · exact ih _
           · rfl)
  | new o k ih => exact ih _ _
  | shape r k ih => exact ih _ _
  | freeze a n k ih => exact ih _
  | frozen a k ih => exact ih _ _
  | getObj r k ih =>
    simp only [Sem.bind, Sem.run]
    split <;> first | rfl | exact ih _ _
  | setObj r o k ih =>
    simp only [Sem.bind, Sem.run]
    split <;> first | rfl | exact ih _
  | choose q k ih =>
    simp only [Sem.bind, Sem.run]
    split <;> exact ih _ _
  | sys c k ih => exact ih _ _
  | program k ih => exact ih _ _
  | mark m k ih => exact ih _
  | halt h => simp [Sem.bind, Sem.run]

theorem run_value {P : Program} {s : Sem Value} {w w' : World} {v : Value} (h : s.run P w = .ok v w') : (do pure (Next.value (← s)) : Sem Next).run P w = .ok (.value v) w' := by
  show (Sem.bind s _).run P w = _
  rw [run_bind, h]
  rfl

theorem run_skip {P : Program} {s : Sem Unit} {w w' : World} {u : Unit} (h : s.run P w = .ok u w') : (do s; pure Next.skip : Sem Next).run P w = .ok .skip w' := by
  show (Sem.bind s _).run P w = _
  rw [run_bind, h]
  rfl

theorem opV_run {P : Program} {n : Nat} {ρ : Env} {a : Act} (h : Agree n ρ a) {o : Oper} (hk : known ρ o.op.operands.toList = true) {s : Sem Value} (hs : opV ρ o = some s)
    {w w' : World} {v : Value} (hr : s.run P w = .ok v w') : (execOp a.eval o).run P w = .ok (.value v) w' := by
  have hsel : ∀ cs b, o.op ≠ .select cs b := by
    intro cs b e
    simp [opV, e] at hs
  rw [execOp_congr o hsel (ρ' := ρ.D) (fun x hx => h.evals hk x (by simpa using hx))]
  obtain ⟨dst, op, type, pos, after, guard⟩ := o
  cases op with
  | pick c x y =>
    simp only [opV, Option.some.injEq] at hs
    subst hs
    replace hr : (Sem.bind (asBool (ρ.D c)) (fun b => Sem.pure (if b = true then ρ.D x else ρ.D y))).run P w = .ok v w' := hr
    change (Sem.bind (asBool (ρ.D c)) (fun b => Sem.pure (Next.value (if b = true then ρ.D x else ρ.D y)))).run P w = _
    rw [run_bind] at hr ⊢
    cases hb : (asBool (ρ.D c)).run P w with
    | ok b w1 =>
      rw [hb] at hr
      simp only [Sem.run, Result.ok.injEq] at hr ⊢
      exact ⟨by rw [hr.1], hr.2⟩
    | halt e w1 =>
      rw [hb] at hr
      cases hr
  | nilCheck x =>
    simp only [opV, Option.some.injEq] at hs
    subst hs
    simp only [execOp]
    unfold NILS at hr
    revert hr
    generalize ρ.D x = y
    intro hr
    cases y with
    | pointer p =>
      cases p with
      | none => simp [stuck, Sem.run] at hr
      | some q => simpa [pure, Sem.run] using hr
    | func fn first captured =>
      cases fn with
      | func f => simpa [pure, Sem.run] using hr
      | _ => simp [stuck, Sem.run] at hr
    | iface t v => simpa [pure, Sem.run] using hr
    | _ => simp [stuck, Sem.run] at hr
  | call c =>
    obtain ⟨callee, args, argTypes⟩ := c
    cases callee with
    | builtin b =>
      cases b <;> simp only [opV, Option.some.injEq, reduceCtorEq] at hs <;> subst hs <;>
        (simp only [execOp, resolve, invoke, builtin, arr_map] ; exact run_value hr)
    | _ => simp [opV] at hs
  | makeMap t r =>
    cases r with
    | none =>
      simp only [opV, Option.some.injEq] at hs
      subst hs
      exact run_value hr
    | some r => simp [opV] at hs
  | build t ps =>
    simp only [opV, Option.some.injEq] at hs
    subst hs
    simp only [execOp, arr_map]
    exact run_value hr
  | buildSlice t k ps =>
    simp only [opV, Option.some.injEq] at hs
    subst hs
    simp only [execOp, arr_map]
    exact run_value hr
  | makeFunc fn f c =>
    simp only [opV, Option.some.injEq] at hs
    subst hs
    simp only [execOp, arr_map]
    exact run_value hr
  | _ =>
    first
    | (simp only [opV, Option.some.injEq] at hs; subst hs; exact run_value hr)
    | (simp [opV] at hs; done)

theorem opU_run {P : Program} {n : Nat} {ρ : Env} {a : Act} (h : Agree n ρ a) {o : Oper} (hk : known ρ o.op.operands.toList = true) {s : Sem Unit} (hs : opU ρ o = some s)
    {w w' : World} {u : Unit} (hr : s.run P w = .ok u w') : (execOp a.eval o).run P w = .ok .skip w' := by
  have hsel : ∀ cs b, o.op ≠ .select cs b := by
    intro cs b e
    simp [opU, e] at hs
  rw [execOp_congr o hsel (ρ' := ρ.D) (fun x hx => h.evals hk x (by simpa using hx))]
  obtain ⟨dst, op, type, pos, after, guard⟩ := o
  cases op with
  | store t x y => simp only [opU, Option.some.injEq] at hs; subst hs; exact run_skip hr
  | mapUpdate t m k x => simp only [opU, Option.some.injEq] at hs; subst hs; exact run_skip hr
  | insert t m k x => simp only [opU, Option.some.injEq] at hs; subst hs; exact run_skip hr
  | _ => simp [opU] at hs

/-- What a post on environments says of frames. -/
def lift (n : Nat) (E : List PanicEntry → World → Prop) (Q : Exit → Env → World → Prop) : Exit → Act → World → Prop
  | .panic c, a, w => a.defers = [] ∧ E c w
  | .outgrown, _, _ => False
  | e, a, w => ∃ ρ, Agree n ρ a ∧ Q e ρ w

end Go.Sx
namespace Go.Sx
open Go

theorem run_callFunc {P : Program} {f : FuncId} (h : callable P f = true) (args : Array Value) (w : World) : (callFunc f args).run P w = .ok (.enter f args) w := by
  unfold callable at h
  split at h
  · rename_i fn hf
    simp only [Bool.and_eq_true, Bool.not_eq_true'] at h
    have hb : fn.body.isNone = false := by
      cases hfb : fn.body with
      | none => rw [hfb] at h; simp at h
      | some c => rfl
    show (Sem.bind program _).run P w = _
    rw [run_bind]
    simp only [program, Sem.run, hf]
    rw [if_neg (by simp [h.1]), if_neg (by simp [hb])]
    rfl
  · cases h

theorem run_resolve_value {P : Program} {ρ : Operand → Value} {x : Operand} {args : Array Operand} {ts : Array TypeId} {ty : TypeId} {f : FuncId} {first captured : Array Value} (hx : ρ x = .func (.func f) first captured)
    (hc : callable P f = true) (w : World) :
    (do let d ← resolve ρ { callee := .value x, args := args, argTypes := ts } ty; invoke d.target d.args : Sem Next).run P w = .ok (.enter f (first ++ args.map ρ ++ captured)) w := by
  show (Sem.bind (resolve ρ _ ty) _).run P w = _
  rw [run_bind]
  simp only [resolve, hx, Deferred.ofValue, pure, Sem.run, invoke]
  exact run_callFunc hc _ w

theorem run_resolve_invoke {P : Program} {ρ : Operand → Value} {x : Operand} {m : String} {args : Array Operand} {ts : Array TypeId} {ty : TypeId} {t : TypeId} {v : Value} {f : FuncId} {rcv : Value} {w : World} (hx : ρ x = .iface t v)
    (hm : (method (P.types.size + Made.depth) t v m).run P w = .ok (f, rcv) w) (hc : callable P f = true) :
    (do let d ← resolve ρ { callee := .invoke x m, args := args, argTypes := ts } ty; invoke d.target d.args : Sem Next).run P w = .ok (.enter f (#[rcv] ++ args.map ρ)) w := by
  show (Sem.bind (resolve ρ _ ty) _).run P w = _
  rw [run_bind]
  have h0 : (#[Value.iface t v] ++ args.map ρ)[0]? = some (.iface t v) := by rw [Array.getElem?_append_left (by simp)]; rfl
  have h1 : (#[Value.iface t v] ++ args.map ρ).extract 1 (#[Value.iface t v] ++ args.map ρ).size = args.map ρ := by
    apply Array.ext'
    simp
    exact List.take_of_length_le (by simp)
  simp only [resolve, hx, pure, Sem.run, invoke, h0, h1]
  show (Sem.bind program fun p => Sem.bind (method (p.types.size + Made.depth) t v m) fun y => callFunc y.1 (#[y.2] ++ args.map ρ)).run P w = _
  rw [run_bind]
  simp only [program, Sem.run]
  rw [run_bind, hm]
  exact run_callFunc hc _ w

/-- The post of a step. -/
def Nxt (n : Nat) (K : Env → World → Prop) (a : Act) (w : World) : Prop := ∃ ρ, Agree n ρ a ∧ K ρ w

theorem args_eq {n : Nat} {ρ : Env} {a : Act} (h : Agree n ρ a) {args : Array Operand} (hk : known ρ args.toList = true) : args.map a.eval = (args.toList.map ρ.D).toArray := by
  rw [arr_map]
  congr 1
  exact List.map_congr_left (h.evals hk)

theorem stepX_sound {P : Program} {n : Nat} {o : Oper} {ρ : Env} {E : List PanicEntry → World → Prop} {w : World} {K : Env → World → Prop} {a : Act} {Q : Exit → Env → World → Prop}
    (h : Agree n ρ a) (hs : stepX P n o ρ E w K) : o.wp P a w (Nxt n K) (lift n E Q) := by
  unfold stepX at hs
  split at hs
  · cases hs
  rename_i hd
  unfold Oper.wp
  obtain ⟨dst, op, type, pos, after, guard⟩ := o
  simp only at hd
  have gen : ∀ (hm : (match known ρ op.operands.toList with
      | false => False
      | true =>
        match opV ρ { dst, op, type, pos, after, guard } with
        | some s => match asks P { dst, op, type, pos, after, guard } with
          | 0 => PURE P s fun v => K (ρ.put dst (some v)) w
          | _ => RUN P s w fun v w => K (ρ.put dst (some v)) w
        | none => match opU ρ { dst, op, type, pos, after, guard } with
          | some s => RUNU P s w fun w => K (ρ.put dst (some undef)) w
          | none => False)), Oper.upon P { dst, op, type, pos, after, guard } a (Nxt n K) (lift n E Q) ((execOp a.eval { dst, op, type, pos, after, guard }).run P w) := by
    intro hm
    split at hm
    · cases hm
    rename_i hk
    split at hm
    · rename_i s hsv
      split at hm
      · obtain ⟨v, hr, hm⟩ := hm
        rw [opV_run h (o := { dst, op, type, pos, after, guard }) hk hsv (hr w)]
        exact ⟨_, h.put hd v, hm⟩
      · unfold RUN at hm
        split at hm
        · rename_i v w' hr
          rw [opV_run h (o := { dst, op, type, pos, after, guard }) hk hsv hr]
          exact ⟨_, h.put hd v, hm⟩
        · cases hm
    · split at hm
      · rename_i s hsv
        unfold RUNU at hm
        split at hm
        · rename_i v w' hr
          rw [opU_run h (o := { dst, op, type, pos, after, guard }) hk hsv hr]
          exact ⟨_, h.put hd undef, hm⟩
        · cases hm
      · cases hm
  cases op with
  | move x => exact ⟨_, h.move hd x, hs⟩
  | assign x => exact ⟨_, h.move hd x, hs⟩
  | panic x =>
    simp only at hs
    split at hs
    · cases hs
    rename_i hk
    have hx : a.eval x = ρ.D x := h.evals hk x (by simp)
    unfold PANIC at hs
    split at hs
    · rename_i t y hy
      simp only [execOp, hx, hy]
      exact ⟨h.nodef, hs⟩
    · cases hs
  | call c =>
    obtain ⟨callee, args, argTypes⟩ := c
    have viaV : ∀ (x : Operand) (hk : known ρ (x :: args.toList) = true) (hs : CALLV P (ρ.D x) (args.toList.map ρ.D) w E fun v w => K (ρ.put dst (some v)) w),
        Oper.upon P { dst, op := .call { callee := .value x, args, argTypes }, type, pos, after, guard } a (Nxt n K) (lift n E Q) ((execOp a.eval { dst, op := .call { callee := .value x, args, argTypes }, type, pos, after, guard }).run P w) := by
      intro x hk hs
      obtain ⟨f, first, captured, hv, hc, hcall⟩ := hs
      have hx : a.eval x = .func (.func f) first captured := by rw [h.evals hk x (by simp), hv]
      have hk' : known ρ args.toList = true := by
        unfold known at hk
        split at hk
        · exact hk
        · cases hk
      have hr := run_resolve_value (P := P) (ρ := a.eval) (args := args) (ts := argTypes) (ty := type) hx hc w
      simp only [execOp]
      rw [hr]
      have e : first ++ args.map a.eval ++ captured = (first.toList ++ args.toList.map ρ.D ++ captured.toList).toArray := by
        rw [args_eq h hk']
        apply Array.ext'
        simp
      rw [e]
      refine hcall.mono fun e w' he => ?_
      cases e with
      | returned v => exact ⟨_, h.put hd v, he⟩
      | panicked c => exact ⟨h.nodef, he⟩
      | outgrown => exact he.elim
    cases callee with
    | value x =>
      cases x with
      | func f =>
        simp only at hs
        split at hs
        · cases hs
        rename_i hk
        refine viaV (.func f) (by simpa [known, Env.ev] using hk) ⟨f, #[], #[], rfl, ?_⟩
        simpa using hs
      | tmp t =>
        simp only at hs
        split at hs
        · cases hs
        rename_i hk
        exact viaV _ hk hs
      | const v =>
        simp only at hs
        split at hs
        · cases hs
        rename_i hk
        exact viaV _ hk hs
      | global g =>
        simp only at hs
        split at hs
        · cases hs
        rename_i hk
        exact viaV _ hk hs
    | builtin b => exact gen hs
    | invoke r m =>
      simp only at hs
      split at hs
      · cases hs
      rename_i hk
      obtain ⟨t, x, f, rcv, hv, hm, hc, hcall⟩ := hs
      have hx : a.eval r = .iface t x := by rw [h.evals hk r (by simp), hv]
      have hk' : known ρ args.toList = true := by
        unfold known at hk
        split at hk
        · exact hk
        · cases hk
      have hr := run_resolve_invoke (P := P) (ρ := a.eval) (args := args) (ts := argTypes) (ty := type) hx hm hc
      simp only [execOp]
      rw [hr]
      have e : #[rcv] ++ args.map a.eval = (rcv :: args.toList.map ρ.D).toArray := by
        rw [args_eq h hk']
        apply Array.ext'
        simp
      rw [e]
      refine hcall.mono fun e w' he => ?_
      cases e with
      | returned v => exact ⟨_, h.put hd v, he⟩
      | panicked c => exact ⟨h.nodef, he⟩
      | outgrown => exact he.elim
  | _ => exact gen hs

end Go.Sx
namespace Go.Sx
open Go

theorem Agree.again {n : Nat} {ρ : Env} {a : Act} (h : Agree n ρ a) {t : Nat} {v : Value} (ht : a.tmps[t]? = some v) : Agree n (ρ.set t (some v)) a := by
  refine ⟨h.size, h.nodef, fun j u hj => ?_⟩
  unfold Env.set at hj
  cases hb : Nat.beq j t with
  | false => rw [hb] at hj; exact h.val j u hj
  | true =>
    rw [hb] at hj
    have : j = t := Nat.eq_of_beq_eq_true hb
    subst this
    simp only [cond_true, Option.some.injEq] at hj
    rw [← hj]
    exact ht

theorem guardX_sound {n : Nat} {ops : Array Oper} {o : Oper} {dec : List Nat} {ρ : Env} {go : Bool → List Nat → Env → Prop} {a : Act}
    (h : Agree n ρ a) (hg : guardX ops o dec ρ go) : ∃ b dec' ρ', Agree n ρ' a ∧ Region.wanted o (yielded ops a.tmps) = b ∧ go b dec' ρ' := by
  unfold guardX at hg
  split at hg
  · rename_i hn
    exact ⟨true, dec, ρ, h, by simp [Region.wanted, hn], hg⟩
  rename_i j want hn
  split at hg
  · cases hg
  rename_i t ht
  have hw : ∀ v, a.tmps[t]? = some v → Region.wanted o (yielded ops a.tmps) = ((match v with | .bool b => some b | _ => none) == some want) := by
    intro v hv
    simp only [Region.wanted, hn, yielded, ht, Option.bind_some, hv]
    cases v <;> rfl
  split at hg
  · split at hg
    · rename_i b hb
      exact ⟨b == want, dec, ρ, h, by rw [hw _ (h.val _ _ hb)]; cases b <;> cases want <;> rfl, hg⟩
    · rename_i vs hb
      exact ⟨false, dec, ρ, h, by rw [hw _ (h.val _ _ hb)]; rfl, hg⟩
    · cases hg
  · split at hg
    · rename_i v hv
      have hv' := h.val _ _ hv
      rcases hg with ⟨rfl, hg⟩ | ⟨rfl, hg⟩
      · exact ⟨want, _, _, h.again hv', by rw [hw _ hv']; cases want <;> rfl, hg⟩
      · exact ⟨!want, _, _, h.again hv', by rw [hw _ hv']; cases want <;> rfl, hg⟩
    · cases hg

theorem easy_dst (ops : Array Oper) (dec : List Nat) (ρ : Env) (o : Oper) : (easy ops dec ρ o).dst = o.dst ∧ (easy ops dec ρ o).guard = o.guard := by
  unfold easy
  split <;> exact ⟨rfl, rfl⟩
theorem easy_run {P : Program} {n : Nat} {ops : Array Oper} {dec : List Nat} {ρ : Env} {o : Oper} {a : Act} (h : Agree n ρ a) (w : World) : (execOp a.eval (easy ops dec ρ o)).run P w = (execOp a.eval o).run P w := by
  unfold easy
  split
  · rename_i x hx
    obtain ⟨dst, op, type, pos, after, guard⟩ := o
    unfold pickX at hx
    split at hx
    · rename_i t c b hop
      simp only at hop
      subst hop
      split at hx
      · split at hx
        · rename_i ht
          injection hx with hx
          subst hx
          have := h.ev (x := .tmp t) ht
          simp only [execOp, this]
          rfl
        · rename_i ht
          injection hx with hx
          subst hx
          have := h.ev (x := .tmp t) ht
          simp only [execOp, this]
          rfl
        · cases hx
      · cases hx
    · cases hx
  · rfl
theorem easy_wp {P : Program} {n : Nat} {ops : Array Oper} {dec : List Nat} {ρ : Env} {o : Oper} {a : Act} {w : World} {next : Act → World → Prop} {Q : Exit → Act → World → Prop} (h : Agree n ρ a) (hw : (easy ops dec ρ o).wp P a w next Q) : o.wp P a w next Q := by
  unfold Oper.wp at hw ⊢
  rw [easy_run h] at hw
  have hd := (easy_dst ops dec ρ o).1
  unfold Oper.upon at hw ⊢
  rw [hd] at hw
  exact hw
theorem easy_asks {P : Program} (ops : Array Oper) (dec : List Nat) (ρ : Env) (o : Oper) : asks P (easy ops dec ρ o) = asks P o := by
  unfold easy
  split
  · rename_i x hx
    unfold pickX at hx
    split at hx
    · rename_i t c b hop
      unfold asks
      simp only [hop]
    · cases hx
  · rfl
theorem easy_yields {P : Program} {n : Nat} {ops : Array Oper} {dec : List Nat} {ρ : Env} {o : Oper} {a : Act} {S : World → Prop} {v : Value} (h : Agree n ρ a) (hy : YieldsIf P ops (fun w' => asks P (easy ops dec ρ o) = 1 → S w') (easy ops dec ρ o) v a) : YieldsIf P ops (fun w' => asks P o = 1 → S w') o v a := by
  rw [easy_asks] at hy
  have hg : Region.wanted (easy ops dec ρ o) (yielded ops a.tmps) = Region.wanted o (yielded ops a.tmps) := by
    unfold Region.wanted
    rw [(easy_dst ops dec ρ o).2]
  rcases hy with ⟨h1, h2⟩ | ⟨h1, h2⟩
  · exact .inl ⟨by rw [← hg]; exact h1, fun w hS => by rw [← easy_run h]; exact h2 w hS⟩
  · exact .inr ⟨by rw [← hg]; exact h1, h2⟩

/-- A list of operations. -/
theorem compR_sound {P : Program} {n : Nat} {ops : Array Oper} {E : List PanicEntry → World → Prop} {Q : Exit → Env → World → Prop} :
    ∀ (l : List Oper) (i : Nat) (dec : List Nat) (ρ : Env) (a : Act) (w : World), Agree n ρ a → compR P n ops E (Q .normal) i l dec ρ w → wpList P ops (lift n E Q) l a w
  | [], _, _, ρ, a, w, h, hc => ⟨ρ, h, hc⟩
  | o :: l, i, dec, ρ, a, w, h, hc => by
    obtain ⟨b, dec', ρ', h', hw, hgo⟩ := guardX_sound h hc
    unfold wpList
    rw [hw]
    cases b with
    | true =>
      rw [if_pos rfl]
      refine .inl ?_
      refine easy_wp h' (Oper.wp_mono (fun a' w' hn => ?_) (stepX_sound (Q := Q) h' hgo))
      obtain ⟨ρ'', h'', hk⟩ := hn
      exact compR_sound l (i + 1) _ ρ'' a' w' h'' hk
    | false =>
      rw [if_neg (by simp)]
      simp only at hgo
      split at hgo
      · rename_i hd
        exact compR_sound l (i + 1) _ _ _ _ (h'.put hd undef) hgo
      · cases hgo

/-- It yields v in each world that meets S; in each world at all, where it looks at no memory. -/
theorem stepQ_sound {P : Program} {n : Nat} {ops : Array Oper} {o : Oper} {ρ : Env} {S : World → Prop} {w : World} {K : Env → Prop} {a : Act}
    (h : Agree n ρ a) (hw : Region.wanted o (yielded ops a.tmps) = true) (hs : stepQ P n o ρ S w K) : ∃ v ρ', YieldsIf P ops (fun w' => asks P o = 1 → S w') o v a ∧ Agree n ρ' (a.put o.dst v) ∧ K ρ' := by
  unfold stepQ at hs
  split at hs
  · cases hs
  rename_i hd
  obtain ⟨dst, op, type, pos, after, guard⟩ := o
  simp only at hd
  have gen : ∀ (hm : (match known ρ op.operands.toList with
      | false => False
      | true =>
        match opV ρ { dst, op, type, pos, after, guard } with
        | some s => match asks P { dst, op, type, pos, after, guard } with
          | 0 => PURE P s fun v => K (ρ.put dst (some v))
          | 1 => READ P S s w fun v => K (ρ.put dst (some v))
          | _ => False
        | none => False)), ∃ v ρ', YieldsIf P ops (fun w' => asks P { dst, op, type, pos, after, guard } = 1 → S w') { dst, op, type, pos, after, guard } v a ∧ Agree n ρ' (a.put dst v) ∧ K ρ' := by
    intro hm
    split at hm
    · cases hm
    rename_i hk
    split at hm
    · rename_i s hsv
      split at hm
      · obtain ⟨v, hall, hK⟩ := hm
        exact ⟨v, _, .inl ⟨hw, fun w' _ => opV_run h (o := { dst, op, type, pos, after, guard }) hk hsv (hall w')⟩, h.put hd v, hK⟩
      · rename_i h1
        obtain ⟨v, _, hall, hK⟩ := hm
        exact ⟨v, _, .inl ⟨hw, fun w' hS => opV_run h (o := { dst, op, type, pos, after, guard }) hk hsv (hall w' (hS h1))⟩, h.put hd v, hK⟩
      · cases hm
    · cases hm
  cases op with
  | move x => exact ⟨a.eval x, _, .inl ⟨hw, fun w' _ => rfl⟩, h.move hd x, hs⟩
  | assign x => exact ⟨a.eval x, _, .inl ⟨hw, fun w' _ => rfl⟩, h.move hd x, hs⟩
  | _ => exact gen hs

theorem lift_panic {n : Nat} {E : List PanicEntry → World → Prop} {Q : Exit → Env → World → Prop} (d : Option Nat) (v : Value) :
    ∀ (c : List PanicEntry) (a : Act) (w : World), lift n E Q (.panic c) (a.put d v) w → lift n E Q (.panic c) a w := fun _ a _ h => ⟨by cases d <;> exact h.1, h.2⟩

theorem wpOp_of_wp {P : Program} {ops : Array Oper} {Q : Exit → Act → World → Prop} {i : Nat} {o : Oper} {K : Act → World → Prop} {a : Act} {w : World} (hi : ops[i]? = some o)
    (hw : Region.wanted o (yielded ops a.tmps) = true) (h : o.wp P a w K Q) : wpOp P ops Q i K a w := by
  unfold wpOp
  simp only [hi, hw, if_true]
  exact .inl h

theorem allP_mem {g : Nat → Prop} : ∀ {l : List Nat} {i : Nat}, allP i l g → ∀ {j}, j ∈ i :: l → g j
  | [], i, h, j, hj => by simp at hj; subst hj; exact h
  | k :: l, i, h, j, hj => by
    rcases List.mem_cons.1 hj with rfl | hj
    · exact h.1
    · exact allP_mem h.2 hj

theorem allP_mono {g g' : Nat → Prop} : ∀ {l : List Nat} {i : Nat}, allP i l g → (∀ j, g j → g' j) → allP i l g'
  | [], i, h, hk => hk _ h
  | k :: l, i, h, hk => ⟨hk _ h.1, allP_mono h.2 hk⟩

/-! ### Whatever order is picked: what is kept till nothing is read any more -/
/-- What is known of the world when so much has come up. -/
def Still (tl : Nat) (S : World → Prop) (listed : Array Bool) (w : World) : Prop := listed.getD tl false = true ∨ S w

/-- Who waits for others has come up behind them. -/
def Led (ops : Array Oper) (listed : Array Bool) : Prop := ∀ j, listed.getD j false = true → ∀ r ∈ depsOf ops j, listed.getD r false = true

theorem Led.clo {ops : Array Oper} {listed : Array Bool} (h : Led ops listed) : ∀ (f : Nat) (s : List Nat), (∀ j ∈ s, listed.getD j false = true) → ∀ j ∈ clo ops f s, listed.getD j false = true
  | 0, s, hs, j, hj => hs j hj
  | f + 1, s, hs, j, hj => by
    unfold Go.Sx.clo at hj
    refine Led.clo h f _ (fun i hi => ?_) j hj
    rw [List.mem_eraseDups] at hi
    rcases List.mem_append.1 hi with hi | hi
    · exact hs i hi
    · obtain ⟨x, hx, hi⟩ := List.mem_flatMap.1 hi
      exact h x (hs x hx) i hi

def wpAnyG (P : Program) (ops : Array Oper) (Q : Exit → Act → World → Prop) (tl : Nat) : (World → Prop) → Nat → Array Bool → Act → World → Prop
  | _, 0, listed, a, w => Region.ready .any ops listed = [] ∧ Q .normal a w
  | S, f + 1, listed, a, w => (Region.ready .any ops listed = [] → Q .normal a w) ∧
    ∀ i ∈ Region.ready .any ops listed, wpOp P ops Q i (fun a' w' => ∃ S' : World → Prop, (∀ w, S' w → S w) ∧ Still tl S' (listed.setIfInBounds i true) w' ∧ wpAnyG P ops Q tl S' f (listed.setIfInBounds i true) a' w') a w

theorem wpAny_of_G {P : Program} {ops : Array Oper} {Q : Exit → Act → World → Prop} {tl : Nat} : ∀ {S : World → Prop} (f : Nat) (listed : Array Bool) (a : Act) (w : World),
    wpAnyG P ops Q tl S f listed a w → wpAny P .any ops Q f listed a w
  | _, 0, _, _, _, h => h
  | _, f + 1, _, _, _, h => ⟨h.1, fun i hi => wpOp_mono (fun _ _ h' => by obtain ⟨_, _, _, h'⟩ := h'; exact wpAny_of_G f _ _ _ h') (h.2 i hi)⟩

theorem getD_set_iff {listed : Array Bool} {i j : Nat} (hi : i < listed.size) : (listed.setIfInBounds i true).getD j false = true ↔ j = i ∨ listed.getD j false = true := by
  by_cases e : j = i
  · subst e; simp [hi]
  · rw [getD_set_ne false (Ne.symm e)]; simp [e]

theorem ready_lt {ops : Array Oper} {listed : Array Bool} {i : Nat} (h : i ∈ Region.ready .any ops listed) : i < ops.size := by
  obtain ⟨_, o, ho, _⟩ := mem_ready.1 h
  exact (Array.getElem?_eq_some_iff.1 ho).1

theorem deps_ready {ops : Array Oper} {listed : Array Bool} {i r : Nat} (h : i ∈ Region.ready .any ops listed) (hw : r ∈ depsOf ops i) : listed.getD r false = true := by
  obtain ⟨_, o, ho, hall⟩ := mem_ready.1 h
  unfold depsOf at hw
  rw [ho] at hw
  obtain ⟨e, he, hb⟩ := List.mem_filterMap.1 hw
  cases hbb : Region.binds .any e with
  | false => rw [hbb] at hb; cases hb
  | true =>
    rw [hbb] at hb
    simp only [cond_true, Option.some.injEq] at hb
    rw [← hb]
    exact hall e (by simpa using he) hbb

theorem Led.step {ops : Array Oper} {listed : Array Bool} (h : Led ops listed) (hsz : listed.size = ops.size) {i : Nat} (hi : i ∈ Region.ready .any ops listed) : Led ops (listed.setIfInBounds i true) := by
  intro j hj r hr
  have hlt : i < listed.size := by rw [hsz]; exact ready_lt hi
  rw [getD_set_iff hlt] at hj ⊢
  rcases hj with rfl | hj
  · exact .inr (deps_ready hi hr)
  · exact .inr (h j hj r hr)

theorem wpAnyG_first {P : Program} {ops : Array Oper} {Q : Exit → Act → World → Prop} {tl : Nat} {i : Nat} {oi : Oper} {v : Value} {rd : Prop} (hi : ops[i]? = some oi) (hsel : ∀ (j : Nat) (o : Oper) cs b, ops[j]? = some o → o.op ≠ .select cs b)
    (hQ : ∀ c a w, Q (.panic c) (a.put oi.dst v) w → Q (.panic c) a w) (hne : i ≠ tl) (hrd : rd → tl < ops.size → i ∈ clo ops 8 [tl]) :
    ∀ (f : Nat) (S : World → Prop) (listed : Array Bool) (a : Act) (w : World), listed.size = ops.size → Led ops listed →
      (∀ j oj, ops[j]? = some oj → j ≠ i → listed.getD j true = false → (∀ e ∈ oj.after, Region.binds .any e = true → e.on ≠ i) → oi.apart ops oj = true) →
      i ∈ Region.ready .any ops listed → YieldsIf P ops (fun w' => rd → S w') oi v a → Still tl S listed w →
      wpAnyG P ops Q tl S f (listed.setIfInBounds i true) (a.put oi.dst v) w → wpAnyG P ops Q tl S (f + 1) listed a w := by
  have valid : ∀ (S : World → Prop) (listed : Array Bool) (w : World), listed.size = ops.size → Led ops listed → i ∈ Region.ready .any ops listed → Still tl S listed w → rd → S w := by
    intro S listed w hsz hled hr hS h
    rcases hS with ht | hS
    · exfalso
      have htl : tl < ops.size := by
        rcases Nat.lt_or_ge tl listed.size with h1 | h1
        · omega
        · simp [Array.getElem?_eq_none h1] at ht
      have h2 := hled.clo 8 [tl] (fun j hj => by simp at hj; subst hj; exact ht) i (hrd h htl)
      have h3 := (mem_ready.1 hr).1
      have hlt : i < listed.size := by rw [hsz]; exact ready_lt hr
      simp [hlt] at h2 h3
      rw [h2] at h3
      cases h3
    · exact hS
  have moved : ∀ (S : World → Prop) (listed : Array Bool) (w : World), listed.size = ops.size → i ∈ Region.ready .any ops listed → (Still tl S (listed.setIfInBounds i true) w ↔ Still tl S listed w) := by
    intro S listed w hsz hr
    unfold Still
    rw [getD_set_ne false hne]
  intro f
  induction f with
  | zero =>
    intro S listed a w hsz hled _ hr hy hS H
    refine ⟨fun h => (by rw [h] at hr; cases hr), fun j hj => ?_⟩
    by_cases hji : j = i
    · subst hji
      exact hy.wpOp hi (valid _ _ _ hsz hled hr hS) ⟨S, fun _ h => h, (moved _ _ _ hsz hr).2 hS, H⟩
    · have := ready_mono hj hji
      rw [H.1] at this
      cases this
  | succ f ih =>
    intro S listed a w hsz hled hfree hr hy hS H
    refine ⟨fun h => (by rw [h] at hr; cases hr), fun j hj => ?_⟩
    by_cases hji : j = i
    · subst hji
      exact hy.wpOp hi (valid _ _ _ hsz hled hr hS) ⟨S, fun _ h => h, (moved _ _ _ hsz hr).2 hS, H⟩
    · have h1 := H.2 j (ready_mono hj hji)
      obtain ⟨hjun, oj, hoj, hall⟩ := mem_ready.1 hj
      have hnot : ∀ e ∈ oj.after, Region.binds .any e = true → e.on ≠ i := fun e he hb heq => by
        have h1 := hall e he hb
        have h0 := (mem_ready.1 hr).1
        rw [heq] at h1
        have hlt : i < listed.size := by rw [hsz]; exact ready_lt hr
        simp [hlt] at h0 h1
        rw [h0] at h1
        cases h1
      have h2 := wpOp_putIf hoj (hfree j oj hoj hji hjun hnot) (fun cs b => hsel i oi cs b hi) (fun cs b => hsel j oj cs b hoj) hQ hy h1
      refine wpOp_mono (fun a' w' h3 => ?_) h2
      obtain ⟨hy', S', hsub, hS', hG⟩ := h3
      have hsz' : (listed.setIfInBounds j true).size = ops.size := by simp [hsz]
      have hr' := ready_mono hr (Ne.symm hji)
      rw [Array.setIfInBounds_comm _ _ (Ne.symm hji)] at hS' hG
      have hS2 := (moved _ _ _ hsz' hr').1 hS'
      refine ⟨S', hsub, hS2, ih S' _ a' w' hsz' (hled.step hsz hj) (fun k ok hk hki hun hno => ?_) hr' (hy'.elim (fun ⟨x, y⟩ => .inl ⟨x, fun w h => y w fun r => hsub w (h r)⟩) .inr) hS2 hG⟩
      refine hfree k ok hk hki ?_ hno
      by_cases hjk : j = k
      · subst hjk; exact hjun
      · rw [getD_set_ne true hjk] at hun; exact hun

theorem tailOf_waits {P : Program} {ops : Array Oper} (ht : tailOf P ops < ops.size) {r : Nat} {o : Oper} (ho : ops[r]? = some o) (hr : asks P o = 1) : r ∈ clo ops 8 [tailOf P ops] := by
  unfold tailOf at ht ⊢
  split at ht
  · rename_i e he
    have h1 := List.find?_some he
    simp only [Bool.and_eq_true, List.all_eq_true, List.mem_range] at h1
    have h2 := h1.2 r (Array.getElem?_eq_some_iff.1 ho).1
    simp only [ho, hr] at h2
    simpa using h2
  · omega

theorem tailOf_loud {P : Program} {ops : Array Oper} {i : Nat} {o : Oper} (ho : ops[i]? = some o) (hq : Nat.ble (asks P o) 1 = true) : i ≠ tailOf P ops := by
  intro e
  have hlt : i < ops.size := (Array.getElem?_eq_some_iff.1 ho).1
  have hlt' : tailOf P ops < ops.size := by omega
  unfold tailOf at e hlt'
  split at e
  · rename_i e' he
    have h1 := List.find?_some he
    simp only [Bool.and_eq_true] at h1
    subst e
    have h2 := h1.1
    rw [ho] at h2
    simp only [beq_iff_eq] at h2
    rw [h2] at hq
    simp at hq
  · omega

theorem compD_sound {P : Program} {n : Nat} {ops : Array Oper} {E : List PanicEntry → World → Prop} {Q : Exit → Env → World → Prop} (hsel : Region.noSelect ops = true) :
    ∀ (f : Nat) (listed : Array Bool) (S : World → Prop) (dec : List Nat) (ρ : Env) (a : Act) (w : World), Agree n ρ a → listed.size = ops.size → Led ops listed → Still (tailOf P ops) S listed w →
      compD P n ops E (Q .normal) (tailOf P ops) f listed S dec ρ w → wpAnyG P ops (lift n E Q) (tailOf P ops) S f listed a w := by
  intro f
  induction f with
  | zero =>
    intro listed S dec ρ a w h hsz hled hS hc
    unfold compD at hc
    split at hc
    · rename_i hr
      exact ⟨hr, ρ, h, hc⟩
    · cases hc
  | succ f ih =>
    intro listed S dec ρ a w h hsz hled hS hc
    unfold compD at hc
    split at hc
    · rename_i hr
      exact ⟨fun _ => ⟨ρ, h, hc⟩, by rw [hr]; simp⟩
    · rename_i i₀ rs hr
      split at hc
      · rename_i i hf
        split at hc
        · cases hc
        · rename_i o ho
          have hmem : i ∈ Region.ready .any ops listed := by rw [hr]; exact List.mem_of_find?_eq_some hf
          have hsome := List.find?_some hf
          simp only [Bool.and_eq_true, ho] at hsome
          have hfree := Region.free_spec (md := .any) (listed := listed) ho hsome.2
          have hne := tailOf_loud ho hsome.1
          have hS' : Still (tailOf P ops) S (listed.setIfInBounds i true) w := by
            unfold Still; rw [getD_set_ne false hne]; exact hS
          have hsz' : (listed.setIfInBounds i true).size = ops.size := by simp [hsz]
          obtain ⟨b, dec', ρ', h', hw, hgo⟩ := guardX_sound h hc
          cases b with
          | true =>
            obtain ⟨v, ρ'', hy, h'', hK⟩ := stepQ_sound (o := easy ops dec' ρ' o) h' (by unfold Region.wanted at hw ⊢; rw [(easy_dst ops dec' ρ' o).2]; exact hw) hgo
            replace hy := easy_yields h' hy
            rw [(easy_dst ops dec' ρ' o).1] at h''
            exact wpAnyG_first ho (Region.noSelect_spec hsel) (lift_panic _ _) hne (fun h1 ht => tailOf_waits ht ho h1) f S listed a w hsz hled hfree hmem hy hS
              (ih _ _ _ _ _ _ h'' hsz' (hled.step hsz hmem) hS' hK)
          | false =>
            simp only at hgo
            split at hgo
            · rename_i hd
              exact wpAnyG_first (v := undef) (rd := False) ho (Region.noSelect_spec hsel) (lift_panic _ _) hne (fun h1 => h1.elim) f S listed a w hsz hled hfree hmem (.inr ⟨hw, rfl⟩) hS
                (ih _ _ _ _ _ _ (h'.put hd undef) hsz' (hled.step hsz hmem) hS' hgo)
            · cases hgo
      · refine ⟨fun h0 => (by rw [h0] at hr; cases hr), ?_⟩
        intro i hi
        have hi' := hi
        rw [hr] at hi'
        replace hc := allP_mem hc hi'
        have hsz' : (listed.setIfInBounds i true).size = ops.size := by simp [hsz]
        split at hc
        · cases hc
        · rename_i o ho
          obtain ⟨b, dec', ρ', h', hw, hgo⟩ := guardX_sound h hc
          cases b with
          | true =>
            refine wpOp_of_wp ho hw ?_
            refine Oper.wp_mono (fun a' w' hn => ?_) (stepX_sound (Q := Q) h' hgo)
            obtain ⟨ρ'', h'', hk⟩ := hn
            unfold keeps at hk
            split at hk
            · rename_i ht
              exact ⟨S, fun _ h => h, .inl ht, ih _ _ _ _ _ _ h'' hsz' (hled.step hsz hi) (.inl ht) hk⟩
            · obtain ⟨S', hs1, hs2, hk⟩ := hk
              exact ⟨S', hs1, .inr hs2, ih _ _ _ _ _ _ h'' hsz' (hled.step hsz hi) (.inr hs2) hk⟩
          | false =>
            simp only at hgo
            split at hgo
            · rename_i hd
              unfold wpOp
              simp only [ho, hw, Bool.false_eq_true, if_false]
              have hS' : Still (tailOf P ops) S (listed.setIfInBounds i true) w := by
                rcases hS with hS | hS
                · exact .inl (getD_set_true hS)
                · exact .inr hS
              exact ⟨S, fun _ h => h, hS', ih _ _ _ _ _ _ (h'.put hd undef) hsz' (hled.step hsz hi) hS' hgo⟩
            · cases hgo

end Go.Sx
namespace Go.Sx
open Go

theorem CALL.mono {P : Program} {f : FuncId} {args : List Value} {w : World} {E : List PanicEntry → World → Prop} {K K' : Value → World → Prop} (h : CALL P f args w E K) (hk : ∀ v w', K v w' → K' v w') : CALL P f args w E K' :=
  ⟨h.1, h.2.mono fun e w' he => by cases e <;> first | exact hk _ _ he | exact he⟩

theorem CALLV.mono {P : Program} {v : Value} {args : List Value} {w : World} {E : List PanicEntry → World → Prop} {K K' : Value → World → Prop} (h : CALLV P v args w E K) (hk : ∀ v w', K v w' → K' v w') : CALLV P v args w E K' := by
  obtain ⟨f, a, b, e, h⟩ := h
  exact ⟨f, a, b, e, h.mono hk⟩

theorem RUN.mono {P : Program} {s : Sem Value} {w : World} {K K' : Value → World → Prop} (h : RUN P s w K) (hk : ∀ v w', K v w' → K' v w') : RUN P s w K' := by
  unfold RUN at *
  split
  · rename_i e; rw [e] at h; exact hk _ _ h
  · rename_i e
    split at h
    · rename_i e'; exact absurd e' (e _ _)
    · exact h

theorem RUNU.mono {P : Program} {s : Sem Unit} {w : World} {K K' : World → Prop} (h : RUNU P s w K) (hk : ∀ w', K w' → K' w') : RUNU P s w K' := by
  unfold RUNU at *
  split
  · rename_i e; rw [e] at h; exact hk _ h
  · rename_i e
    split at h
    · rename_i e'; exact absurd e' (e _ _)
    · exact h

theorem set_other {ρ : Env} {d : Nat} {v : Option Value} {j : Nat} (h : j ≠ d) : (ρ.set d v) j = ρ j := by
  unfold Env.set
  cases hb : Nat.beq j d with
  | false => rfl
  | true => exact absurd (Nat.eq_of_beq_eq_true hb) h

theorem set_same {ρ : Env} {d : Nat} {v : Option Value} : (ρ.set d v) d = v := by
  unfold Env.set
  cases hb : Nat.beq d d with
  | false => simp at hb
  | true => rfl

theorem put_other {ρ : Env} {d : Option Nat} {v : Option Value} {j : Nat} (h : d ≠ some j) : (ρ.put d v) j = ρ j := by
  cases d with
  | none => rfl
  | some d => exact set_other (fun e => h (by rw [e]))

theorem stepX_mono {P : Program} {n : Nat} {o : Oper} {ρ : Env} {E : List PanicEntry → World → Prop} {w : World} {K K' : Env → World → Prop}
    (hs : stepX P n o ρ E w K) (hk : ∀ ρ' w', (∀ j, o.dst ≠ some j → ρ' j = ρ j) → K ρ' w' → K' ρ' w') : stepX P n o ρ E w K' := by
  unfold stepX at hs ⊢
  split at hs
  · cases hs
  rename_i hd
  obtain ⟨dst, op, type, pos, after, guard⟩ := o
  have put : ∀ v w', K (ρ.put dst v) w' → K' (ρ.put dst v) w' := fun v w' => hk _ _ fun j hj => put_other hj
  have gen : ∀ (hm : (match known ρ op.operands.toList with
      | false => False
      | true =>
        match opV ρ { dst, op, type, pos, after, guard } with
        | some s => match asks P { dst, op, type, pos, after, guard } with
          | 0 => PURE P s fun v => K (ρ.put dst (some v)) w
          | _ => RUN P s w fun v w => K (ρ.put dst (some v)) w
        | none => match opU ρ { dst, op, type, pos, after, guard } with
          | some s => RUNU P s w fun w => K (ρ.put dst (some undef)) w
          | none => False)), (match known ρ op.operands.toList with
      | false => False
      | true =>
        match opV ρ { dst, op, type, pos, after, guard } with
        | some s => match asks P { dst, op, type, pos, after, guard } with
          | 0 => PURE P s fun v => K' (ρ.put dst (some v)) w
          | _ => RUN P s w fun v w => K' (ρ.put dst (some v)) w
        | none => match opU ρ { dst, op, type, pos, after, guard } with
          | some s => RUNU P s w fun w => K' (ρ.put dst (some undef)) w
          | none => False) := by
    intro hm
    cases hkn : known ρ op.operands.toList with
    | false => rw [hkn] at hm; exact hm
    | true =>
      rw [hkn] at hm
      simp only at hm ⊢
      split
      · rename_i s hsv
        rw [hsv] at hm
        simp only at hm ⊢
        split
        · rename_i h0
          rw [h0] at hm
          obtain ⟨v, h1, h2⟩ := hm
          exact ⟨v, h1, put _ _ h2⟩
        · rename_i h0
          split at hm
          · rename_i h1; exact absurd h1 h0
          · exact RUN.mono hm fun v w' => put _ _
      · rename_i hsv
        rw [hsv] at hm
        simp only at hm
        split
        · rename_i s hsu
          rw [hsu] at hm
          exact RUNU.mono hm fun w' => put _ _
        · rename_i hsu
          rw [hsu] at hm
          exact hm
  cases op with
  | move x => exact put _ _ hs
  | assign x => exact put _ _ hs
  | panic x =>
    simp only at hs ⊢
    exact hs
  | call c =>
    obtain ⟨callee, args, argTypes⟩ := c
    cases callee with
    | value x =>
      cases x with
      | func f =>
        simp only at hs ⊢
        split
        · rename_i hkn; rw [hkn] at hs; exact hs
        · rename_i hkn; rw [hkn] at hs; exact CALL.mono hs fun v w' => put _ _
      | tmp t =>
        simp only at hs ⊢
        split
        · rename_i hkn; rw [hkn] at hs; exact hs
        · rename_i hkn; rw [hkn] at hs; exact CALLV.mono hs fun v w' => put _ _
      | const v =>
        simp only at hs ⊢
        split
        · rename_i hkn; rw [hkn] at hs; exact hs
        · rename_i hkn; rw [hkn] at hs; exact CALLV.mono hs fun v w' => put _ _
      | global g =>
        simp only at hs ⊢
        split
        · rename_i hkn; rw [hkn] at hs; exact hs
        · rename_i hkn; rw [hkn] at hs; exact CALLV.mono hs fun v w' => put _ _
    | builtin b => exact gen hs
    | invoke r m =>
      simp only at hs ⊢
      split
      · rename_i hkn; rw [hkn] at hs; exact hs
      · rename_i hkn
        rw [hkn] at hs
        obtain ⟨t, x, f, rcv, h1, h2, h3⟩ := hs
        exact ⟨t, x, f, rcv, h1, h2, CALL.mono h3 fun v w' => put _ _⟩
  | _ => exact gen hs

theorem stepQ_mono {P : Program} {n : Nat} {o : Oper} {ρ : Env} {S : World → Prop} {w : World} {K K' : Env → Prop}
    (hs : stepQ P n o ρ S w K) (hk : ∀ ρ', (∀ j, o.dst ≠ some j → ρ' j = ρ j) → K ρ' → K' ρ') : stepQ P n o ρ S w K' := by
  unfold stepQ at hs ⊢
  split at hs
  · cases hs
  rename_i hd
  obtain ⟨dst, op, type, pos, after, guard⟩ := o
  have put : ∀ v, K (ρ.put dst v) → K' (ρ.put dst v) := fun v => hk _ fun j hj => put_other hj
  have gen : ∀ (hm : (match known ρ op.operands.toList with
      | false => False
      | true =>
        match opV ρ { dst, op, type, pos, after, guard } with
        | some s => match asks P { dst, op, type, pos, after, guard } with
          | 0 => PURE P s fun v => K (ρ.put dst (some v))
          | 1 => READ P S s w fun v => K (ρ.put dst (some v))
          | _ => False
        | none => False)), (match known ρ op.operands.toList with
      | false => False
      | true =>
        match opV ρ { dst, op, type, pos, after, guard } with
        | some s => match asks P { dst, op, type, pos, after, guard } with
          | 0 => PURE P s fun v => K' (ρ.put dst (some v))
          | 1 => READ P S s w fun v => K' (ρ.put dst (some v))
          | _ => False
        | none => False) := by
    intro hm
    cases hkn : known ρ op.operands.toList with
    | false => rw [hkn] at hm; exact hm
    | true =>
      rw [hkn] at hm
      simp only at hm ⊢
      split
      · rename_i s hsv
        rw [hsv] at hm
        simp only at hm ⊢
        split at hm
        · obtain ⟨v, h1, h3⟩ := hm
          exact ⟨v, h1, put _ h3⟩
        · obtain ⟨v, h1, h2, h3⟩ := hm
          exact ⟨v, h1, h2, put _ h3⟩
        · cases hm
      · rename_i hsv
        rw [hsv] at hm
        exact hm
  cases op with
  | move x => exact put _ hs
  | assign x => exact put _ hs
  | _ => exact gen hs

def guardDst (ops : Array Oper) (o : Oper) : Option Nat := o.guard.bind fun g => (ops[g.1]?).bind (·.dst)

theorem guardX_mono {ops : Array Oper} {o : Oper} {dec : List Nat} {ρ : Env} {go go' : Bool → List Nat → Env → Prop}
    (hg : guardX ops o dec ρ go) (hk : ∀ b dec' ρ', (∀ j, guardDst ops o ≠ some j → ρ' j = ρ j) → go b dec' ρ' → go' b dec' ρ') : guardX ops o dec ρ go' := by
  unfold guardX at hg ⊢
  split at hg
  · exact hk _ _ _ (fun _ _ => rfl) hg
  rename_i j want hn
  split at hg
  · cases hg
  rename_i t ht
  have hgd : guardDst ops o = some t := by simp [guardDst, hn, ht]
  split at hg
  · split at hg
    · exact hk _ _ _ (fun _ _ => rfl) hg
    · exact hk _ _ _ (fun _ _ => rfl) hg
    · cases hg
  · split at hg
    · rename_i v hv
      rcases hg with ⟨e, hg⟩ | ⟨e, hg⟩
      · exact .inl ⟨e, hk _ _ _ (fun j hj => set_other (fun e => hj (by rw [hgd, e]))) hg⟩
      · exact .inr ⟨e, hk _ _ _ (fun j hj => set_other (fun e => hj (by rw [hgd, e]))) hg⟩
    · cases hg

end Go.Sx
namespace Go.Sx
open Go

/-- Slots that a list of operations of a region may turn. -/
def opsDst (ops : Array Oper) : List Oper → List Nat
  | [] => []
  | o :: l => o.dst.toList ++ (guardDst ops o).toList ++ opsDst ops l

theorem compR_mono {P : Program} {n : Nat} {ops : Array Oper} {E : List PanicEntry → World → Prop} {Q Q' : Env → World → Prop} :
    ∀ (l : List Oper) (i : Nat) (dec : List Nat) (ρ : Env) (w : World), compR P n ops E Q i l dec ρ w →
      (∀ ρ' w', (∀ j, j ∉ opsDst ops l → ρ' j = ρ j) → Q ρ' w' → Q' ρ' w') → compR P n ops E Q' i l dec ρ w
  | [], _, _, ρ, w, hc, hk => hk _ _ (fun _ _ => rfl) hc
  | o :: l, i, dec, ρ, w, hc, hk => by
    unfold compR at hc ⊢
    refine guardX_mono hc fun b dec' ρ' h1 hgo => ?_
    cases b with
    | true =>
      refine stepX_mono hgo fun ρ'' w' h2 h3 => ?_
      refine compR_mono l _ _ _ _ h3 fun ρ3 w3 h4 => hk _ _ fun j hj => ?_
      simp only [opsDst, List.mem_append, Option.mem_toList, not_or] at hj
      rw [h4 j hj.2, h2 j (by rw [(easy_dst _ _ _ _).1]; exact hj.1.1), h1 j hj.1.2]
    | false =>
      simp only at hgo ⊢
      split
      · rename_i hd
        rw [hd] at hgo
        refine compR_mono l _ _ _ _ hgo fun ρ3 w3 h4 => hk _ _ fun j hj => ?_
        simp only [opsDst, List.mem_append, Option.mem_toList, not_or] at hj
        rw [h4 j hj.2, put_other hj.1.1, h1 j hj.1.2]
      · rename_i hd
        rw [hd] at hgo
        exact hgo

theorem mem_opsDst {ops : Array Oper} {i : Nat} {o : Oper} (ho : ops[i]? = some o) {j : Nat} (h : j ∉ opsDst ops ops.toList) : o.dst ≠ some j ∧ guardDst ops o ≠ some j := by
  have hm : o ∈ ops.toList := by
    have := Array.mem_of_getElem? ho
    simpa using this
  have key : ∀ l : List Oper, o ∈ l → j ∉ opsDst ops l → o.dst ≠ some j ∧ guardDst ops o ≠ some j := by
    intro l
    induction l with
    | nil => intro h _; cases h
    | cons x l ih =>
      intro hx hj
      simp only [opsDst, List.mem_append, Option.mem_toList, not_or] at hj
      rcases List.mem_cons.1 hx with rfl | hx
      · exact hj.1
      · exact ih hx hj.2
  exact key _ hm h

theorem compD_mono {P : Program} {n : Nat} {ops : Array Oper} {E : List PanicEntry → World → Prop} {Q Q' : Env → World → Prop} {tl : Nat} :
    ∀ (f : Nat) (listed : Array Bool) (S : World → Prop) (dec : List Nat) (ρ : Env) (w : World), compD P n ops E Q tl f listed S dec ρ w →
      (∀ ρ' w', (∀ j, j ∉ opsDst ops ops.toList → ρ' j = ρ j) → Q ρ' w' → Q' ρ' w') → compD P n ops E Q' tl f listed S dec ρ w := by
  intro f
  induction f with
  | zero =>
    intro listed S dec ρ w hc hk
    unfold compD at hc ⊢
    split at hc
    · exact hk _ _ (fun _ _ => rfl) hc
    · cases hc
  | succ f ih =>
    intro listed S dec ρ w hc hk
    unfold compD at hc ⊢
    split at hc
    · exact hk _ _ (fun _ _ => rfl) hc
    · split at hc
      · split at hc
        · cases hc
        · rename_i o ho
          refine guardX_mono hc fun b dec' ρ' h1 hgo => ?_
          cases b with
          | true =>
            refine stepQ_mono hgo fun ρ'' h2 h3 => ?_
            refine ih _ _ _ _ _ h3 fun ρ3 w3 h4 => hk _ _ fun j hj => ?_
            rw [h4 j hj, h2 j (by rw [(easy_dst _ _ _ _).1]; exact (mem_opsDst ho hj).1), h1 j (mem_opsDst ho hj).2]
          | false =>
            simp only at hgo ⊢
            split
            · rename_i hd
              rw [hd] at hgo
              refine ih _ _ _ _ _ hgo fun ρ3 w3 h4 => hk _ _ fun j hj => ?_
              rw [h4 j hj, put_other (mem_opsDst ho hj).1, h1 j (mem_opsDst ho hj).2]
            · rename_i hd
              rw [hd] at hgo
              exact hgo
      · refine allP_mono hc fun i hc => ?_
        split at hc
        · cases hc
        · rename_i o ho
          refine guardX_mono hc fun b dec' ρ' h1 hgo => ?_
          cases b with
          | true =>
            refine stepX_mono hgo fun ρ'' w' h2 h3 => ?_
            unfold keeps at h3 ⊢
            split at h3
            · refine ih _ _ _ _ _ h3 fun ρ3 w3 h4 => hk _ _ fun j hj => ?_
              rw [h4 j hj, h2 j (mem_opsDst ho hj).1, h1 j (mem_opsDst ho hj).2]
            · obtain ⟨S', hs1, hs2, h3⟩ := h3
              refine ⟨S', hs1, hs2, ?_⟩
              refine ih _ _ _ _ _ h3 fun ρ3 w3 h4 => hk _ _ fun j hj => ?_
              rw [h4 j hj, h2 j (mem_opsDst ho hj).1, h1 j (mem_opsDst ho hj).2]
          | false =>
            simp only at hgo ⊢
            split
            · rename_i hd
              rw [hd] at hgo
              refine ih _ _ _ _ _ hgo fun ρ3 w3 h4 => hk _ _ fun j hj => ?_
              rw [h4 j hj, put_other (mem_opsDst ho hj).1, h1 j (mem_opsDst ho hj).2]
            · rename_i hd
              rw [hd] at hgo
              exact hgo

theorem dstsOps_mem {l : List Oper} {j : Nat} (h : j ∉ dstsOps l) {o : Oper} (ho : o ∈ l) : o.dst ≠ some j := by
  induction l with
  | nil => cases ho
  | cons x l ih =>
    unfold dstsOps at h
    rcases List.mem_cons.1 ho with rfl | ho
    · intro e
      rw [e] at h
      simp at h
    · split at h
      · simp only [List.mem_cons, not_or] at h
        exact ih h.2 ho
      · exact ih h ho

theorem region_dsts {i : Nat} {ops : Array Oper} {d : Bool} {j : Nat} (h : j ∉ dsts (.region i ops d)) : j ∉ opsDst ops ops.toList := by
  simp only [dsts, List.mem_append, not_or] at h
  have key : ∀ l : List Oper, (∀ o ∈ l, o ∈ ops.toList) → j ∉ opsDst ops l := by
    intro l
    induction l with
    | nil => intro _ h; cases h
    | cons x l ih =>
      intro hx hj
      simp only [opsDst, List.mem_append, Option.mem_toList] at hj
      rcases hj with (hj | hj) | hj
      · exact dstsOps_mem h.1 (hx x (by simp)) hj
      · refine h.2 (List.mem_filterMap.2 ⟨x, hx x (by simp), hj⟩)
      · exact ih (fun o ho => hx o (by simp [ho])) hj
  exact key _ fun _ h => h

/-! ### Loops -/
theorem loopX_mono {live : List Nat} {ρ ρm : Env} {w : World} {body body' : Env → World → (Env → World → Prop) → Prop}
    (h : loopX live ρ ρm w body) (hb : ∀ ρ' w' K, (∀ j, j ∉ live → ρ' j = ρm j) → body ρ' w' K → body' ρ' w' K) : loopX live ρ ρm w body' := by
  have so : ∀ (σ : Env) (a : Nat) (v : Option Value) (j : Nat), j ≠ a → (σ.set a v) j = σ j := fun _ _ _ _ => set_other
  unfold loopX at h ⊢
  split at h
  · obtain ⟨I, μ, h0, hs⟩ := h
    exact ⟨I, μ, h0, fun w hI => hb _ _ _ (fun _ _ => rfl) (hs w hI)⟩
  · split at h
    · obtain ⟨I, μ, h0, hs⟩ := h
      exact ⟨I, μ, h0, fun x w hI => hb _ _ _ (fun j hj => by simp at hj; simp [so, hj]) (hs x w hI)⟩
    · cases h
  · split at h
    · obtain ⟨I, μ, h0, hs⟩ := h
      exact ⟨I, μ, h0, fun x y w hI => hb _ _ _ (fun j hj => by simp at hj; simp [so, hj]) (hs x y w hI)⟩
    · cases h
  · split at h
    · obtain ⟨I, μ, h0, hs⟩ := h
      exact ⟨I, μ, h0, fun x y z w hI => hb _ _ _ (fun j hj => by simp at hj; simp [so, hj]) (hs x y z w hI)⟩
    · cases h
  · split at h
    · obtain ⟨I, μ, h0, hs⟩ := h
      exact ⟨I, μ, h0, fun x y z u w hI => hb _ _ _ (fun j hj => by simp at hj; simp [so, hj]) (hs x y z u w hI)⟩
    · cases h
  · split at h
    · obtain ⟨I, μ, h0, hs⟩ := h
      exact ⟨I, μ, h0, fun x y z u t w hI => hb _ _ _ (fun j hj => by simp at hj; simp [so, hj]) (hs x y z u t w hI)⟩
    · cases h
  · cases h

theorem allIn_mem {l ms : List Nat} (h : allIn l ms = true) : ∀ a ∈ l, a ∈ ms := by
  induction l with
  | nil => intro a ha; cases ha
  | cons x l ih =>
    unfold allIn at h
    split at h
    · rename_i he
      intro a ha
      rcases List.mem_cons.1 ha with rfl | ha
      · simp only [Bool.and_eq_true] at he; simpa using he.1
      · exact ih h a ha
    · cases h

theorem allIn_nodup {l ms : List Nat} (h : allIn l ms = true) : l.Nodup := by
  induction l with
  | nil => simp
  | cons x l ih =>
    unfold allIn at h
    split at h
    · rename_i he
      simp only [Bool.and_eq_true, Bool.not_eq_true'] at he
      exact List.nodup_cons.2 ⟨by simpa using he.2, ih h⟩
    · cases h

theorem forget_other {ρ : Env} {l : List Nat} {j : Nat} (h : j ∉ l) : (ρ.forget l) j = ρ j := by
  unfold Env.forget
  have : l.elem j = false := by simpa using h
  rw [this]

theorem forget_in {ρ : Env} {l : List Nat} {j : Nat} (h : j ∈ l) : (ρ.forget l) j = none := by
  unfold Env.forget
  have : l.elem j = true := by simpa using h
  rw [this]

theorem joinX_mono {live : List Nat} {ρm : Env} {first first' : (Env → World → Prop) → Prop} {rest rest' : Env → World → Prop} (h : joinX live ρm first rest)
    (h1 : ∀ K, first K → first' K) (h2 : ∀ ρ w, (∀ j, j ∉ live → ρ j = ρm j) → rest ρ w → rest' ρ w) : joinX live ρm first' rest' := by
  have so : ∀ (σ : Env) (a : Nat) (v : Option Value) (j : Nat), j ≠ a → (σ.set a v) j = σ j := fun _ _ _ _ => set_other
  unfold joinX at h ⊢
  split at h
  · obtain ⟨J, hf, hr⟩ := h
    exact ⟨J, h1 _ hf, fun w hJ => h2 _ _ (fun _ _ => rfl) (hr w hJ)⟩
  · obtain ⟨J, hf, hr⟩ := h
    exact ⟨J, h1 _ hf, fun x w hJ => h2 _ _ (fun j hj => by simp at hj; simp [so, hj]) (hr x w hJ)⟩
  · obtain ⟨J, hf, hr⟩ := h
    exact ⟨J, h1 _ hf, fun x y w hJ => h2 _ _ (fun j hj => by simp at hj; simp [so, hj]) (hr x y w hJ)⟩
  · obtain ⟨J, hf, hr⟩ := h
    exact ⟨J, h1 _ hf, fun x y z w hJ => h2 _ _ (fun j hj => by simp at hj; simp [so, hj]) (hr x y z w hJ)⟩
  · cases h

/-- What comes of code, where more is said, and of what is kept. -/
theorem comp_keep {P : Program} {n : Nat} {an : List (Nat × List Nat)} {E : List PanicEntry → World → Prop} :
    ∀ (c : Code) (sc : Bool) (Q Q' : Exit → Env → World → Prop) (ρ : Env) (w : World), comp P n an E sc c Q ρ w →
      (∀ e ρ' w', (∀ j, j ∉ dsts c → ρ' j = ρ j) → Q e ρ' w' → Q' e ρ' w') → comp P n an E sc c Q' ρ w := by
  intro c
  induction c with
  | skip => intro sc Q Q' ρ w h hk; exact hk _ _ _ (fun _ _ => rfl) h
  | label l => intro sc Q Q' ρ w h hk; exact hk _ _ _ (fun _ _ => rfl) h
  | exit id => intro sc Q Q' ρ w h hk; exact hk _ _ _ (fun _ _ => rfl) h
  | goto l => intro sc Q Q' ρ w h hk; exact hk _ _ _ (fun _ _ => rfl) h
  | ret => intro sc Q Q' ρ w h hk; exact hk _ _ _ (fun _ _ => rfl) h
  | region i ops d =>
    intro sc Q Q' ρ w h hk
    unfold comp at h ⊢
    cases d with
    | false => exact compR_mono _ _ _ _ _ h fun ρ' w' hj => hk _ _ _ fun j hj' => hj j (region_dsts hj')
    | true =>
      simp only at h ⊢
      split
      · rename_i hf
        rw [hf] at h
        simp only at h ⊢
        split
        · rename_i hc
          rw [hc] at h
          exact compD_mono _ _ _ _ _ _ h fun ρ' w' hj => hk _ _ _ fun j hj' => hj j (region_dsts hj')
        · rename_i hc
          rw [hc] at h
          obtain ⟨S, hS, h⟩ := h
          exact ⟨S, hS, compD_mono _ _ _ _ _ _ h fun ρ' w' hj => hk _ _ _ fun j hj' => hj j (region_dsts hj')⟩
      · rename_i hf
        rw [hf] at h
        exact h
  | seq x y ihx ihy =>
    intro sc Q Q' ρ w h hk
    have plain : ∀ sc', comp P n an E false x (fun e ρ w => match e with
        | .normal => comp P n an E sc' y Q ρ w
        | e => Q e ρ w) ρ w → comp P n an E false x (fun e ρ w => match e with
        | .normal => comp P n an E sc' y Q' ρ w
        | e => Q' e ρ w) ρ w := by
      intro sc' h
      refine ihx false _ _ ρ w h fun e ρ' w' hj he => ?_
      have hx : ∀ j, j ∉ dsts (.seq x y) → ρ' j = ρ j := fun j hj' => hj j (by simp only [dsts, List.mem_append, not_or] at hj'; exact hj'.1)
      cases e with
      | normal =>
        refine ihy sc' _ _ ρ' w' he fun e ρ3 w3 hj3 => hk e _ _ fun j hj' => ?_
        rw [hj3 j (by simp only [dsts, List.mem_append, not_or] at hj'; exact hj'.2), hx j hj']
      | _ => exact hk _ _ _ hx he
    have joined : ∀ sc' live, allIn live (dsts x) = true → joinX live (ρ.forget (dsts x)) (fun K => comp P n an E false x (fun e ρ w => match e with
        | .normal => K ρ w
        | e => Q e ρ w) ρ w) (fun ρ w => comp P n an E sc' y Q ρ w) → joinX live (ρ.forget (dsts x)) (fun K => comp P n an E false x (fun e ρ w => match e with
        | .normal => K ρ w
        | e => Q' e ρ w) ρ w) (fun ρ w => comp P n an E sc' y Q' ρ w) := by
      intro sc' live hall h
      refine joinX_mono h (fun K hf => ihx false _ _ ρ w hf fun e ρ' w' hj he => ?_) (fun ρ' w' hj hr => ihy sc' _ _ ρ' w' hr fun e ρ3 w3 hj3 => hk e _ _ fun j hj' => ?_)
      · cases e with
        | normal => exact he
        | _ => exact hk _ _ _ (fun j hj' => hj j (by simp only [dsts, List.mem_append, not_or] at hj'; exact hj'.1)) he
      · simp only [dsts, List.mem_append, not_or] at hj'
        rw [hj3 j hj'.2, hj j (fun hm => hj'.1 (allIn_mem hall j hm)), forget_other hj'.1]
    unfold comp at h ⊢
    split at h
    · split at h
      · exact plain _ h
      · split at h
        · cases h
        · rename_i hall
          exact joined _ _ hall h
    · split at h
      · split at h
        · cases h
        · rename_i hall
          refine loopX_mono h fun ρ' w' K hρ' hbody => ?_
          refine ihy false _ _ ρ' w' hbody fun e ρ3 w3 hj3 he => ?_
          have hx : ∀ j, j ∉ dsts (.seq x y) → ρ3 j = ρ j := fun j hj' => by
            have hy : j ∉ dsts y := by simp only [dsts, List.mem_append, not_or] at hj'; exact hj'.2
            rw [hj3 j hy, hρ' j (fun hm => hy (allIn_mem hall j hm)), forget_other hy]
          cases e with
          | goto l' => exact he
          | _ => exact hk _ _ _ hx he
      · split at h
        · cases h
        · split at h
          · exact plain _ h
          · split at h
            · cases h
            · rename_i hall
              exact joined _ _ hall h
  | cond x a b iha ihb =>
    intro sc Q Q' ρ w h hk
    unfold comp at h ⊢
    split at h
    · rcases h with ⟨e, h⟩ | ⟨e, h⟩
      · exact .inl ⟨e, iha false _ _ _ _ h fun e ρ' w' hj => hk e _ _ fun j hj' => hj j (by simp only [dsts, List.mem_append, not_or] at hj'; exact hj'.1)⟩
      · exact .inr ⟨e, ihb false _ _ _ _ h fun e ρ' w' hj => hk e _ _ fun j hj' => hj j (by simp only [dsts, List.mem_append, not_or] at hj'; exact hj'.2)⟩
    · cases h
  | block id c ih =>
    intro sc Q Q' ρ w h hk
    unfold comp at h ⊢
    refine ih false _ _ _ _ h fun e ρ' w' hj he => ?_
    cases e with
    | exit id' =>
      simp only at he ⊢
      split
      · rename_i hb; rw [hb] at he; exact hk _ _ _ hj he
      · rename_i hb; rw [hb] at he; exact hk _ _ _ hj he
    | _ => exact hk _ _ _ hj he
  | loop c ih =>
    intro sc Q Q' ρ w h hk
    unfold comp at h ⊢
    split at h
    · cases h
    · rename_i hall
      refine loopX_mono h fun ρ' w' K hρ' hbody => ?_
      refine ih false _ _ ρ' w' hbody fun e ρ3 w3 hj3 he => ?_
      have hx : ∀ j, j ∉ dsts (.loop c) → ρ3 j = ρ j := fun j hj' => by
        have hy : j ∉ dsts c := by simpa [dsts] using hj'
        rw [hj3 j hy, hρ' j (fun hm => hy (allIn_mem hall j hm)), forget_other hy]
      cases e with
      | normal => exact he
      | _ => exact hk _ _ _ hx he
  | scope c ih =>
    intro sc Q Q' ρ w h hk
    unfold comp at h ⊢
    refine ih true _ _ _ _ h fun e ρ' w' hj he => ?_
    cases e with
    | goto l => exact he
    | _ => exact hk _ _ _ hj he
  | rangeFunc f ps a b => intro sc Q Q' ρ w h hk; exact h.elim
  | refuse s => intro sc Q Q' ρ w h hk; exact h.elim

end Go.Sx
namespace Go.Sx
open Go

/-- What a loop's proof is good for, said of environments. -/
theorem loopX_out {live : List Nat} {ρ ρm : Env} {w : World} {body : Env → World → (Env → World → Prop) → Prop} (hnd : live.Nodup)
    (hmono : ∀ σ w K K', (∀ σ w, K σ w → K' σ w) → body σ w K → body σ w K') (h : loopX live ρ ρm w body) :
    ∃ (I : Env → World → Prop) (μ : Env → World → Nat),
      (∃ σ, I σ w ∧ ∀ j ∈ live, σ j = ρ j) ∧
      (∀ σ w, I σ w → (∀ j, j ∉ live → σ j = ρm j) ∧ (∀ j ∈ live, ∃ x, σ j = some x)) ∧
      (∀ σ σ' w, (∀ j ∈ live, σ j = σ' j) → μ σ w = μ σ' w) ∧
      (∀ σ w, I σ w → body σ w (fun σ' w' => ∃ σ1, I σ1 w' ∧ μ σ1 w' < μ σ w ∧ ∀ j ∈ live, σ1 j = σ' j)) := by
  unfold loopX at h
  split at h
  · obtain ⟨I, μ, h0, hs⟩ := h
    refine ⟨fun σ w => σ = ρm ∧ I w, fun _ w => μ w, ⟨ρm, ⟨rfl, h0⟩, by simp⟩, ?_, ?_, ?_⟩
    · rintro σ w ⟨rfl, _⟩; simp
    · simp
    · rintro σ w ⟨rfl, hI⟩
      exact hmono _ _ _ _ (fun σ' w' hn => ⟨_, ⟨rfl, hn.1⟩, hn.2, by simp⟩) (hs w hI)
  · rename_i a
    split at h
    · rename_i x hx
      obtain ⟨I, μ, h0, hs⟩ := h
      refine ⟨fun σ w => ∃ x, σ = ρm.set a (some x) ∧ I x w, fun σ w => match σ a with | some x => μ x w | none => 0, ⟨_, ⟨x, rfl, h0⟩, by simp [set_same, hx]⟩, ?_, ?_, ?_⟩
      · rintro σ w ⟨x, rfl, _⟩
        refine ⟨fun j hj => set_other (by simpa using hj), fun j hj => ?_⟩
        obtain rfl : j = a := by simpa using hj
        exact ⟨x, set_same⟩
      · intro σ σ' w hj
        dsimp only
        rw [hj a (by simp)]
      · rintro σ w ⟨x, rfl, hI⟩
        refine hmono _ _ _ _ (fun σ' w' hn => ?_) (hs x w hI)
        split at hn
        · rename_i x' hx'
          refine ⟨_, ⟨x', rfl, hn.1⟩, ?_, ?_⟩
          · simpa [set_same] using hn.2
          · intro j hj
            obtain rfl : j = a := by simpa using hj
            rw [set_same, hx']
        · cases hn
    · cases h
  · rename_i a b
    have nba : a ≠ b := by simp at hnd; exact hnd
    split at h
    · rename_i x y hx hy
      obtain ⟨I, μ, h0, hs⟩ := h
      refine ⟨fun σ w => ∃ x y, σ = (ρm.set a (some x)).set b (some y) ∧ I x y w, fun σ w => match σ a, σ b with | some x, some y => μ x y w | _, _ => 0, ⟨_, ⟨x, y, rfl, h0⟩, ?_⟩, ?_, ?_, ?_⟩
      · intro j hj
        simp at hj
        rcases hj with rfl | rfl <;> simp [set_same, set_other, nba, hx, hy]
      · rintro σ w ⟨x, y, rfl, _⟩
        refine ⟨fun j hj => ?_, fun j hj => ?_⟩
        · simp at hj; simp [set_other, hj]
        · simp at hj
          rcases hj with rfl | rfl <;> simp [set_same, set_other, nba]
      · intro σ σ' w hj
        dsimp only
        rw [hj a (by simp), hj b (by simp)]
      · rintro σ w ⟨x, y, rfl, hI⟩
        refine hmono _ _ _ _ (fun σ' w' hn => ?_) (hs x y w hI)
        split at hn
        · rename_i x' y' hx' hy'
          refine ⟨_, ⟨x', y', rfl, hn.1⟩, ?_, ?_⟩
          · simpa [set_same, set_other, nba] using hn.2
          · intro j hj
            simp at hj
            rcases hj with rfl | rfl <;> simp [set_same, set_other, nba, hx', hy']
        · cases hn
    · cases h
  · rename_i a b c
    have n1 : a ≠ b := by simp at hnd; exact hnd.1.1
    have n2 : a ≠ c := by simp at hnd; exact hnd.1.2
    have n3 : b ≠ c := by simp at hnd; exact hnd.2
    split at h
    · rename_i x y z hx hy hz
      obtain ⟨I, μ, h0, hs⟩ := h
      refine ⟨fun σ w => ∃ x y z, σ = ((ρm.set a (some x)).set b (some y)).set c (some z) ∧ I x y z w, fun σ w => match σ a, σ b, σ c with | some x, some y, some z => μ x y z w | _, _, _ => 0, ⟨_, ⟨x, y, z, rfl, h0⟩, ?_⟩, ?_, ?_, ?_⟩
      · intro j hj
        simp at hj
        rcases hj with rfl | rfl | rfl <;> simp [set_same, set_other, n1, n2, n3, hx, hy, hz]
      · rintro σ w ⟨x, y, z, rfl, _⟩
        refine ⟨fun j hj => ?_, fun j hj => ?_⟩
        · simp at hj; simp [set_other, hj]
        · simp at hj
          rcases hj with rfl | rfl | rfl <;> simp [set_same, set_other, n1, n2, n3]
      · intro σ σ' w hj
        dsimp only
        rw [hj a (by simp), hj b (by simp), hj c (by simp)]
      · rintro σ w ⟨x, y, z, rfl, hI⟩
        refine hmono _ _ _ _ (fun σ' w' hn => ?_) (hs x y z w hI)
        split at hn
        · rename_i x' y' z' hx' hy' hz'
          refine ⟨_, ⟨x', y', z', rfl, hn.1⟩, ?_, ?_⟩
          · simpa [set_same, set_other, n1, n2, n3] using hn.2
          · intro j hj
            simp at hj
            rcases hj with rfl | rfl | rfl <;> simp [set_same, set_other, n1, n2, n3, hx', hy', hz']
        · cases hn
    · cases h
  · rename_i a b c d
    have n1 : a ≠ b := by simp at hnd; exact hnd.1.1
    have n2 : a ≠ c := by simp at hnd; exact hnd.1.2.1
    have n3 : a ≠ d := by simp at hnd; exact hnd.1.2.2
    have n4 : b ≠ c := by simp at hnd; exact hnd.2.1.1
    have n5 : b ≠ d := by simp at hnd; exact hnd.2.1.2
    have n6 : c ≠ d := by simp at hnd; exact hnd.2.2
    split at h
    · rename_i x y z u hx hy hz hu
      obtain ⟨I, μ, h0, hs⟩ := h
      refine ⟨fun σ w => ∃ x y z u, σ = (((ρm.set a (some x)).set b (some y)).set c (some z)).set d (some u) ∧ I x y z u w, fun σ w => match σ a, σ b, σ c, σ d with | some x, some y, some z, some u => μ x y z u w | _, _, _, _ => 0, ⟨_, ⟨x, y, z, u, rfl, h0⟩, ?_⟩, ?_, ?_, ?_⟩
      · intro j hj
        simp at hj
        rcases hj with rfl | rfl | rfl | rfl <;> simp [set_same, set_other, n1, n2, n3, n4, n5, n6, hx, hy, hz, hu]
      · rintro σ w ⟨x, y, z, u, rfl, _⟩
        refine ⟨fun j hj => ?_, fun j hj => ?_⟩
        · simp at hj; simp [set_other, hj]
        · simp at hj
          rcases hj with rfl | rfl | rfl | rfl <;> simp [set_same, set_other, n1, n2, n3, n4, n5, n6]
      · intro σ σ' w hj
        dsimp only
        rw [hj a (by simp), hj b (by simp), hj c (by simp), hj d (by simp)]
      · rintro σ w ⟨x, y, z, u, rfl, hI⟩
        refine hmono _ _ _ _ (fun σ' w' hn => ?_) (hs x y z u w hI)
        split at hn
        · rename_i x' y' z' u' hx' hy' hz' hu'
          refine ⟨_, ⟨x', y', z', u', rfl, hn.1⟩, ?_, ?_⟩
          · simpa [set_same, set_other, n1, n2, n3, n4, n5, n6] using hn.2
          · intro j hj
            simp at hj
            rcases hj with rfl | rfl | rfl | rfl <;> simp [set_same, set_other, n1, n2, n3, n4, n5, n6, hx', hy', hz', hu']
        · cases hn
    · cases h
  · rename_i a b c d e
    have n1 : a ≠ b := by simp at hnd; exact hnd.1.1
    have n2 : a ≠ c := by simp at hnd; exact hnd.1.2.1
    have n3 : a ≠ d := by simp at hnd; exact hnd.1.2.2.1
    have n4 : b ≠ c := by simp at hnd; exact hnd.2.1.1
    have n5 : b ≠ d := by simp at hnd; exact hnd.2.1.2.1
    have n6 : c ≠ d := by simp at hnd; exact hnd.2.2.1.1
    have m1 : a ≠ e := by simp at hnd; exact hnd.1.2.2.2
    have m2 : b ≠ e := by simp at hnd; exact hnd.2.1.2.2
    have m3 : c ≠ e := by simp at hnd; exact hnd.2.2.1.2
    have m4 : d ≠ e := by simp at hnd; exact hnd.2.2.2
    split at h
    · rename_i x y z u t hx hy hz hu ht
      obtain ⟨I, μ, h0, hs⟩ := h
      refine ⟨fun σ w => ∃ x y z u t, σ = ((((ρm.set a (some x)).set b (some y)).set c (some z)).set d (some u)).set e (some t) ∧ I x y z u t w, fun σ w => match σ a, σ b, σ c, σ d, σ e with | some x, some y, some z, some u, some t => μ x y z u t w | _, _, _, _, _ => 0, ⟨_, ⟨x, y, z, u, t, rfl, h0⟩, ?_⟩, ?_, ?_, ?_⟩
      · intro j hj
        simp at hj
        rcases hj with rfl | rfl | rfl | rfl | rfl <;> simp [set_same, set_other, n1, n2, n3, n4, n5, n6, m1, m2, m3, m4, hx, hy, hz, hu, ht]
      · rintro σ w ⟨x, y, z, u, t, rfl, _⟩
        refine ⟨fun j hj => ?_, fun j hj => ?_⟩
        · simp at hj; simp [set_other, hj]
        · simp at hj
          rcases hj with rfl | rfl | rfl | rfl | rfl <;> simp [set_same, set_other, n1, n2, n3, n4, n5, n6, m1, m2, m3, m4]
      · intro σ σ' w hj
        dsimp only
        rw [hj a (by simp), hj b (by simp), hj c (by simp), hj d (by simp), hj e (by simp)]
      · rintro σ w ⟨x, y, z, u, t, rfl, hI⟩
        refine hmono _ _ _ _ (fun σ' w' hn => ?_) (hs x y z u t w hI)
        split at hn
        · rename_i x' y' z' u' t' hx' hy' hz' hu' ht'
          refine ⟨_, ⟨x', y', z', u', t', rfl, hn.1⟩, ?_, ?_⟩
          · simpa [set_same, set_other, n1, n2, n3, n4, n5, n6, m1, m2, m3, m4] using hn.2
          · intro j hj
            simp at hj
            rcases hj with rfl | rfl | rfl | rfl | rfl <;> simp [set_same, set_other, n1, n2, n3, n4, n5, n6, m1, m2, m3, m4, hx', hy', hz', hu', ht']
        · cases hn
    · cases h
  · cases h

end Go.Sx
namespace Go.Sx
open Go

section
variable {P : Program} {n : Nat} {an : List (Nat × List Nat)} {E : List PanicEntry → World → Prop}

/-- A loop of the machine out of a loop of environments. -/
theorem loop_sound {live ms : List Nat} {ρ : Env} {w : World} {a : Act} {c : Code} {body : Env → World → (Env → World → Prop) → Prop}
    (ha : Agree n ρ a) (hall : allIn live ms = true) (hmono : ∀ σ w K K', (∀ σ w, K σ w → K' σ w) → body σ w K → body σ w K')
    (h : loopX live ρ (ρ.forget ms) w body)
    (hkeep : ∀ σ w K, body σ w K → body σ w (fun σ' w' => K σ' w' ∧ ∀ j, j ∉ ms → σ' j = σ j))
    (QQ : (Act → World → Prop) → Exit → Act → World → Prop)
    (hbody : ∀ σ a w (K : Env → World → Prop) (J : Act → World → Prop), Agree n σ a → body σ w K → (∀ a' w', Nxt n K a' w' → J a' w') → c.wp P (QQ J) a w) :
    ∃ (J : Act → World → Prop) (μ : Act → World → Nat), J a w ∧ ∀ a w, J a w → c.wp P (QQ fun a' w' => J a' w' ∧ μ a' w' < μ a w) a w := by
  obtain ⟨I, μ, ⟨σ0, hI0, hl0⟩, hform, hμ, hstep⟩ := loopX_out (allIn_nodup hall) hmono h
  have hin := allIn_mem hall
  refine ⟨fun a w => ∃ σ, Agree n σ a ∧ I σ w ∧ ∀ j, j ∉ ms → a.tmps[j]? = a.tmps[j]? , fun a w => μ (fun j => a.tmps[j]?) w, ?_, ?_⟩
  · refine ⟨σ0, ⟨ha.size, ha.nodef, fun j v hj => ?_⟩, hI0, fun _ _ => rfl⟩
    by_cases hjl : j ∈ live
    · rw [hl0 j hjl] at hj
      exact ha.val j v hj
    · rw [(hform _ _ hI0).1 j hjl] at hj
      by_cases hm : j ∈ ms
      · rw [forget_in hm] at hj; cases hj
      · rw [forget_other hm] at hj; exact ha.val j v hj
  · rintro a w ⟨σ, hσ, hI, _⟩
    have hb := hkeep _ _ _ (hstep σ w hI)
    refine hbody σ a w _ _ hσ hb ?_
    rintro a' w' ⟨σ', hσ', ⟨σ1, hI1, hlt, heq⟩, hk⟩
    have hA1 : Agree n σ1 a' := by
      refine ⟨hσ'.size, hσ'.nodef, fun j v hj => ?_⟩
      by_cases hjl : j ∈ live
      · rw [heq j hjl] at hj
        exact hσ'.val j v hj
      · rw [(hform _ _ hI1).1 j hjl] at hj
        by_cases hm : j ∈ ms
        · rw [forget_in hm] at hj; cases hj
        · refine hσ'.val j v ?_
          rw [hk j hm, (hform _ _ hI).1 j hjl]
          exact hj
    refine ⟨⟨σ1, hA1, hI1, fun _ _ => rfl⟩, ?_⟩
    have e1 : μ (fun j => a'.tmps[j]?) w' = μ σ1 w' := hμ _ _ _ fun j hj => by
      obtain ⟨x, hx⟩ := (hform _ _ hI1).2 j hj
      rw [hx]
      exact hA1.val j x hx
    have e2 : μ (fun j => a.tmps[j]?) w = μ σ w := hμ _ _ _ fun j hj => by
      obtain ⟨x, hx⟩ := (hform _ _ hI).2 j hj
      rw [hx]
      exact hσ.val j x hx
    show μ (fun j => a'.tmps[j]?) w' < μ (fun j => a.tmps[j]?) w
    rw [e1, e2]
    exact hlt

theorem joinX_out {live ms : List Nat} {ρ : Env} {first : (Env → World → Prop) → Prop} {rest : Env → World → Prop} (hall : allIn live ms = true)
    (hmono : ∀ K K', (∀ σ w, (∀ j, j ∉ ms → σ j = ρ j) → K σ w → K' σ w) → first K → first K') (h : joinX live (ρ.forget ms) first rest) :
    first (fun σ w => ∃ σ', (∀ j v, σ' j = some v → σ j = some v) ∧ rest σ' w) := by
  have hin := allIn_mem hall
  have hnd := allIn_nodup hall
  have base : ∀ (σ : Env), (∀ j, j ∉ ms → σ j = ρ j) → ∀ j v, (ρ.forget ms) j = some v → σ j = some v := by
    intro σ hσ j v hj
    by_cases hm : j ∈ ms
    · rw [forget_in hm] at hj; cases hj
    · rw [forget_other hm] at hj; rw [hσ j hm]; exact hj
  have one : ∀ (σ ρ' : Env) (a : Nat) (x : Value), σ a = some x → (∀ j v, ρ' j = some v → σ j = some v) → ∀ j v, (ρ'.set a (some x)) j = some v → σ j = some v := by
    intro σ ρ' a x ha hρ j v hj
    by_cases e : j = a
    · subst e; rw [set_same] at hj; rw [ha]; exact hj
    · rw [set_other e] at hj; exact hρ j v hj
  unfold joinX at h
  split at h
  · obtain ⟨J, hf, hr⟩ := h
    exact hmono _ _ (fun σ w hσ hJ => ⟨_, base σ hσ, hr w hJ⟩) hf
  · obtain ⟨J, hf, hr⟩ := h
    refine hmono _ _ (fun σ w hσ hJ => ?_) hf
    split at hJ
    · rename_i x hx
      exact ⟨_, one _ _ _ _ hx (base σ hσ), hr _ w hJ⟩
    · cases hJ
  · obtain ⟨J, hf, hr⟩ := h
    refine hmono _ _ (fun σ w hσ hJ => ?_) hf
    split at hJ
    · rename_i x y hx hy
      exact ⟨_, one _ _ _ _ hy (one _ _ _ _ hx (base σ hσ)), hr _ _ w hJ⟩
    · cases hJ
  · obtain ⟨J, hf, hr⟩ := h
    refine hmono _ _ (fun σ w hσ hJ => ?_) hf
    split at hJ
    · rename_i x y z hx hy hz
      exact ⟨_, one _ _ _ _ hz (one _ _ _ _ hy (one _ _ _ _ hx (base σ hσ))), hr _ _ _ w hJ⟩
    · cases hJ
  · cases h

theorem Agree.less {ρ ρ' : Env} {a : Act} (h : Agree n ρ a) (hl : ∀ j v, ρ' j = some v → ρ j = some v) : Agree n ρ' a :=
  ⟨h.size, h.nodef, fun j v hj => h.val j v (hl j v hj)⟩

/-! ### Inside a scope -/
def SP (P : Program) (c0 : Code) (Q : Exit → Act → World → Prop) (c : Code) (a : Act) (w : World) : Prop :=
  ∀ b k cs, ∃ e a' w', Q e a' w' ∧ Arrives P (lone (b.at a (.code c :: .inScope c0 :: k)) cs w) b k cs e a' w'

theorem scope_of_SP {c0 : Code} {Q : Exit → Act → World → Prop} {a : Act} {w : World} (h : SP P c0 Q c0 a w) : (Code.scope c0).wp P Q a w := by
  intro b k cs
  obtain ⟨e, a', w', hq, harr⟩ := h b k cs
  exact ⟨e, a', w', hq, .of_steps (.one step_scope) harr⟩

theorem SP_of_wp {c0 c : Code} {Q : Exit → Act → World → Prop} {a : Act} {w : World} (hQ : ∀ l a w, ¬ Q (.goto l) a w) (h : c.wp P Q a w) : SP P c0 Q c a w := by
  intro b k cs
  obtain ⟨e, a₁, w₁, hq, harr⟩ := h b (.inScope c0 :: k) cs
  cases e with
  | normal => exact ⟨.normal, a₁, w₁, hq, Steps.trans harr (.one step_inScope)⟩
  | exit id => exact ⟨.exit id, a₁, w₁, hq, fun k' hk => harr k' (by simp [exitTo, hk])⟩
  | goto l => exact (hQ _ _ _ hq).elim
  | ret => exact ⟨_, a₁, w₁, hq, harr⟩
  | panic ch => exact ⟨_, a₁, w₁, hq, harr⟩
  | outgrown => exact ⟨_, a₁, w₁, hq, harr⟩

theorem SP_seq {c0 x y : Code} {Q : Exit → Act → World → Prop} {a : Act} {w : World} (hQ : ∀ l a w, ¬ Q (.goto l) a w)
    (h : x.wp P (Exit.then (fun a w => SP P c0 Q y a w) Q) a w) : SP P c0 Q (.seq x y) a w := by
  intro b k cs
  obtain ⟨e, a₁, w₁, hq, harr⟩ := h b (.code y :: .inScope c0 :: k) cs
  cases e with
  | normal =>
    obtain ⟨e₂, a₂, w₂, hq₂, harr₂⟩ := hq b k cs
    exact ⟨e₂, a₂, w₂, hq₂, .of_steps (.head step_seq harr) harr₂⟩
  | exit id => exact ⟨_, a₁, w₁, hq, fun k' hk => .head step_seq (harr k' (by simp [exitTo, hk]))⟩
  | goto l => exact (hQ _ _ _ hq).elim
  | ret => exact ⟨_, a₁, w₁, hq, .of_steps (b := b) (k := k) (cs := cs) (e := .ret) (.one step_seq) harr⟩
  | panic ch => exact ⟨_, a₁, w₁, hq, .of_steps (b := b) (k := k) (cs := cs) (e := .panic ch) (.one step_seq) harr⟩
  | outgrown => exact ⟨_, a₁, w₁, hq, .of_steps (b := b) (k := k) (cs := cs) (e := .outgrown) (.one step_seq) harr⟩

theorem SP_label {c0 y : Code} {l : Nat} {Q : Exit → Act → World → Prop} {a : Act} {w : World} (hQ : ∀ l a w, ¬ Q (.goto l) a w) (hf : findLabel c0 l = some (.seq .skip y))
    {J : Act → World → Prop} {μ : Act → World → Nat} (h0 : J a w) (pass : ∀ a w, J a w → y.wp P (Exit.jump l (fun a' w' => J a' w' ∧ μ a' w' < μ a w) Q) a w) : SP P c0 Q (.seq (.label l) y) a w := by
  intro b k cs
  have hg : gotoIn l (.inScope c0 :: k) = some (.code (.seq .skip y) :: .inScope c0 :: k) := by simp [gotoIn, hf]
  have key : ∀ n a w, μ a w = n → J a w → ∃ e a' w', Q e a' w' ∧ Arrives P (lone (b.at a (.code y :: .inScope c0 :: k)) cs w) b k cs e a' w' := by
    intro n
    induction n using Nat.strongRecOn with
    | _ n ih =>
      intro a w hn hJ
      obtain ⟨e, a₁, w₁, hq, harr⟩ := pass a w hJ b (.inScope c0 :: k) cs
      cases e with
      | normal => exact ⟨.normal, a₁, w₁, hq, Steps.trans harr (.one step_inScope)⟩
      | exit id => exact ⟨.exit id, a₁, w₁, hq, fun k' hk => harr k' (by simp [exitTo, hk])⟩
      | goto l' =>
        obtain ⟨rfl, hJ', hlt⟩ := hq
        obtain ⟨e₂, a₂, w₂, hq₂, harr₂⟩ := ih _ (by omega) a₁ w₁ rfl hJ'
        exact ⟨e₂, a₂, w₂, hq₂, .of_steps (Steps.trans (harr _ hg) (.head step_seq (.one step_skip))) harr₂⟩
      | ret => exact ⟨_, a₁, w₁, hq, harr⟩
      | panic ch => exact ⟨_, a₁, w₁, hq, harr⟩
      | outgrown => exact ⟨_, a₁, w₁, hq, harr⟩
  obtain ⟨e, a', w', hq, harr⟩ := key _ a w rfl h0
  exact ⟨e, a', w', hq, .of_steps (.head step_seq (.one step_label)) harr⟩

theorem findLabel_none {x : Code} {l : Nat} (h : l ∉ labs x) : findLabel x l = none := by
  induction x with
  | seq a b iha ihb =>
    simp only [labs, List.mem_append, not_or] at h
    simp [findLabel, iha h.1, ihb h.2]
  | label l' =>
    simp only [labs, List.mem_singleton] at h
    simp [findLabel]
    omega
  | _ => simp [findLabel]

theorem lift_mono {Q Q' : Exit → Env → World → Prop} (h : ∀ e ρ w, Q e ρ w → Q' e ρ w) : ∀ e a w, lift n E Q e a w → lift n E Q' e a w := by
  intro e a w hl
  cases e with
  | panic c => exact hl
  | outgrown => exact hl
  | _ => obtain ⟨ρ, ha, hq⟩ := hl; exact ⟨ρ, ha, h _ _ _ hq⟩

theorem comp_sound : ∀ (c : Code) (sc : Bool) (Q : Exit → Env → World → Prop) (ρ : Env) (a : Act) (w : World), Agree n ρ a → comp P n an E sc c Q ρ w →
    (sc = false → c.wp P (lift n E Q) a w) ∧
    (sc = true → ∀ c0, (∀ l, spineLab c = some l → findLabel c0 l = findLabel c l) → (∀ l ρ w, ¬ Q (.goto l) ρ w) → SP P c0 (lift n E Q) c a w) := by
  intro c
  have simple : ∀ (c : Code) (Q : Exit → Env → World → Prop) (a : Act) (w : World) (sc : Bool), c.wp P (lift n E Q) a w →
      (sc = false → c.wp P (lift n E Q) a w) ∧
      (sc = true → ∀ c0, (∀ l, spineLab c = some l → findLabel c0 l = findLabel c l) → (∀ l ρ w, ¬ Q (.goto l) ρ w) → SP P c0 (lift n E Q) c a w) :=
    fun c Q a w sc h => ⟨fun _ => h, fun _ c0 _ hQ => SP_of_wp (fun l a w ⟨ρ, _, hq⟩ => hQ l ρ w hq) h⟩
  induction c with
  | skip => intro sc Q ρ a w ha h; exact simple _ _ _ _ _ (wp_skip ⟨ρ, ha, h⟩)
  | label l => intro sc Q ρ a w ha h; exact simple _ _ _ _ _ (wp_label ⟨ρ, ha, h⟩)
  | exit id => intro sc Q ρ a w ha h; exact simple _ _ _ _ _ (wp_exit ⟨ρ, ha, h⟩)
  | goto l => intro sc Q ρ a w ha h; exact simple _ _ _ _ _ (wp_goto ⟨ρ, ha, h⟩)
  | ret => intro sc Q ρ a w ha h; exact simple _ _ _ _ _ (wp_ret ⟨ρ, ha, h⟩)
  | region i ops d =>
    intro sc Q ρ a w ha h
    refine simple _ _ _ _ _ ?_
    unfold comp at h
    cases d with
    | false => exact wp_region_list (compR_sound _ _ _ _ _ _ ha h)
    | true =>
      simp only at h
      split at h
      · rename_i hf
        simp only [Bool.and_eq_true] at hf
        have hled : Led ops (Array.replicate ops.size false) := by
          intro r ht
          exfalso
          rcases Nat.lt_or_ge r ops.size with h1 | h1
          · simp [h1] at ht
          · simp [h1] at ht
        have fin : ∀ S : World → Prop, S w.drew → compD P n ops E (Q .normal) (tailOf P ops) ops.size (Array.replicate ops.size false) S [] ρ w.drew → (Code.region i ops true).wp P (lift n E Q) a w :=
          fun S hS h => wp_region_any hf.1 (wpAny_of_G _ _ _ _ (compD_sound hf.2 _ _ _ _ _ _ _ ha (by simp) hled (.inr hS) h))
        split at h
        · exact fin (SAME w) rfl h
        · obtain ⟨S, hS, h⟩ := h
          exact fin S hS h
      · cases h
  | seq x y ihx ihy =>
    intro sc Q ρ a w ha h
    have plain : ∀ sc', comp P n an E false x (fun e ρ w => match e with
        | .normal => comp P n an E sc' y Q ρ w
        | e => Q e ρ w) ρ w → x.wp P (lift n E (fun e ρ w => match e with
        | .normal => comp P n an E sc' y Q ρ w
        | e => Q e ρ w)) a w := fun sc' h => (ihx false _ ρ a w ha h).1 rfl
    have joined : ∀ sc' live, allIn live (dsts x) = true → joinX live (ρ.forget (dsts x)) (fun K => comp P n an E false x (fun e ρ w => match e with
        | .normal => K ρ w
        | e => Q e ρ w) ρ w) (fun ρ w => comp P n an E sc' y Q ρ w) → x.wp P (lift n E (fun e ρ w => match e with
        | .normal => ∃ σ', (∀ j v, σ' j = some v → ρ j = some v) ∧ comp P n an E sc' y Q σ' w
        | e => Q e ρ w)) a w := by
      intro sc' live hall h
      have := joinX_out hall (fun K K' hk hf => comp_keep _ _ _ _ _ _ hf fun e ρ' w' hj he => by
        cases e with
        | normal => exact hk _ _ hj he
        | _ => exact he) h
      exact (ihx false _ ρ a w ha this).1 rfl
    unfold comp at h
    split at h
    · refine simple _ _ _ _ _ ?_
      split at h
      · refine wp_seq (wp_mono (plain _ h) fun e a' w' hq => ?_)
        cases e with
        | normal => obtain ⟨ρ', ha', hq⟩ := hq; exact (ihy false _ _ _ _ ha' hq).1 rfl
        | _ => exact hq
      · split at h
        · cases h
        · rename_i hall
          refine wp_seq (wp_mono (joined _ _ hall h) fun e a' w' hq => ?_)
          cases e with
          | normal => obtain ⟨ρ', ha', σ', hl, hq⟩ := hq; exact (ihy false _ _ _ _ (ha'.less hl) hq).1 rfl
          | _ => exact hq
    · refine ⟨fun hf => (by cases hf), fun _ c0 hl hQ => ?_⟩
      have hQ' : ∀ l a w, ¬ lift n E Q (.goto l) a w := fun l a w ⟨ρ, _, hq⟩ => hQ l ρ w hq
      split at h
      · rename_i hx
        split at h
        · cases h
        · rename_i hall
          cases x with
          | label l =>
            simp only at hx
            have hfl : findLabel c0 l = some (.seq .skip y) := by
              rw [hl l (by simp [spineLab, hx])]
              simp [findLabel]
            have hh : ∀ l', Nat.beq (1000 + l') (headNo (.label l)) = true ↔ l' = l := by
              intro l'
              constructor
              · intro h; have := Nat.eq_of_beq_eq_true h; simp only [headNo] at this; omega
              · rintro rfl; simp [headNo]
            obtain ⟨J, μ, h0, pass⟩ := loop_sound (P := P) (c := y) ha hall (body := fun ρ w next => comp P n an E false y (fun e ρ w => match e with
                | .goto l' => match Nat.beq (1000 + l') (headNo (.label l)) with
                  | true => next ρ w
                  | false => False
                | e => Q e ρ w) ρ w)
              (fun σ w K K' hk hb => comp_keep _ _ _ _ _ _ hb fun e ρ' w' _ he => by
                cases e with
                | goto l' =>
                  simp only at he ⊢
                  split
                  · rename_i hb'; rw [hb'] at he; exact hk _ _ he
                  · rename_i hb'; rw [hb'] at he; exact he
                | _ => exact he) h
              (fun σ w K hb => comp_keep _ _ _ _ _ _ hb fun e ρ' w' hj he => by
                cases e with
                | goto l' =>
                  simp only at he ⊢
                  split
                  · rename_i hb'; rw [hb'] at he; exact ⟨he, hj⟩
                  · rename_i hb'; rw [hb'] at he; exact he
                | _ => exact he)
              (fun J => Exit.jump l J (lift n E Q))
              (fun σ a w K J hσ hb hJ => wp_mono ((ihy false _ _ _ _ hσ hb).1 rfl) fun e a' w' hq => by
                cases e with
                | goto l' =>
                  obtain ⟨ρ', ha', hq⟩ := hq
                  simp only at hq
                  split at hq
                  · rename_i hb'
                    exact ⟨(hh l').1 hb', hJ _ _ ⟨ρ', ha', hq⟩⟩
                  · cases hq
                | _ => exact hq)
            exact SP_label hQ' hfl h0 pass
          | _ => simp at hx
      · split at h
        · cases h
        · rename_i hx _ hcl
          have hl2 : ∀ l, spineLab y = some l → findLabel c0 l = findLabel y l := by
            intro l hl'
            have hnl : l ∉ labs x := by
              unfold clearLab at hcl
              rw [hl'] at hcl
              simpa using hcl
            have e1 : spineLab (.seq x y) = some l := by
              unfold spineLab
              cases x with
              | label l2 =>
                simp only at hx ⊢
                rw [hx]
                exact hl'
              | _ => exact hl'
            rw [hl l e1]
            simp [findLabel, findLabel_none hnl]
          split at h
          · refine SP_seq hQ' (wp_mono (plain _ h) fun e a' w' hq => ?_)
            cases e with
            | normal =>
              obtain ⟨ρ', ha', hq⟩ := hq
              exact (ihy true _ _ _ _ ha' hq).2 rfl c0 hl2 hQ
            | _ => exact hq
          · split at h
            · cases h
            · rename_i hall
              refine SP_seq hQ' (wp_mono (joined _ _ hall h) fun e a' w' hq => ?_)
              cases e with
              | normal =>
                obtain ⟨ρ', ha', σ', hl3, hq⟩ := hq
                exact (ihy true _ _ _ _ (ha'.less hl3) hq).2 rfl c0 hl2 hQ
              | _ => exact hq
  | cond x b c ihb ihc =>
    intro sc Q ρ a w ha h
    refine simple _ _ _ _ _ ?_
    unfold comp at h
    split at h
    · rename_i v hv
      have hev := ha.ev hv
      rcases h with ⟨rfl, h⟩ | ⟨rfl, h⟩
      · exact wp_cond_true hev ((ihb false _ _ _ _ ha h).1 rfl)
      · exact wp_cond_false hev ((ihc false _ _ _ _ ha h).1 rfl)
    · cases h
  | block id c ih =>
    intro sc Q ρ a w ha h
    refine simple _ _ _ _ _ ?_
    unfold comp at h
    refine wp_block (wp_mono ((ih false _ _ _ _ ha h).1 rfl) fun e a' w' hq => ?_)
    cases e with
    | exit id' =>
      obtain ⟨ρ', ha', hq⟩ := hq
      simp only at hq
      unfold Exit.inBlock
      dsimp only
      split at hq
      · rename_i hb
        rw [if_pos (Nat.eq_of_beq_eq_true hb)]
        exact ⟨ρ', ha', hq⟩
      · rename_i hb
        rw [if_neg (fun e => by subst e; simp at hb)]
        exact ⟨ρ', ha', hq⟩
    | _ => exact hq
  | loop c ih =>
    intro sc Q ρ a w ha h
    refine simple _ _ _ _ _ ?_
    unfold comp at h
    split at h
    · cases h
    · rename_i hall
      obtain ⟨J, μ, h0, pass⟩ := loop_sound (P := P) (c := c) ha hall (body := fun ρ w next => comp P n an E false c (fun e ρ w => match e with
          | .normal => next ρ w
          | e => Q e ρ w) ρ w)
        (fun σ w K K' hk hb => comp_keep _ _ _ _ _ _ hb fun e ρ' w' _ he => by
          cases e with
          | normal => exact hk _ _ he
          | _ => exact he) h
        (fun σ w K hb => comp_keep _ _ _ _ _ _ hb fun e ρ' w' hj he => by
          cases e with
          | normal => exact ⟨he, hj⟩
          | _ => exact he)
        (fun J => Exit.then J (lift n E Q))
        (fun σ a w K J hσ hb hJ => wp_mono ((ih false _ _ _ _ hσ hb).1 rfl) fun e a' w' hq => by
          cases e with
          | normal => exact hJ _ _ hq
          | _ => exact hq)
      exact wp_loop J μ h0 pass
  | scope c ih =>
    intro sc Q ρ a w ha h
    refine simple _ _ _ _ _ ?_
    unfold comp at h
    refine scope_of_SP ?_
    have := (ih true _ _ _ _ ha h).2 rfl c (fun _ _ => rfl) (fun l ρ w h => h)
    intro b k cs
    obtain ⟨e, a', w', hq, harr⟩ := this b k cs
    refine ⟨e, a', w', ?_, harr⟩
    cases e with
    | goto l => obtain ⟨ρ', _, hq⟩ := hq; exact hq.elim
    | _ => exact hq
  | rangeFunc f ps a b => intro sc Q ρ a w ha h; exact h.elim
  | refuse s => intro sc Q ρ a w ha h; exact h.elim

end
end Go.Sx
namespace Go.Sx
open Go

theorem argEnv_spec : ∀ (vs : List Value) (i j : Nat) (v : Value), argEnv i vs j = some v → i ≤ j ∧ vs[j - i]? = some v
  | [], i, j, v, h => by cases h
  | u :: vs, i, j, v, h => by
    unfold argEnv at h
    by_cases e : j = i
    · subst e
      rw [set_same] at h
      simp at h
      simp [h]
    · rw [set_other e] at h
      have := argEnv_spec vs (i + 1) j v h
      refine ⟨by omega, ?_⟩
      have e2 : j - i = (j - (i + 1)) + 1 := by omega
      rw [e2]
      simpa using this.2

theorem agree_args {n : Nat} {vs : List Value} (h : vs.length ≤ n) : Agree n (argEnv 0 vs) { tmps := vs.toArray ++ Array.replicate (n - vs.toArray.size) undef, defers := [] } := by
  refine ⟨by simp; omega, rfl, fun j v hj => ?_⟩
  obtain ⟨_, hv⟩ := argEnv_spec _ _ _ _ hj
  have hlt : j < vs.length := (List.getElem?_eq_some_iff.1 hv).1
  simp only
  rw [Array.getElem?_append_left (by simpa using hlt)]
  simpa using hv

theorem getD_of {a : Act} {i : Nat} {v : Value} (h : a.tmps[i]? = some v) : a.tmps.getD i undef = v := by
  simp [Array.getD_eq_getD_getElem?, h]

theorem RES_sound {P : Program} {n : Nat} {fn : Func} {ρ : Env} {a : Act} {w : World} {K : Value → Prop} (ha : Agree n ρ a) (h : RES P fn.results.toList ρ w K) :
    ∃ v, (results fn a.tmps).run P w = .ok v w ∧ K v := by
  have hrs : fn.results = fn.results.toList.toArray := by simp
  generalize fn.results.toList = l at *
  unfold RES at h
  split at h
  · exact ⟨_, by simp [results, hrs], h⟩
  · split at h
    · rename_i v hv
      exact ⟨v, by simp [results, hrs, ha.val _ _ hv], h⟩
    · cases h
  · split at h
    · rename_i v hv
      obtain ⟨x, hx, hK⟩ := h
      refine ⟨x, ?_, hK⟩
      simp only [results, hrs]
      replace hx : (Sem.bind (asAddr v) fun q => loadVar _ q).run P w = .ok x w := hx
      rw [run_bind] at hx
      cases hq : (asAddr v).run P w with
      | halt e w1 => rw [hq] at hx; cases hx
      | ok q w1 =>
        rw [hq] at hx
        have := ha.val _ _ hv
        simp only [] at hx
        simp [this, hq, hx, Result.andThen]
    · cases h
  · split at h
    · rename_i v u hv hu
      exact ⟨_, by simp [results, hrs, ha.val _ _ hv, ha.val _ _ hu], h⟩
    · cases h
  · split at h
    · rename_i v u t hv hu ht
      exact ⟨_, by simp [results, hrs, ha.val _ _ hv, ha.val _ _ hu, ha.val _ _ ht], h⟩
    · cases h
  · cases h

/-- The way in: a call, out of what its body comes to. -/
theorem calls_comp {P : Program} {f : FuncId} {fn : Func} {c : Code} {args : List Value} {w : World} {R : Ending → World → Prop} (an : List (Nat × List Nat))
    (hf : P.funcs[f]? = some fn) (hb : fn.body = some c) (hn : args.length ≤ fn.ntmps)
    (h : comp P fn.ntmps an (fun c w => R (.panicked c) w) false c (bodyQ P fn.results.toList R) (argEnv 0 args) w) : Calls P f args.toArray w R := by
  refine calls_of_wp hf hb ?_
  refine wp_mono ((comp_sound _ _ _ _ _ _ (agree_args hn) h).1 rfl) fun e a' w' hq => ?_
  cases e with
  | normal =>
    obtain ⟨ρ, ha, hq⟩ := hq
    obtain ⟨v, hr, hK⟩ := RES_sound (fn := fn) (K := fun v => R (.returned v) w') ha hq
    exact ⟨ha.nodef, v, hr, hK⟩
  | ret =>
    obtain ⟨ρ, ha, hq⟩ := hq
    obtain ⟨v, hr, hK⟩ := RES_sound (fn := fn) (K := fun v => R (.returned v) w') ha hq
    exact ⟨ha.nodef, v, hr, hK⟩
  | panic c => exact hq
  | exit id => obtain ⟨ρ, _, hq⟩ := hq; exact hq
  | goto l => obtain ⟨ρ, _, hq⟩ := hq; exact hq
  | outgrown => exact (hq : False).elim

def bodyOf (fn : Func) : Code := fn.body.getD .skip

theorem calls_by {P : Program} {f : FuncId} {fn : Func} {args : List Value} {w : World} {R : Ending → World → Prop} (an : List (Nat × List Nat)) (hf : P.funcs[f]? = some fn) (hb : fn.body.isSome = true)
    (hn : Nat.ble args.length fn.ntmps = true) {T : Prop}
    (e : comp P fn.ntmps an (fun c w => R (.panicked c) w) false (bodyOf fn) (bodyQ P fn.results.toList R) (argEnv 0 args) w = T) (h : T) : Calls P f args.toArray w R := by
  obtain ⟨c, hc⟩ := Option.isSome_iff_exists.1 hb
  have : bodyOf fn = c := by simp [bodyOf, hc]
  rw [this] at e
  exact calls_comp an hf hc (Nat.le_of_ble_eq_true hn) (e.mpr h)

end Go.Sx
